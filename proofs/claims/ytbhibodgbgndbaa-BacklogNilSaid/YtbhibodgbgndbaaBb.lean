/- What the laws share: identities out of the argument, what Add has done, one backlog in a round. No condition. -/
import Derived.Test.YtbhibodgbgndbaaY
namespace Go.Proofs.Ytbhibodgbgndbaa.B
open Go Go.RowKit Go.Proofs Go.Proofs.YtbhibodgbgndbaaW.PrintWords Go.Proofs.YtbhibodgbgndbaaW.PrintLast Go.Proofs.YtbhibodgbgndbaaW.PrintMore
set_option linter.unusedVariables false
set_option linter.unusedSimpArgs false

/-! an identity in the block that was made last; an identity out of the argument -/
def alc30 : Sem Value := Instr.alloc 30 true (.tuple #[])
theorem execOp_alc30 (ρ : Operand → Value) (dst : Option Tmp) (ty : TypeId) (pos : String) (after : Array Edge) (guard : Option (Nat × Bool)) :
    execOp ρ { dst, op := .alloc 30, type := ty, pos, after, guard } = (do pure (.value (← alc30))) := by simp [execOp, alc30]
theorem run_alc30 (W : World) : alc30.run Try.prog W = .ok (.pointer (some ⟨W.heap.size, 0, none⟩)) (W.alloc (.cells zeros32.toArray 30)) := by
  obtain ⟨it, h3, h4⟩ := Option.bind_eq_some_iff.1 zero30'
  simp [alc30, Instr.alloc, zeroValue, typeInfo, h3, h4, newVar, newRow, Value.cells, Result.andThen]
def st30 (p v : Value) : Sem Unit := Instr.storeAt 30 p v
theorem execOp_st30 (ρ : Operand → Value) (dst : Option Tmp) (p x : Operand) (ty : TypeId) (pos : String) (after : Array Edge) (guard : Option (Nat × Bool)) :
    execOp ρ { dst, op := .store 30 p x, type := ty, pos, after, guard } = (do st30 (ρ p) (ρ x); pure .skip) := by simp [execOp, st30]
theorem run_st30 (W : World) (N : Nat) (x : List Int) (hN : W.heap.size = N) (hx : Aside0 (x.length = 32)) : (st30 (.pointer (some ⟨N, 0, none⟩)) (.agg (x.map (Value.int .u8)).toArray)).run Try.prog (W.alloc (.cells zeros32.toArray 30)) = .ok () (W.alloc (.cells (idC x) 30)) := by
  subst hN
  refine run_storeAt_new W 30 _ _ (by simpa [hx.out] using info30) (by simp [zeros32, hx.out]) (all_oneCell_toArray (id_one x))
def ld29 (p : Value) : Sem Value := Instr.loadAt 29 p
theorem execOp_ld29 (ρ : Operand → Value) (dst : Option Tmp) (p : Operand) (ty : TypeId) (pos : String) (after : Array Edge) (guard : Option (Nat × Bool)) :
    execOp ρ { dst, op := .load 29 p, type := ty, pos, after, guard } = (do pure (.value (← ld29 (ρ p)))) := by simp [execOp, ld29]
theorem info29 : (Try.prog.info? 29).map (·.size) = some 32 := by kernel_rfl
theorem run_ld29 (W : World) (b o : Nat) (x : List Int) (hx : x.length = 32) (h : W.rangeAt b o (x.map (Value.int .u8))) : (ld29 (.pointer (some ⟨b, o, none⟩))).run Try.prog W = .ok (.agg (x.map (Value.int .u8)).toArray) W :=
  run_loadAt_mid W b o 29 _ _ h Try.underlying29 rfl (by rw [List.length_map, hx]; exact info29)
theorem idok_zero : Idok zeroId := ⟨by simp [zeroId], fun z hz => by rw [List.eq_of_mem_replicate hz]; decide⟩

/-- What Add has done, seen by the law. -/
theorem add_seen (s : St) (x : List Int) (hw : WF s) (hz : zeroId ∉ s.es.map (·.1)) : ∃ b9 b0 z r : Bool, ((addS s x 1).2 == 9) = b9 ∧ ((addS s x 1).2 == 0) = b0 ∧ decide (x = zeroId) = z ∧ decide (x ∈ (addS s x 1).1.es.map (·.1)) = r ∧
    (addS s x 1).1.cap = s.cap ∧ zeroId ∉ (addS s x 1).1.es.map (·.1) ∧
    ((b9 = true ∧ b0 = false ∧ z = false ∧ r = false ∧ (addS s x 1).1.missed = true ∧ ((addS s x 1).1.es.length : Int) = s.cap) ∨ (b9 = false ∧ b0 = true ∧ z = false ∧ r = true) ∨ (b9 = false ∧ b0 = false ∧ z = true ∧ r = false) ∨ (b9 = false ∧ b0 = false ∧ z = false ∧ r = true)) := by
  refine ⟨_, _, _, _, rfl, rfl, rfl, rfl, ?_⟩
  unfold addS
  by_cases h1 : x = zeroId
  · subst h1
    rw [if_pos rfl]
    exact ⟨rfl, hz, .inr (.inr (.inl ⟨rfl, rfl, decide_eq_true rfl, decide_eq_false hz⟩))⟩
  · rw [if_neg h1, if_neg (by decide)]
    by_cases h2 : x ∈ s.es.map (·.1)
    · rw [if_pos h2]
      exact ⟨rfl, hz, .inr (.inr (.inr ⟨rfl, rfl, decide_eq_false h1, decide_eq_true h2⟩))⟩
    · rw [if_neg h2]
      by_cases h3 : s.cap ≤ (s.es.length : Int)
      · rw [if_pos h3]
        have := hw.few
        exact ⟨rfl, hz, .inl ⟨rfl, rfl, decide_eq_false h1, decide_eq_false h2, rfl, by show (s.es.length : Int) = s.cap; omega⟩⟩
      · rw [if_neg h3]
        refine ⟨rfl, ?_, .inr (.inl ⟨rfl, rfl, decide_eq_false h1, decide_eq_true (by simp)⟩)⟩
        simp only [List.map_append, List.mem_append, not_or]
        exact ⟨hz, by simpa using fun e => h1 e.symm⟩
theorem addS_few (s : St) (x : List Int) (d : Int) (hw : WF s) : ((addS s x d).1.es.length : Int) ≤ s.cap := by
  have h := hw.few
  unfold addS
  split
  · exact h
  · split
    · exact h
    · split
      · exact h
      · split
        · exact h
        · simp; omega
theorem addS_wf (s : St) (x : List Int) (d : Int) (hw : WF s) (hx : Idok x) : WF (addS s x d).1 := by
  unfold addS
  split
  · exact hw
  · split
    · exact hw
    · split
      · exact hw
      · rename_i hn
        split
        · exact ⟨hw.cap1, hw.cap2, hw.wait1, hw.wait2, hw.few, hw.ids, hw.nod, hw.sub⟩
        · exact hw.add hx hn (by omega) d 0
theorem rem_seen (s : St) (x : List Int) (hw : WF s) (hz : zeroId ∉ s.es.map (·.1)) : (remS s x).2 = decide (x ∈ s.es.map (·.1)) ∧ decide (x ∈ (remS s x).1.es.map (·.1)) = false ∧ (remS s x).1.cap = s.cap ∧ zeroId ∉ (remS s x).1.es.map (·.1) := by
  unfold remS
  by_cases h : x ∈ s.es.map (·.1)
  · rw [if_pos h]
    obtain ⟨i, e, k1, k2, k3⟩ := idx_some x s.es 0 h
    have k4 : idxOf s.es x = ((0 + i : Nat) : Int) := k1
    rw [Nat.zero_add] at k4
    have k5 : (idxOf s.es x).toNat = i := by rw [k4]; simp
    rw [k5]
    have hmm : (s.es.eraseIdx i).map (·.1) = (s.es.map (·.1)).eraseIdx i := by simp [List.eraseIdx_eq_take_drop_succ]
    refine ⟨(decide_eq_true h).symm, decide_eq_false (fun hx => ?_), rfl, fun hx => ?_⟩
    · have hx : x ∈ (s.es.eraseIdx i).map (·.1) := hx
      rw [hmm] at hx
      obtain ⟨j, hj, hji, hjx⟩ := List.mem_eraseIdx_iff_getElem.1 hx
      obtain ⟨h1, h2⟩ := List.getElem?_eq_some_iff.1 k2
      have hxi : (s.es.map (·.1))[i]'(by simpa using h1) = x := by simp [h2, k3]
      exact hji ((List.getElem_inj hw.nod).1 (hjx.trans hxi.symm))
    · have hx : zeroId ∈ (s.es.eraseIdx i).map (·.1) := hx
      rw [hmm] at hx
      exact hz (List.mem_of_mem_eraseIdx hx)
  · rw [if_neg h]
    exact ⟨(decide_eq_false h).symm, decide_eq_false h, rfl, hz⟩

attribute [local go_sem ↓] execOp_ld30 execOp_ld29 execOp_alc30 execOp_st30
attribute [local go_sem] run_alc30 run_st30
theorem box_far {w w1 : World} {F : Nat → Prop} {x : List Int} (hU : Upd F (w.alloc (.cells (idC x) 30)) w1) (hF : ∀ k, F k → k < w.heap.size) : w1.rangeAt w.heap.size 0 (x.map (Value.int .u8)) := fun j v_ hv => by
  have h0 := id_range w x j v_ hv
  have hb := hU.block w.heap.size (by simp) (fun hk => absurd (hF _ hk) (Nat.lt_irrefl _))
  exact (World.cell?_of_block (w := w.alloc (.cells (idC x) 30)) hb).trans h0
theorem range_below {w w1 : World} {b o : Nat} {cs : List Value} (h : w.rangeAt b o cs) (hb : Below w.heap.size w w1) : w1.rangeAt b o cs := fun j v hv => (hb.cell (World.block_lt_of_cell? _ _ (h j v hv))).trans (h j v hv)
theorem range_upd {w w1 : World} {F : Nat → Prop} {b o : Nat} {cs : List Value} (h : w.rangeAt b o cs) (hU : Upd F w w1) (hF : ¬ F b) : w1.rangeAt b o cs := fun j v hv =>
  (World.cell?_of_block (w := w) (hU.block b (World.block_lt_of_cell? _ _ (h j v hv)) hF)).trans (h j v hv)
theorem op_at {w w2 : World} {a : Addr} {l : List OpV} {i : Nat} {o : OpV} (h : OpsAt w (some a) l) (he : l[i]? = some o) (hb : Below w.heap.size w w2) : OpAt w2 (a.add (i * 36)) o := by
  obtain ⟨a', e, k⟩ := (h.below hb) i o he
  cases e; exact k
theorem not_own {w : World} {o : Obj} {F F1 : Nat → Prop} (h : ∀ k, F1 k → F k ∨ (w.alloc o).heap.size ≤ k) (hF : ∀ k, F k → k < w.heap.size) : ¬ F1 w.heap.size := fun hk => by
  rcases h _ hk with h1 | h1
  · exact absurd (hF _ h1) (Nat.lt_irrefl _)
  · simp at h1; omega
theorem drew_bl {w : World} {F : Nat → Prop} {g gm : Nat} {s : St} (h : BL w F g gm s) : BL w.drew F g gm s := h.kept fun _ _ => rfl
/-- What a round of a law knows of the one backlog. -/
structure Rd (w wr : World) (F : Nat → Prop) (g gm : Nat) (s : St) (n : Int) : Prop where
  on : On w.heap.size w wr F
  bl : BL wr F g gm s
  nz : zeroId ∉ s.es.map (·.1)
  cap : s.cap = n
end Go.Proofs.Ytbhibodgbgndbaa.B
