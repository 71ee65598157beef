/- An entry in a new block; Drop; All. No condition. -/
import Derived.Test.YtbhibodgbgndbaaQ
namespace Go.Proofs.Ytbhibodgbgndbaa.B
open Go Go.RowKit Go.Proofs Go.MapKept Go.ChangeMaps Go.Proofs.YtbhibodgbgndbaaW.PrintWords Go.Proofs.YtbhibodgbgndbaaW.PrintLast Go.Proofs.YtbhibodgbgndbaaW.PrintMore
set_option linter.unusedVariables false
set_option linter.unusedSimpArgs false

/-! an entry in the block that was made last -/
def alc59 : Sem Value := Instr.alloc 59 true (.tuple #[])
theorem execOp_alc59 (ρ : Operand → Value) (dst : Option Tmp) (ty : TypeId) (pos : String) (after : Array Edge) (guard : Option (Nat × Bool)) :
    execOp ρ { dst, op := .alloc 59, type := ty, pos, after, guard } = (do pure (.value (← alc59))) := by simp [execOp, alc59]
theorem run_alc59 (W : World) : alc59.run Try.prog W = .ok (.pointer (some ⟨W.heap.size, 0, none⟩)) (W.alloc (.cells zeros34.toArray 59)) := by
  obtain ⟨z, hz, hc⟩ := zero59v W
  simp [alc59, Instr.alloc, hz, newVar, hc, newRow, Result.andThen]
def st59 (p v : Value) : Sem Unit := Instr.storeAt 59 p v
theorem execOp_st59 (ρ : Operand → Value) (dst : Option Tmp) (p x : Operand) (ty : TypeId) (pos : String) (after : Array Edge) (guard : Option (Nat × Bool)) :
    execOp ρ { dst, op := .store 59 p x, type := ty, pos, after, guard } = (do st59 (ρ p) (ρ x); pure .skip) := by simp [execOp, st59]
theorem run_st59 (W : World) (N : Nat) (x : List Int) (d t : Int) (hN : W.heap.size = N) (hx : Aside0 (x.length = 32)) : (st59 (.pointer (some ⟨N, 0, none⟩)) (.agg (entL x d t).toArray)).run Try.prog (W.alloc (.cells zeros34.toArray 59)) = .ok () (W.alloc (.cells (entL x d t).toArray 59)) := by
  subst hN
  have hl := entL_len x hx.out d t
  refine run_storeAt_new W 59 _ _ (by simpa [hl] using info59) (by simp [hl, zeros34]) (all_oneCell_toArray (ent_one x d t))
theorem ent_new (W : World) (N : Nat) (x : List Int) (d t : Int) (hN : W.heap.size = N) (j : Nat) : (W.alloc (.cells (entL x d t).toArray 59)).cell? ⟨N, j, none⟩ = (entL x d t)[j]? := by
  subst hN
  rw [cell_of_row _ _ _ _ 59 (0, 0) (heap_alloc_last W _)]; simp
theorem cell_ent32 (W : World) (N : Nat) (x : List Int) (d t : Int) (hN : W.heap.size = N) (hx : Aside0 (x.length = 32)) : (W.alloc (.cells (entL x d t).toArray 59)).cell? ⟨N, 32, none⟩ = some (.int .i64 d) := by
  rw [ent_new W N x d t hN, entL, List.getElem?_append_right (by simp [hx.out])]; simp [hx.out]
theorem cell_ent33 (W : World) (N : Nat) (x : List Int) (d t : Int) (hN : W.heap.size = N) (hx : Aside0 (x.length = 32)) : (W.alloc (.cells (entL x d t).toArray 59)).cell? ⟨N, 33, none⟩ = some (.int .i64 t) := by
  rw [ent_new W N x d t hN, entL, List.getElem?_append_right (by simp [hx.out])]; simp [hx.out]
theorem set_new (W : World) (cs : List Value) (j : Nat) (v : Value) : (W.alloc (.cells cs.toArray 59)).setCell ⟨W.heap.size, j, none⟩ v = W.alloc (.cells (cs.set j v).toArray 59) := by
  simp only [World.setCell, World.alloc]
  congr 1
  apply Array.ext_getElem?
  intro i
  rw [Array.getElem?_modify, Array.getElem?_push, Array.getElem?_push]
  by_cases h : W.heap.size = i
  · subst h; simp
  · have h2 : ¬ i = W.heap.size := fun e => h e.symm
    simp [h, h2]
theorem set_ent32 (W : World) (N : Nat) (x : List Int) (d t d' : Int) (hN : W.heap.size = N) (hx : Aside0 (x.length = 32)) : (W.alloc (.cells (entL x d t).toArray 59)).setCell ⟨N, 32, none⟩ (.int .i64 d') = W.alloc (.cells (entL x d' t).toArray 59) := by
  subst hN
  rw [set_new]
  congr 3
  rw [entL, List.set_append]; simp [hx.out, entL]
theorem set_ent33 (W : World) (N : Nat) (x : List Int) (d t t' : Int) (hN : W.heap.size = N) (hx : Aside0 (x.length = 32)) : (W.alloc (.cells (entL x d t).toArray 59)).setCell ⟨N, 33, none⟩ (.int .i64 t') = W.alloc (.cells (entL x d t').toArray 59) := by
  subst hN
  rw [set_new]
  congr 3
  rw [entL, List.set_append]; simp [hx.out, entL]
theorem at_ent32 (x : List Int) (d t : Int) (hx : Aside0 (x.length = 32)) : (entL x d t)[32]? = some (.int .i64 d) := by
  rw [entL, List.getElem?_append_right (by simp [hx.out])]; simp [hx.out]
theorem at_ent33 (x : List Int) (d t : Int) (hx : Aside0 (x.length = 32)) : (entL x d t)[33]? = some (.int .i64 t) := by
  rw [entL, List.getElem?_append_right (by simp [hx.out])]; simp [hx.out]
theorem put_ent32 (x : List Int) (d t d' : Int) (hx : Aside0 (x.length = 32)) : (entL x d t).set 32 (.int .i64 d') = entL x d' t := by
  rw [entL, List.set_append]; simp [hx.out, entL]
theorem put_ent33 (x : List Int) (d t t' : Int) (hx : Aside0 (x.length = 32)) : (entL x d t).set 33 (.int .i64 t') = entL x d t' := by
  rw [entL, List.set_append]; simp [hx.out, entL]
theorem fro_ent (W : World) (N : Nat) (cs : Array Value) (j : Nat) (hN : W.heap.size = N) : (W.alloc (.cells cs 59)).frozen? ⟨N, j, none⟩ = false := by
  subst hN
  exact blk_frozen (heap_alloc_last W _) j
def ld59 (p : Value) : Sem Value := Instr.loadAt 59 p
theorem execOp_ld59 (ρ : Operand → Value) (dst : Option Tmp) (p : Operand) (ty : TypeId) (pos : String) (after : Array Edge) (guard : Option (Nat × Bool)) :
    execOp ρ { dst, op := .load 59 p, type := ty, pos, after, guard } = (do pure (.value (← ld59 (ρ p)))) := by simp [execOp, ld59]
theorem run_ld59 (W : World) (b o : Nat) (x : List Int) (d t : Int) (hx : x.length = 32) (h : W.rangeAt b o (entL x d t)) : (ld59 (.pointer (some ⟨b, o, none⟩))).run Try.prog W = .ok (.agg (entL x d t).toArray) W :=
  run_loadAt_mid W b o 59 _ _ h Try.underlying59 rfl (by rw [entL_len x hx]; exact info59)
theorem run_ld30e (W : World) (N : Nat) (x : List Int) (d t : Int) (hN : W.heap.size = N) (hx : Aside0 (x.length = 32)) : (ld30 (.pointer (some ⟨N, 0, none⟩))).run Try.prog (W.alloc (.cells (entL x d t).toArray 59)) = .ok (.agg (x.map (Value.int .u8)).toArray) (W.alloc (.cells (entL x d t).toArray 59)) := by
  subst hN; exact run_ld30 _ _ x hx.out (ent_range W x d t)

/-! Drop -/
theorem OutAt.clr2 {w : World} {gm : Nat} {o : List (List Int)} (h : OutAt w gm o) :
    ∃ w', (∀ ty, (Builtin.clear_ #[78] ty #[.map (some gm)]).run Try.prog w = .ok (.tuple #[]) w') ∧ OutAt w' gm [] ∧ w.grownBy w' (some gm) := by
  obtain ⟨D, ⟨es, clock, hb, F, hs, rfl⟩, _⟩ := h.own
  refine ⟨setBlock w gm (.map #[] clock), fun ty => ?_, ⟨List.nodup_nil, by simp, .map [], ⟨#[], clock, heap_setBlock_same hb _, ⟨by simp, stamped_empty clock, by simp⟩, Nat.le_refl _, rfl⟩, rfl, fun x _ => by simp [Maps.has], by simp⟩, ⟨rfl, rfl, rfl, by simp [setBlock], fun i _ hi => heap_setBlock_other hb _ (fun e => hi (by rw [e]))⟩⟩
  simp [Builtin.clear_, run_underlying Try.underlying78, MapKept.run_getObj_map hb, MapKept.run_setObj_map _ hb, Result.andThen, setBlock]
def dropS (s : St) : St := { s with out := [] }
theorem drop_is {w : World} {F : Nat → Prop} {g gm : Nat} {s : St} (h : BL w F g gm s) :
    Calls Try.prog 19 #[.pointer (some ⟨g, 0, none⟩)] w fun e w' => e = .returned (.int .i64 (s.out.length : Int)) ∧ After F g gm w w' (dropS s) := by
  obtain ⟨v, h1, h2, h3⟩ := h.blk
  have hu80 := Try.underlying80
  have hc4 : w.cell? ⟨g, 4, none⟩ = some (.map (some gm)) := (blk_cell h1 4).trans rfl
  have hln := h.map.len
  obtain ⟨w1, hcl, ho, hg⟩ := h.map.clr2
  have HB := Aside0.mk (And.intro h (And.intro ho hg))
  clear h h1 h2 h3 ho hg
  go_enter Try.func19, Try.ntmps19
  go_wp2
  go_ret
  exact ⟨rfl, HB.out.1.put (Below.refl _ _) HB.out.2.2 HB.out.2.1 (by simp)⟩
/-! slices.Clone of entries, All -/
theorem cell_add (b j : Nat) : ((⟨b, 0, none⟩ : Addr).add j) = ⟨b, j, none⟩ := by unfold Addr.add; split <;> simp_all
theorem clone_is {w : World} {v : Value} {n : Nat} {xs : List Value} (hn : n ≤ 1000000) (ho : w.ownsRow 0 59 34 v n xs) (h1 : ∀ u ∈ xs, u.oneCell' = true) :
    Calls Try.prog 48 #[v] w fun e w' => ∃ v', e = .returned v' ∧ w'.ownsRow w.heap.size 59 34 v' n xs ∧ Below w.heap.size w w' := by
  have q22 : ∀ (w : World) (a : Option Addr) (n c n' c' : Nat), (binOp .eql 55 (.slice a n c) (.slice none n' c')).run Try.prog w = .ok (.bool a.isNone) w := fun w a n c n' c' => Lib.run_eql_slice_nil w _ _ a n c n' c' Try.underlying55
  obtain ⟨i0, z0, hi0, hz0, hs0, hb0, hzc0⟩ := info59r
  have hl := ho.1
  rcases ho.2 with ⟨rfl, h0⟩ | ⟨gb, cap, cur, rfl, hb, hg, hcp, _⟩
  · subst h0
    have hx : xs = [] := List.eq_nil_of_length_eq_zero (by simpa using hl)
    subst hx
    clear ho
    go_enter Try.func48, Try.ntmps48
    go_wp2
    go_ret
    exact ⟨_, rfl, World.ownsRow_nil _ _ _ _, Below.refl _ _⟩
  · have A := Aside0.mk (ho.cells (g := gb) rfl)
    have HL := Aside0.mk hl
    have HI := Aside0.mk (And.intro hi0 (And.intro hz0 (And.intro hs0 (And.intro hb0 hzc0))))
    have H1 := Aside0.mk h1
    have hm := m63 hn
    clear ho hl hi0 hz0 hs0 hb0 hzc0 hg h1
    go_enter Try.func48, Try.ntmps48
    go_wp2_with (at_builtin; refine wpList_append_own _ rfl _ _ 55 rfl w.heap.size 59 i0 z0 34 48 Try.underlying55 HI.out.1 HI.out.2.1 HI.out.2.2.1 HI.out.2.2.2.1 HI.out.2.2.2.2 (by omega) _ _ _ rfl (World.ownsRow_made w #[] 0 (Nat.le_refl _) (Nat.zero_le _) (by simp)) ⟨gb, 0, none⟩ n cap xs rfl HL.out ?qc2 H1.out ?qc4 ?qc5 ?qc6 ?_)
    case qc2 =>
      intro j u hj
      exact cell_alloc (A.out j u hj) _
    case qc4 => rw [Nat.zero_add]; omega
    case qc5 => rw [Nat.zero_add]; omega
    case qc6 => simp
    intro v' w1 hown hgrow hnil
    go_wp2
    go_ret
    refine ⟨v', rfl, by simpa using hown, ?_⟩
    exact ((Below.refl _ w).alloc (Nat.le_refl _) _).grown hgrow (by simp) (by intro k hk; simp [Value.ownBlock] at hk; omega)
theorem all_is {w : World} {F : Nat → Prop} {g gm : Nat} {s : St} (h : BL w F g gm s) :
    Calls Try.prog 27 #[.pointer (some ⟨g, 0, none⟩)] w fun e w' => ∃ v', e = .returned v' ∧ w'.ownsRow w.heap.size 59 34 v' s.es.length (entsL s.es) ∧ Below w.heap.size w w' := by
  obtain ⟨v, h1, h2, h3⟩ := h.blk
  have hu80 := Try.underlying80
  have hc3 : w.cell? ⟨g, 3, none⟩ = some v := (blk_cell h1 3).trans rfl
  have HB := Aside0.mk (And.intro h h2)
  clear h h1 h2 h3
  go_enter Try.func27, Try.ntmps27
  go_wp2_with (first | (go_at_call 48; refine (clone_is HB.out.1.wf.len HB.out.2 (entsL_one _)).mono ?_; rintro e_ w1 ⟨v', rfl, ho, hb⟩))
  go_ret
  exact ⟨v', rfl, ho, hb⟩
end Go.Proofs.Ytbhibodgbgndbaa.B
