/- A backlog in memory and what a call may turn. No condition. -/
import Derived.Test.YtbhibodgbgndbaaJ
namespace Go.Proofs.Ytbhibodgbgndbaa.B
open Go Go.RowKit Go.Proofs Go.Proofs.YtbhibodgbgndbaaW.PrintWords Go.Proofs.YtbhibodgbgndbaaW.PrintLast Go.Proofs.YtbhibodgbgndbaaW.PrintMore
set_option linter.unusedVariables false
set_option linter.unusedSimpArgs false

/-- But for the blocks in F and new ones the world is as it was. -/
structure Upd (F : Nat → Prop) (w w' : World) : Prop where
  os : w'.os = w.os
  tape : w'.tape = w.tape
  output : w'.output = w.output
  size : w.heap.size ≤ w'.heap.size
  block : ∀ k, k < w.heap.size → ¬ F k → w'.heap[k]? = w.heap[k]?
theorem Upd.refl (F : Nat → Prop) (w : World) : Upd F w w := ⟨rfl, rfl, rfl, Nat.le_refl _, fun _ _ _ => rfl⟩
theorem Upd.trans {F G : Nat → Prop} {a b c : World} (h : Upd F a b) (k : Upd G b c) (hG : ∀ k, G k → F k ∨ a.heap.size ≤ k) : Upd F a c :=
  ⟨k.os.trans h.os, k.tape.trans h.tape, k.output.trans h.output, Nat.le_trans h.size k.size, fun i hi hF => by
    have := h.size
    rw [k.block i (by omega) (fun hg => by rcases hG i hg with h1 | h1; exact hF h1; omega)]; exact h.block i hi hF⟩
theorem Upd.mono {F G : Nat → Prop} {a b : World} (h : Upd F a b) (hG : ∀ k, F k → G k) : Upd G a b :=
  ⟨h.os, h.tape, h.output, h.size, fun i hi hn => h.block i hi (fun hf => hn (hG i hf))⟩
theorem Upd.of_below {F : Nat → Prop} {a b : World} (h : Below a.heap.size a b) : Upd F a b := ⟨h.os, h.tape, h.output, h.size, fun i hi _ => h.block i hi⟩
theorem Upd.grown {F : Nat → Prop} {a b : World} {row : Option Nat} (h : a.grownBy b row) (hr : ∀ k, row = some k → F k) : Upd F a b :=
  ⟨h.os, h.tape, h.output, h.size, fun i hi hn => h.block i hi (fun e => hn (hr i e.symm))⟩
theorem Upd.set {F : Nat → Prop} {a : World} {p : Addr} (hp : F p.block) (u : Value) : Upd F a (a.setCell p u) :=
  ⟨rfl, rfl, rfl, by simp [World.setCell], fun i hi hn => Below.heap_setCell _ _ _ _ (fun e => hn (e ▸ hp))⟩
theorem Upd.below {F : Nat → Prop} {a b : World} (h : Upd F a b) {B : Nat} (hB : B ≤ a.heap.size) (hF : ∀ k, F k → B ≤ k) : Below B a b :=
  ⟨h.os, h.tape, h.output, h.size, fun i hi => h.block i (by omega) (fun hf => by have := hF i hf; omega)⟩

structure St where
  cap : Int
  wait : Int
  missed : Bool
  es : List Ent
  out : List (List Int)
structure WF (s : St) : Prop where
  cap1 : 1 ≤ s.cap
  cap2 : s.cap ≤ 4096
  wait1 : 0 ≤ s.wait
  wait2 : s.wait ≤ 100000
  few : (s.es.length : Int) ≤ s.cap
  ids : ∀ e ∈ s.es, Idok e.1
  nod : (s.es.map (·.1)).Nodup
  sub : ∀ x ∈ s.out, x ∈ s.es.map (·.1)
structure BL (w : World) (F : Nat → Prop) (g gm : Nat) (s : St) : Prop where
  blk : ∃ v, BAt w g s.cap s.wait s.missed v gm ∧ w.ownsRow 0 59 34 v s.es.length (entsL s.es) ∧ ∀ k, v.ownBlock = some k → F k ∧ k ≠ g ∧ k ≠ gm
  map : OutAt w gm s.out
  fg : F g
  fm : F gm
  ne : g ≠ gm
  lt : ∀ k, F k → k < w.heap.size
  wf : WF s
theorem WF.len {s : St} (h : WF s) : s.es.length ≤ 1000000 := by have := h.few; have := h.cap2; omega
theorem WF.l32 {s : St} (h : WF s) : ∀ e ∈ s.es, e.1.length = 32 := fun e he => (h.ids e he).1
theorem len_of_sub : ∀ (l m : List (List Int)), l.Nodup → (∀ x ∈ l, x ∈ m) → l.length ≤ m.length
  | [], m, _, _ => by simp
  | a :: l, m, hn, hs => by
    have ha := hs a (by simp)
    have h1 := len_of_sub l (m.erase a) (List.nodup_cons.1 hn).2 (fun x hx => (List.mem_erase_of_ne (by rintro rfl; exact (List.nodup_cons.1 hn).1 hx)).2 (hs x (by simp [hx])))
    have h2 := List.length_erase_of_mem ha
    have h3 := List.length_pos_of_mem ha
    simp only [List.length_cons]; omega
theorem BL.outlen {w : World} {F : Nat → Prop} {g gm : Nat} {s : St} (h : BL w F g gm s) : s.out.length ≤ 1000000 := by
  have h1 := len_of_sub s.out (s.es.map (·.1)) h.map.nodup h.wf.sub
  have := h.wf.len
  simp at h1; omega
theorem own_kept {w w' : World} {base : Nat} {e : TypeId} {size : Nat} {v : Value} {n : Nat} {xs : List Value} (h : w.ownsRow base e size v n xs) (hb : ∀ k, v.ownBlock = some k → w'.heap[k]? = w.heap[k]?) : w'.ownsRow base e size v n xs := by
  obtain ⟨h1, h2⟩ := h
  refine ⟨h1, ?_⟩
  rcases h2 with h2 | ⟨g, cap, cur, rfl, hg, hh, r⟩
  · exact Or.inl h2
  · exact Or.inr ⟨g, cap, cur, rfl, hg, (hb g rfl).trans hh, r⟩
/-- A backlog stays while none of its blocks turns. -/
theorem BL.kept {w w' : World} {F : Nat → Prop} {g gm : Nat} {s : St} (h : BL w F g gm s) (hb : ∀ k, F k → w'.heap[k]? = w.heap[k]?) : BL w' F g gm s := by
  obtain ⟨v, h1, h2, h3⟩ := h.blk
  refine ⟨⟨v, (hb g h.fg).trans h1, own_kept h2 (fun k hk => hb k (h3 k hk).1), h3⟩, h.map.kept (hb gm h.fm), h.fg, h.fm, h.ne, fun k hk => ?_, h.wf⟩
  have h4 := h.lt k hk
  have h5 := hb k hk
  rw [Array.getElem?_eq_getElem h4] at h5
  exact (Array.getElem?_eq_some_iff.1 h5).1
theorem BL.below {w w' : World} {F : Nat → Prop} {g gm : Nat} {s : St} (h : BL w F g gm s) (hb : Below w.heap.size w w') : BL w' F g gm s := h.kept fun k hk => hb.block k (h.lt k hk)
theorem BL.far {w w' : World} {F G : Nat → Prop} {g gm : Nat} {s : St} (h : BL w F g gm s) (hu : Upd G w w') (hG : ∀ k, F k → ¬ G k) : BL w' F g gm s := h.kept fun k hk => hu.block k (h.lt k hk) (hG k hk)
/-- What a call leaves of a backlog. -/
def After (F : Nat → Prop) (g gm : Nat) (w w' : World) (s : St) : Prop := ∃ F', BL w' F' g gm s ∧ (∀ k, F' k → F k ∨ w.heap.size ≤ k) ∧ Upd F w w'
theorem After.same {w w' : World} {F : Nat → Prop} {g gm : Nat} {s : St} (h : BL w F g gm s) (hb : Below w.heap.size w w') : After F g gm w w' s := ⟨F, h.below hb, fun k hk => .inl hk, .of_below hb⟩
theorem After.refl {w : World} {F : Nat → Prop} {g gm : Nat} {s : St} (h : BL w F g gm s) : After F g gm w w s := .same h (Below.refl _ _)
theorem After.pre {w w1 w' : World} {F F1 : Nat → Prop} {g gm : Nat} {s : St} (hF : ∀ k, F1 k → F k ∨ w.heap.size ≤ k) (hu : Upd F w w1) (h : After F1 g gm w1 w' s) : After F g gm w w' s := by
  obtain ⟨F2, h1, h2, h3⟩ := h
  refine ⟨F2, h1, fun k hk => ?_, hu.trans h3 hF⟩
  have := hu.size
  rcases h2 k hk with h4 | h4
  · exact hF k h4
  · exact .inr (by omega)
theorem After.preB {w w1 w' : World} {F : Nat → Prop} {g gm : Nat} {s : St} (hb : Below w.heap.size w w1) (h : After F g gm w1 w' s) : After F g gm w w' s := .pre (fun k hk => .inl hk) (.of_below hb) h
theorem After.postB {w w1 w' : World} {F : Nat → Prop} {g gm : Nat} {s : St} (h : After F g gm w w1 s) (hb : Below w1.heap.size w1 w') : After F g gm w w' s := by
  obtain ⟨F2, h1, h2, h3⟩ := h
  exact ⟨F2, h1.below hb, h2, h3.trans (.of_below (F := F) hb) (fun k hk => .inl hk)⟩
theorem After.size {w w' : World} {F : Nat → Prop} {g gm : Nat} {s : St} (h : After F g gm w w' s) : w.heap.size ≤ w'.heap.size := by obtain ⟨_, _, _, h⟩ := h; exact h.size

/-! the operations that write a map, at a step of a region that draws -/
theorem step_put {ops : Array Oper} {o : Oper} {a : Act} {K : Act → World → Prop} {Q : Exit → Act → World → Prop} {E : Prop} {w : World} (hgd : o.guard = none) (m x v : Operand) (ho : o.op = Op.mapUpdate 78 m x v)
    (gm : Nat) (out : List (List Int)) (hown : OutAt w gm out) (hn : out.length ≤ 1000000) (y : List Int) (hy : Idok y) (hm : a.eval m = .map (some gm)) (hx : a.eval x = idV y) (hv : a.eval v = .bool true)
    (h : ∀ w', OutAt w' gm (putO y out) → w.grownBy w' (some gm) → K (a.put o.dst undef) w') :
    if Region.wanted o (yielded ops a.tmps) = true then Oper.wp Try.prog o a w K Q else E := by
  have hw : Region.wanted o (yielded ops a.tmps) = true := by simp [Region.wanted, hgd]
  rw [if_pos hw]
  obtain ⟨w', hrun, r1, r2⟩ := hown.put hn hy
  unfold Oper.wp
  simp [execOp, ho, hm, hx, hv, hrun, Result.andThen]
  exact h w' r1 r2
theorem step_del {ops : Array Oper} {o : Oper} {a : Act} {K : Act → World → Prop} {Q : Exit → Act → World → Prop} {E : Prop} {w : World} (hgd : o.guard = none) (m x : Operand) (ho : o.op = Op.call { callee := Callee.builtin Builtin.delete, args := #[m, x], argTypes := #[78, 30] })
    (gm : Nat) (out : List (List Int)) (hown : OutAt w gm out) (y : List Int) (hy : Idok y) (hm : a.eval m = .map (some gm)) (hx : a.eval x = idV y)
    (h : ∀ w', OutAt w' gm (out.erase y) → w.grownBy w' (some gm) → K (a.put o.dst (.tuple #[])) w') :
    if Region.wanted o (yielded ops a.tmps) = true then Oper.wp Try.prog o a w K Q else E := by
  have hw : Region.wanted o (yielded ops a.tmps) = true := by simp [Region.wanted, hgd]
  rw [if_pos hw]
  obtain ⟨w', hrun, r1, r2⟩ := hown.del hy o.type
  unfold Oper.wp
  simp [execOp, ho, resolve, invoke, builtin, hm, hx, hrun, Result.andThen]
  exact h w' r1 r2
end Go.Proofs.Ytbhibodgbgndbaa.B
