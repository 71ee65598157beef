/- A backlog in memory; index and Has. Condition: at most 1000000 entries. -/
import Derived.Test.YtbhibodgbgndbaaC
namespace Go.Proofs.Ytbhibodgbgndbaa.B
open Go Go.RowKit Go.Proofs Go.Proofs.YtbhibodgbgndbaaW.PrintWords Go.Proofs.YtbhibodgbgndbaaW.PrintLast Go.Proofs.YtbhibodgbgndbaaW.PrintMore
set_option linter.unusedVariables false
set_option linter.unusedSimpArgs false

/-- The cells of entries. -/
def entsL (es : List Ent) : List Value := es.flatMap fun e => entL e.1 e.2.1 e.2.2
theorem id_range (w : World) (y : List Int) : (w.alloc (.cells (idC y) 30)).rangeAt w.heap.size 0 (y.map (Value.int .u8)) := fun j v hv => by
  rw [Nat.zero_add, cell_of_row _ _ _ _ 30 (0, 0) (heap_alloc_new w _)]
  simpa [idC] using hv
/-- A backlog's block: its five fields. -/
def BAt (W : World) (g : Nat) (cap wait : Int) (missed : Bool) (v : Value) (mb : Nat) : Prop :=
  W.heap[g]? = some (.cells #[.int .i64 cap, .int .i64 wait, .bool missed, v, .map (some mb)] 80 (0, 0))
theorem entsL_at (es : List Ent) (hes : ∀ e ∈ es, e.1.length = 32) (i : Nat) (e : Ent) (he : es[i]? = some e) (j : Nat) (v : Value) (hv : (entL e.1 e.2.1 e.2.2)[j]? = some v) : (entsL es)[i * 34 + j]? = some v := by
  induction es generalizing i with
  | nil => simp at he
  | cons x es ih =>
    have hx : (entL x.1 x.2.1 x.2.2).length = 34 := entL_len _ (hes x (by simp)) _ _
    show (entL x.1 x.2.1 x.2.2 ++ entsL es)[i * 34 + j]? = some v
    cases i with
    | zero =>
      simp at he
      subst he
      have hj := (List.getElem?_eq_some_iff.1 hv).1
      rw [List.getElem?_append_left (by omega), Nat.zero_mul, Nat.zero_add]; exact hv
    | succ i =>
      rw [List.getElem?_append_right (by omega), show (i + 1) * 34 + j - (entL x.1 x.2.1 x.2.2).length = i * 34 + j by omega]
      exact ih (fun e h => hes e (by simp [h])) i (by simpa using he)
theorem ents_of_own {W : World} {base : Nat} {v : Value} {es : List Ent} (hes : ∀ e ∈ es, e.1.length = 32) (h : W.ownsRow base 59 34 v es.length (entsL es)) :
    ∃ (A : Option Addr) (gb cap : Nat), v = .slice A es.length cap ∧ (0 < es.length → A = some ⟨gb, 0, none⟩) ∧ EntsAt W gb es := by
  rcases h.2 with ⟨rfl, h0⟩ | ⟨gb, cap, cur, rfl, _⟩
  · have : es = [] := List.eq_nil_of_length_eq_zero h0
    subst this
    exact ⟨none, 0, 0, rfl, fun h => by simp at h, fun i e he => by simp at he⟩
  · refine ⟨_, gb, cap, rfl, fun _ => rfl, fun i e he j u hu => ?_⟩
    have := h.cells (g := gb) rfl (i * 34 + j) u (entsL_at es hes i e he j u hu)
    have e2 : (⟨gb, 0, none⟩ : Addr).add (i * 34 + j) = ⟨gb, i * 34 + j, none⟩ := by unfold Addr.add; split <;> simp_all
    rwa [e2] at this

set_option maxHeartbeats 4000000 in
set_option maxRecDepth 100000 in
theorem idx_is (g : Nat) (cap wait : Int) (missed : Bool) (v : Value) (mb base : Nat) (es : List Ent) (hes : ∀ e ∈ es, e.1.length = 32) (hn : es.length ≤ 1000000) (y : List Int) (hy : y.length = 32) (w : World)
    (hB : BAt w g cap wait missed v mb) (ho : w.ownsRow base 59 34 v es.length (entsL es)) :
    Calls Try.prog 42 #[.pointer (some ⟨g, 0, none⟩), idV y] w fun e w' => e = .returned (.int .i64 (idxOf es y)) ∧ Below w.heap.size w w' := by
  obtain ⟨A, gb, cap', rfl, hA, hE⟩ := ents_of_own hes ho
  have hu80 := Try.underlying80
  have hlt : g < w.heap.size := (Array.getElem?_eq_some_iff.1 hB).1
  have hc3 : w.cell? ⟨g, 3, none⟩ = some (.slice A es.length cap') := (blk_cell hB 3).trans rfl
  have HE := Aside0.mk hE
  have HES := Aside0.mk hes
  have HY := Aside0.mk hy
  have HA := Aside0.mk hA
  clear hE hes hy hA ho hB
  unfold idV
  go_enter Try.func42, Try.ntmps42
  go_wp2_with (first | (go_at_call 63; refine (index_is es HES.out y HY.out A gb cap' w.heap.size HA.out hn _ (fun i e h => World.rangeAt_alloc (HE.out i e h) _) (id_range w y)).mono ?_; rintro e_ w1 ⟨rfl, hb1⟩))
  go_ret
  exact ⟨rfl, (below_alloc (Below.refl _ _) _).trans (hb1.mono (by simp))⟩
/-- Is there an entry? -/
def hasE (es : List Ent) (y : List Int) : Bool := decide (idxOf es y ≥ 0)
set_option maxHeartbeats 4000000 in
set_option maxRecDepth 100000 in
theorem has_is (g : Nat) (cap wait : Int) (missed : Bool) (v : Value) (mb base : Nat) (es : List Ent) (hes : ∀ e ∈ es, e.1.length = 32) (hn : es.length ≤ 1000000) (y : List Int) (hy : y.length = 32) (w : World)
    (hB : BAt w g cap wait missed v mb) (ho : w.ownsRow base 59 34 v es.length (entsL es)) :
    Calls Try.prog 16 #[.pointer (some ⟨g, 0, none⟩), idV y] w fun e w' => e = .returned (.bool (hasE es y)) ∧ Below w.heap.size w w' := by
  have HC := Aside0.mk (And.intro hes (And.intro hy (And.intro hB ho)))
  have hlt : g < w.heap.size := (Array.getElem?_eq_some_iff.1 hB).1
  clear hes hy hB ho
  unfold idV
  go_enter Try.func16, Try.ntmps16
  go_wp2_with (first | (go_at_call 42; refine (idx_is g cap wait missed v mb base es HC.out.1 hn y HC.out.2.1 _ (by have := Below.heap_alloc w (.cells (idC y) 30) g hlt; exact this.trans HC.out.2.2.1) (HC.out.2.2.2.alloc _)).mono ?_; rintro e_ w1 ⟨rfl, hb1⟩) | (refine gate_guard (by rfl) ?_; refine wpList_load_mid rfl 30 (.tmp 3) rfl w.heap.size 0 rfl (y.map (Value.int .u8)) _ (id_range w y) Try.underlying30 rfl (by rw [List.length_map, HC.out.2.1]; exact info30) ?_))
  go_ret
  exact ⟨rfl, (below_alloc (Below.refl _ _) _).trans (hb1.mono (by simp))⟩
end Go.Proofs.Ytbhibodgbgndbaa.B
