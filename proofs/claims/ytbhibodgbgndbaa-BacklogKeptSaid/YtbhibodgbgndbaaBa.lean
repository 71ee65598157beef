/- slices.Index and slices.Contains of identities. Condition: at most 1000000 identities. -/
import Derived.Test.YtbhibodgbgndbaaY
namespace Go.Proofs.Ytbhibodgbgndbaa.B
open Go Go.RowKit Go.Proofs Go.Proofs.YtbhibodgbgndbaaW.PrintWords Go.Proofs.YtbhibodgbgndbaaW.PrintLast Go.Proofs.YtbhibodgbgndbaaW.PrintMore
set_option linter.unusedVariables false
set_option linter.unusedSimpArgs false
attribute [local go_sem ↓] execOp_ld30

def idxL (y : List Int) : List (List Int) → Nat → Int
  | [], _ => -1
  | x :: l, i => if y = x then (i : Int) else idxL y l (i + 1)
theorem idxL_mem (y : List Int) : ∀ (l : List (List Int)) (i : Nat), decide (idxL y l i ≥ 0) = decide (y ∈ l)
  | [], i => by simp [idxL]
  | x :: l, i => by
    unfold idxL
    by_cases h : y = x
    · rw [if_pos h, decide_eq_true (by omega), decide_eq_true (by simp [h])]
    · rw [if_neg h, idxL_mem y l (i + 1)]; simp [h]
theorem idsL_at (l : List (List Int)) (hl : ∀ x ∈ l, x.length = 32) (i : Nat) (x : List Int) (hx : l[i]? = some x) (j : Nat) (v : Value) (hv : (x.map (Value.int .u8))[j]? = some v) : (idsL l)[i * 32 + j]? = some v := by
  induction l generalizing i with
  | nil => simp at hx
  | cons z l ih =>
    have hz : (z.map (Value.int .u8)).length = 32 := by rw [List.length_map]; exact hl z (by simp)
    show (z.map (Value.int .u8) ++ idsL l)[i * 32 + j]? = some v
    cases i with
    | zero =>
      simp at hx
      subst hx
      have hj := (List.getElem?_eq_some_iff.1 hv).1
      rw [List.getElem?_append_left (by omega), Nat.zero_mul, Nat.zero_add]; exact hv
    | succ i =>
      rw [List.getElem?_append_right (by omega), show (i + 1) * 32 + j - (z.map (Value.int .u8)).length = i * 32 + j by omega]
      exact ih (fun e h => hl e (by simp [h])) i (by simpa using hx)
/-- Identities lie in a block. -/
def IdsAt (w : World) (gb : Nat) (l : List (List Int)) : Prop := ∀ i x, l[i]? = some x → w.rangeAt gb (i * 32) (x.map (Value.int .u8))
theorem ids_of_own {W : World} {base : Nat} {v : Value} {l : List (List Int)} (hl : ∀ x ∈ l, x.length = 32) (h : W.ownsRow base 30 32 v l.length (idsL l)) :
    ∃ (A : Option Addr) (gb cap : Nat), v = .slice A l.length cap ∧ (0 < l.length → A = some ⟨gb, 0, none⟩) ∧ IdsAt W gb l := by
  rcases h.2 with ⟨rfl, h0⟩ | ⟨gb, cap, cur, rfl, _⟩
  · have : l = [] := List.eq_nil_of_length_eq_zero h0
    subst this
    exact ⟨none, 0, 0, rfl, fun h => by simp at h, fun i e he => by simp at he⟩
  · refine ⟨_, gb, cap, rfl, fun _ => rfl, fun i e he j u hu => ?_⟩
    have := h.cells (g := gb) rfl (i * 32 + j) u (idsL_at l hl i e he j u hu)
    rwa [cell_add] at this
theorem rangeb {w w1 : World} {b o : Nat} {cs : List Value} (h : w.rangeAt b o cs) (hb : Below w.heap.size w w1) : w1.rangeAt b o cs := fun j v hv => (hb.cell (World.block_lt_of_cell? _ _ (h j v hv))).trans (h j v hv)
set_option maxHeartbeats 8000000 in
set_option maxRecDepth 100000 in
theorem indexI (l : List (List Int)) (hl : ∀ x ∈ l, x.length = 32) (hn : l.length ≤ 1000000) (y : List Int) (hy : y.length = 32) (A : Option Addr) (gb cap : Nat) (hA : 0 < l.length → A = some ⟨gb, 0, none⟩) (w : World) (hr : IdsAt w gb l) :
    Calls Try.prog 45 #[.slice A l.length cap, idV y] w fun e w' => e = .returned (.int .i64 (idxL y l 0)) ∧ Below w.heap.size w w' := by
  have HL := Aside0.mk (And.intro hl (And.intro hy hr))
  clear hl hy hr
  unfold idV
  go_enter Try.func45, Try.ntmps45
  go_wp2
  go_loopw [8] (fun p8 wr => ∃ i : Nat, p8 = .int .i64 i ∧ Aside0 (i ≤ l.length ∧ idxL y l 0 = idxL y (l.drop i) i) ∧ Aside0 (Below (w.alloc (.cells (idC y) 30)).heap.size (w.alloc (.cells (idC y) 30)) wr))
    (fun p8 _ => l.length - (intOf p8).toNat)
  case atStart => exact ⟨0, rfl, ⟨Nat.zero_le _, rfl⟩, ⟨Below.refl _ _⟩⟩
  case round =>
    obtain ⟨i, rfl, HI, HW⟩ := hrel
    by_cases hi : i < l.length
    · obtain ⟨x, he⟩ : ∃ x, l[i]? = some x := ⟨_, List.getElem?_eq_getElem hi⟩
      have hA2 := hA (by omega)
      subst hA2
      have hx := HL.out.1 x (List.mem_of_getElem? he)
      have hrx : wr.rangeAt gb (i * 32) (x.map (Value.int .u8)) := rangeb (rangeb (HL.out.2.2 i x he) (below_alloc (Below.refl _ _) _)) HW.out
      have hbx : wr.rangeAt w.heap.size 0 (y.map (Value.int .u8)) := box_range2 HW.out
      have l1 := fun n => run_ld30 (wr.drewN n) w.heap.size y HL.out.2.1 hbx
      have l2 : ∀ n, (ld30 (.pointer (some ⟨gb, i * 32, none⟩))).run Try.prog (wr.drewN n) = .ok (.agg (x.map (Value.int .u8)).toArray) (wr.drewN n) := fun n => run_loadAt_mid (wr.drewN n) gb (i * 32) 30 _ _ hrx Try.underlying30 rfl (by rw [List.length_map, hx]; exact info30)
      have l3 := run_ld30 wr w.heap.size y HL.out.2.1 hbx
      have l4 : (ld30 (.pointer (some ⟨gb, i * 32, none⟩))).run Try.prog wr = .ok (.agg (x.map (Value.int .u8)).toArray) wr := run_loadAt_mid wr gb (i * 32) 30 _ _ hrx Try.underlying30 rfl (by rw [List.length_map, hx]; exact info30)
      have heq : ∀ W : World, (Op.equalIn 10000 30 (.agg (y.map (Value.int .u8)).toArray) (.agg (x.map (Value.int .u8)).toArray)).run Try.prog W = .ok (decide (y = x)) W := fun W => run_eqId 9998 W y x HL.out.2.1 hx
      have p1 : (0 : Int) ≤ (i : Int) := by omega
      have p2 : (i : Int) < (l.length : Int) := by omega
      have HEI := Aside0.mk he
      clear hx hrx hbx he
      by_cases hq : y = x
      · rw [decide_eq_true hq] at heq
        have HQ := Aside0.mk hq
        clear hq
        go_wp2
        go_quiet (fail)
        go_wp2
        go_ret
        refine ⟨?_, ((below_alloc (Below.refl _ _) _).trans (HW.out.mono (by simp))).trans ((drewN_mk wr _).mono (by have := HW.out.size; simp at this; omega))⟩
        have h1 := HI.out.2
        rw [drop_at' HEI.out, idxL, if_pos HQ.out] at h1
        rw [h1]; rfl
      · rw [decide_eq_false hq] at heq
        have HQ := Aside0.mk hq
        clear hq
        go_wp2
        go_quiet (fail)
        go_wp2
        go_roundw
        case rel =>
          refine ⟨i + 1, by go_num, ⟨by omega, ?_⟩, ⟨HW.out.trans ((drewN_mk wr _).mono HW.out.size)⟩⟩
          have h1 := HI.out.2
          rw [drop_at' HEI.out, idxL, if_neg HQ.out] at h1
          exact h1
        case measure => simp [intOf]; omega
    · have hle := HI.out.1
      go_wp2
      go_ret
      refine ⟨?_, (below_alloc (Below.refl _ _) _).trans (HW.out.mono (by simp))⟩
      have h1 := HI.out.2
      rw [List.drop_eq_nil_of_le (by omega)] at h1
      rw [h1]; rfl
theorem contains_is (l : List (List Int)) (hl : ∀ x ∈ l, x.length = 32) (hn : l.length ≤ 1000000) (y : List Int) (hy : y.length = 32) (v : Value) (base : Nat) (w : World) (ho : w.ownsRow base 30 32 v l.length (idsL l)) :
    Calls Try.prog 21 #[v, idV y] w fun e w' => e = .returned (.bool (decide (y ∈ l))) ∧ Below w.heap.size w w' := by
  obtain ⟨A, gb, cap, rfl, hA, hE⟩ := ids_of_own hl ho
  have HL := Aside0.mk (And.intro hl (And.intro hy (And.intro hA hE)))
  have l1 := run_ld30 (w.alloc (.cells (idC y) 30)) w.heap.size y hy (id_range w y)
  rw [← idxL_mem y l 0]
  clear hl hy hA hE ho
  unfold idV
  go_enter Try.func21, Try.ntmps21
  go_wp2_with (first | (go_at_call 45; refine (indexI l HL.out.1 hn y HL.out.2.1 A gb cap HL.out.2.2.1 _ (fun i x h => rangeb (HL.out.2.2.2 i x h) (below_alloc (Below.refl _ _) _))).mono ?_; rintro e_ w1 ⟨rfl, hb1⟩))
  go_ret
  exact ⟨rfl, (below_alloc (Below.refl _ _) _).trans (hb1.mono (by simp))⟩
end Go.Proofs.Ytbhibodgbgndbaa.B
