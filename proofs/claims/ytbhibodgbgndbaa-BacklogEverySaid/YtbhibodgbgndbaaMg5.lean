/- Texts of this seat, joined: Rg Rh Sh Si Ba. No condition but those that each part names. -/
import Derived.Test.YtbhibodgbgndbaaMg4
import Derived.StillTailTactics
/- The reference's Add: full, and adding. Condition: at most 1000000 entries. -/
namespace Go.Proofs.Ytbhibodgbgndbaa.B
open Go Go.RowKit Go.Proofs Go.Proofs.YtbhibodgbgndbaaW.PrintWords Go.Proofs.YtbhibodgbgndbaaW.PrintLast Go.Proofs.YtbhibodgbgndbaaW.PrintMore
set_option linter.unusedVariables false
set_option linter.unusedSimpArgs false
set_option linter.unusedSectionVars false
set_option maxRecDepth 100000
set_option maxHeartbeats 8000000
attribute [local go_sem ↓] execOp_ld29 execOp_ld52 execOp_st52

section
variable (cap wait : Int) (inc : Bool) (A : Option Addr) (cp : Nat) (l : List RE) (hl : ∀ r ∈ l, r.1.length = 32) (hn : l.length ≤ 1000000) (x : List Int) (hx : x.length = 32) (due : Int) (w : World) (ho : w.ownsRow 0 98 35 (.slice A l.length cp) l.length (resL l))
include hl hn hx ho
theorem radd_full (hz : x ≠ zeroId) (hd : minB due = true) (hm : idxOf (l.map rE) x = -1) (hf : cap ≤ (l.length : Int)) :
    Calls Try.prog 51 #[.agg (rbV cap wait inc (.slice A l.length cp)), .agg (idC x), .int .i64 due] w fun e w' => e = .returned (.tuple #[.agg (rbV cap wait true (.slice A l.length cp)), .int .i64 9]) ∧ Below w.heap.size w w' := by
  have hu52 := Try.underlying52
  have heq := eq_zero29 x hx
  rw [decide_eq_false hz] at heq
  obtain ⟨B1, hB1⟩ : ∃ B1, B1 = rbV cap wait inc (.slice A l.length cp) := ⟨_, rfl⟩
  have one := rbV_one cap wait inc A l.length cp
  have hs1 : B1.setIfInBounds 2 (.bool true) = rbV cap wait true (.slice A l.length cp) := by rw [hB1]; rfl
  have hc0 : B1[0]? = some (.int .i64 cap) := by rw [hB1]; rfl
  have hc3 : B1[3]? = some (.slice A l.length cp) := by rw [hB1]; rfl
  have hc2 : B1[2]? = some (.bool inc) := by rw [hB1]; rfl
  rw [← hB1] at one ⊢
  obtain ⟨v1, v2, v3, v4⟩ := set3 w B1 (by rw [hB1]; rfl) one x
  have l1 := v1.ld
  have l2 := run_ld29 _ _ _ x hx v3
  have HV := Aside0.mk (And.intro v1 (And.intro v2 v4))
  have HD := Aside0.mk hd
  have RF := Aside0.mk (fun (W : World) (hW : Below w.heap.size w W) => show Calls Try.prog 68 #[.agg B1, .agg (idC x)] W fun e w' => e = .returned (.int .i64 (-1)) ∧ Below W.heap.size W w' from by
    have := rfind_is cap wait inc _ l hl hn x hx W (own_below ho hW)
    rw [hm, ← hB1] at this
    exact this)
  have hfd : decide ((l.length : Int) ≥ cap) = true := decide_eq_true hf
  have HC := Aside0.mk (And.intro hs1 (And.intro hc0 (And.intro hc3 hc2)))
  clear hl hx ho hz hB1 one v1 v2 v3 v4 hd hm hs1 hc0 hc3 hc2
  unfold zeroB at l1 l2
  go_enter Try.func51, Try.ntmps51
  go_wp2_with (first | (go_at_call 67; refine (rminute_is due _).mono ?_; rintro e_ w1 ⟨rfl, hq⟩; subst w1; rw [HD.out]) | (go_at_call 68; refine (RF.out _ HV.out.2.2).mono ?_; rintro e_ w4 ⟨rfl, hb4⟩; have k1 := HV.out.1.below hb4; have k2 := HV.out.2.1.below hb4; have d0 : w4.cell? ⟨w.heap.size, 0, none⟩ = some (.int .i64 cap) := (by rw [cell_of_row w4 _ 0 B1 52 (0, 0) k1.1]; exact HC.out.2.1); have d3 : w4.cell? ⟨w.heap.size, 3, none⟩ = some (.slice A l.length cp) := (by rw [cell_of_row w4 _ 3 B1 52 (0, 0) k1.1]; exact HC.out.2.2.1); have d2 : w4.cell? ⟨w.heap.size, 2, none⟩ = some (.bool inc) := (by rw [cell_of_row w4 _ 2 B1 52 (0, 0) k1.1]; exact HC.out.2.2.2); have f2 : w4.frozen? ⟨w.heap.size, 2, none⟩ = false := blk_frozen k1.1 2; have z1 : BVar (w4.setCell ⟨w.heap.size, 2, none⟩ (.bool true)) w.heap.size (rbV cap wait true (.slice A l.length cp)) := ⟨(by rw [← HC.out.1]; simp [World.setCell, Array.getElem?_modify, k1.1]), rfl, rbV_one _ _ _ _ _ _⟩; have z2 : BVar (w4.setCell ⟨w.heap.size, 2, none⟩ (.bool true)) (w.heap.size + 1 + 1) zeroB := ⟨(Below.heap_setCell _ _ _ _ (by simp; omega)).trans k2.1, k2.2⟩; have l3 := z1.ld; have l4 := z2.st z1.2.1 z1.2.2; have KK := Aside0.mk (And.intro z1 (And.intro z2 ((HV.out.2.2.trans (hb4.mono HV.out.2.2.size)).setCell (p := ⟨w.heap.size, 2, none⟩) (Nat.le_refl _) (.bool true)))); clear k1 k2 hb4 z1 z2))
  exact bodyPost_ret (results_B1 rfl _ _ _ _ rfl (KK.out.2.1.set rfl (rbV_one _ _ _ _ _ _))) rfl ⟨rfl, setRow_below KK.out.2.2 (by omega)⟩
end
end Go.Proofs.Ytbhibodgbgndbaa.B
/- The reference's Add that adds. Condition: at most 1000000 entries. -/
namespace Go.Proofs.Ytbhibodgbgndbaa.B
open Go Go.RowKit Go.Proofs Go.Proofs.YtbhibodgbgndbaaW.PrintWords Go.Proofs.YtbhibodgbgndbaaW.PrintLast Go.Proofs.YtbhibodgbgndbaaW.PrintMore
set_option linter.unusedVariables false
set_option linter.unusedSimpArgs false
set_option linter.unusedSectionVars false
set_option maxRecDepth 100000
set_option maxHeartbeats 16000000
attribute [local go_sem ↓] execOp_ld29 execOp_ld52 execOp_st52

/-- What a region of the reference keeps: the backlog's variable, the identity, the result's variable. -/
structure Kq (w W : World) (c : Array Value) (v : Value) (x : List Int) (d : Array Value) : Prop where
  b1 : BVar W w.heap.size c
  id : W.rangeAt (w.heap.size + 1) 0 (x.map (Value.int .u8))
  b2 : BVar W (w.heap.size + 1 + 1) d
  low : Below w.heap.size w W
  c3 : c[3]? = some v
theorem Kq.sz {w W : World} {c d : Array Value} {v : Value} {x : List Int} (h : Kq w W c v x d) : w.heap.size + 1 + 1 + 1 ≤ W.heap.size := (Array.getElem?_eq_some_iff.1 h.b2.1).1
theorem Kq.below {w W W' : World} {c d : Array Value} {v : Value} {x : List Int} (h : Kq w W c v x d) (hb : Below W.heap.size W W') : Kq w W' c v x d :=
  ⟨h.b1.below hb, range_below h.id hb, h.b2.below hb, h.low.trans (hb.mono h.low.size), h.c3⟩
theorem Kq.alloc {w W : World} {c d : Array Value} {v : Value} {x : List Int} (h : Kq w W c v x d) (o : Obj) : Kq w (W.alloc o) c v x d := h.below (below_alloc (Below.refl _ _) _)
theorem Kq.drew {w W : World} {c d : Array Value} {v : Value} {x : List Int} (h : Kq w W c v x d) : Kq w W.drew c v x d := h.below (below_drew1 (Below.refl _ _))
theorem Kq.grown {w W W' : World} {c d : Array Value} {v : Value} {x : List Int} (h : Kq w W c v x d) {row : Option Nat} (hg : W.grownBy W' row) (hr : ∀ k, row = some k → w.heap.size + 1 + 1 + 1 ≤ k) : Kq w W' c v x d := by
  have hz := h.sz
  have hb : Below (w.heap.size + 1 + 1 + 1) W W' := (Below.refl _ W).grown hg hz hr
  refine ⟨⟨(hb.block _ (by omega)).trans h.b1.1, h.b1.2⟩, fun j u hu => ?_, ⟨(hb.block _ (by omega)).trans h.b2.1, h.b2.2⟩, h.low.trans (hb.mono (by omega)), h.c3⟩
  exact (hb.cell (show w.heap.size + 1 < _ by omega)).trans (h.id j u hu)
theorem Kq.set {w W : World} {c d d' : Array Value} {v : Value} {x : List Int} (h : Kq w W c v x d) (hd : d'.size = 4) (h1 : d'.all (·.oneCell') = true) : Kq w (W.setRow (w.heap.size + 1 + 1) d') c v x d' :=
  ⟨⟨(setRow_other _ _ _ _ (by omega)).trans h.b1.1, h.b1.2⟩, fun j u hu => by
    have hb : (W.setRow (w.heap.size + 1 + 1) d').heap[w.heap.size + 1]? = W.heap[w.heap.size + 1]? := setRow_other _ _ _ _ (by omega)
    exact (World.cell?_of_block (w := W) hb).trans (h.id j u hu), h.b2.set hd h1, setRow_below h.low (by omega), h.c3⟩
/-- The limbs that the walk reads. -/
@[reducible] def Sq (w : World) (c : Array Value) (v : Value) (x : List Int) (W : World) : Prop :=
  (ld52 (.pointer (some ⟨w.heap.size, 0, none⟩))).run Try.prog W = .ok (.agg c) W ∧ W.cell? ⟨w.heap.size, 3, none⟩ = some v ∧ W.rangeAt (w.heap.size + 1) 0 (x.map (Value.int .u8)) ∧ ∃ d, Aside0 (Kq w W c v x d)
theorem Kq.s {w W : World} {c d : Array Value} {v : Value} {x : List Int} (h : Kq w W c v x d) : Sq w c v x W :=
  ⟨h.b1.ld, by rw [cell_of_row W _ 3 c 52 (0, 0) h.b1.1]; exact h.c3, h.id, d, ⟨h⟩⟩
theorem keepB {w W W' : World} {c : Array Value} {v : Value} {x : List Int} (h : Sq w c v x W) (hb : Below W.heap.size W W') : Sq w c v x W' := by
  obtain ⟨d, hd⟩ := h.2.2.2
  exact (hd.out.below hb).s
theorem keepG {w W W' : World} {c : Array Value} {v : Value} {x : List Int} (h : Sq w c v x W) {row : Option Nat} (hg : W.grownBy W' row) (hr : ∀ k, row = some k → w.heap.size + 1 + 1 + 1 ≤ k) : Sq w c v x W' := by
  obtain ⟨d, hd⟩ := h.2.2.2
  exact (hd.out.grown hg hr).s
theorem keepS {w W : World} {c d' : Array Value} {v : Value} {x : List Int} (h : Sq w c v x W) (hd : d'.size = 4) (h1 : d'.all (·.oneCell') = true) : Sq w c v x (W.setRow (w.heap.size + 1 + 1) d') := by
  obtain ⟨d, hd0⟩ := h.2.2.2
  exact (hd0.out.set hd h1).s
section
variable (cap wait : Int) (inc : Bool) (A : Option Addr) (cp : Nat) (l : List RE) (hl : ∀ r ∈ l, r.1.length = 32) (hn : l.length ≤ 1000000) (x : List Int) (hx : x.length = 32) (due : Int) (w : World) (ho : w.ownsRow 0 98 35 (.slice A l.length cp) l.length (resL l))
include hl hn hx ho
theorem radd_ok (hz : x ≠ zeroId) (hd : minB due = true) (hm : idxOf (l.map rE) x = -1) (hf : (l.length : Int) < cap) :
    Calls Try.prog 51 #[.agg (rbV cap wait inc (.slice A l.length cp)), .agg (idC x), .int .i64 due] w fun e w' => ∃ v', e = .returned (.tuple #[.agg (rbV cap wait inc v'), .int .i64 0]) ∧ w'.ownsRow 0 98 35 v' (l.length + 1) (resL (l ++ [(x, due, 0, false)])) ∧ Below w.heap.size w w' := by
  have hu52 := Try.underlying52
  have heq := eq_zero29 x hx
  rw [decide_eq_false hz] at heq
  obtain ⟨B1, hB1⟩ : ∃ B1, B1 = rbV cap wait inc (.slice A l.length cp) := ⟨_, rfl⟩
  have one := rbV_one cap wait inc A l.length cp
  have hc0 : B1[0]? = some (.int .i64 cap) := by rw [hB1]; rfl
  have hc3 : B1[3]? = some (.slice A l.length cp) := by rw [hB1]; rfl
  rw [← hB1] at one ⊢
  obtain ⟨v1, v2, v3, v4⟩ := set3 w B1 (by rw [hB1]; rfl) one x
  have l1 := v1.ld
  have l2 := run_ld29 _ _ _ x hx v3
  have HV := Aside0.mk (And.intro v1 (And.intro v2 (And.intro v3 v4)))
  have HD := Aside0.mk hd
  have RF := Aside0.mk (fun (W : World) (hW : Below w.heap.size w W) => show Calls Try.prog 68 #[.agg B1, .agg (idC x)] W fun e w' => e = .returned (.int .i64 (-1)) ∧ Below W.heap.size W w' from by
    have := rfind_is cap wait inc _ l hl hn x hx W (own_below ho hW)
    rw [hm, ← hB1] at this
    exact this)
  have WI := Aside0.mk (fun (W : World) (B : Option Addr) (q d : Nat) => show Calls Try.prog 61 #[.agg B1, .slice B q d] W fun e w' => e = .returned (.agg (rbV cap wait inc (.slice B q d))) ∧ Below W.heap.size W w' from by
    have := rwith_is cap wait inc A B l.length q cp d W
    rw [← hB1] at this
    exact this)
  have HXL : Aside0 (x.length = 32) := ⟨hx⟩
  have HO := Aside0.mk ho
  have hfd : decide ((l.length : Int) ≥ cap) = false := decide_eq_false (by omega)
  have HC := Aside0.mk (And.intro hc0 hc3)
  clear hl hx ho hz hB1 one v1 v2 v3 v4 hd hm hc0 hc3
  unfold zeroB at l1 l2
  go_enter Try.func51, Try.ntmps51
  go_wp2_with (first | (go_at_call 67; refine (rminute_is due _).mono ?_; rintro e_ w1 ⟨rfl, hq⟩; subst w1; rw [HD.out]) | (go_at_call 68; refine (RF.out _ HV.out.2.2.2).mono ?_; rintro e_ w4 ⟨rfl, hb4⟩; have KQ := Aside0.mk (show Kq w w4 B1 (.slice A l.length cp) x zeroB from ⟨HV.out.1.below hb4, range_below HV.out.2.2.1 hb4, HV.out.2.1.below hb4, HV.out.2.2.2.trans (hb4.mono HV.out.2.2.2.size), HC.out.2⟩); have d0 : w4.cell? ⟨w.heap.size, 0, none⟩ = some (.int .i64 cap) := (by rw [cell_of_row w4 _ 0 B1 52 (0, 0) KQ.out.b1.1]; exact HC.out.1); have d3 : w4.cell? ⟨w.heap.size, 3, none⟩ = some (.slice A l.length cp) := (by rw [cell_of_row w4 _ 3 B1 52 (0, 0) KQ.out.b1.1]; exact HC.out.2); clear hb4))
  have hu29 := Try.underlying29
  have hi29 : (Try.prog.info? 29).map (·.size) = some (x.map (Value.int .u8)).length := by rw [List.length_map, HXL.out]; exact info29
  have hsz3 := KQ.out.sz
  have hlen35 : (reL (x, due, 0, false)).toArray.size = 1 * 35 := by simp [reL, HXL.out]
  have OB := Aside0.mk (show (((w4.alloc (.cells #[] 98)).alloc (.cells (reL (x, due, 0, false)).toArray 98)).drew).ownsRow (w.heap.size + 1 + 1 + 1) 98 35 (.slice (some ⟨w4.heap.size, 0, none⟩) 0 0) 0 [] from (World.ownsRow_made w4 #[] 0 hsz3 (Nat.zero_le _) (by simp)).alloc _)
  have EB := Aside0.mk (show (((w4.alloc (.cells #[] 98)).alloc (.cells (reL (x, due, 0, false)).toArray 98)).drew).ownsRow 0 98 35 (.slice (some ⟨w4.heap.size + 1, 0, none⟩) 1 1) 1 (reL (x, due, 0, false)) from by
    have h := World.ownsRow_lit (base := 0) (e := 98) (size := 35) (w4.alloc (.cells #[] 98)) (reL (x, due, 0, false)).toArray 1 (Nat.zero_le _) (by simp only [maxLen]; omega) hlen35
    rw [show (w4.alloc (.cells #[] 98)).heap.size = w4.heap.size + 1 by simp] at h
    exact h)
  have OC := Aside0.mk (show (((w4.alloc (.cells (reL (x, due, 0, false)).toArray 98)).alloc (.cells #[] 98)).drew).ownsRow (w.heap.size + 1 + 1 + 1) 98 35 (.slice (some ⟨w4.heap.size + 1, 0, none⟩) 0 0) 0 [] from by
    have h := World.ownsRow_made (base := (w.heap.size + 1 + 1 + 1)) (e := 98) (size := 35) (w4.alloc (.cells (reL (x, due, 0, false)).toArray 98)) #[] 0 (by simp; omega) (Nat.zero_le _) (by simp)
    rw [show (w4.alloc (.cells (reL (x, due, 0, false)).toArray 98)).heap.size = w4.heap.size + 1 by simp] at h
    exact h)
  have EC := Aside0.mk (show (((w4.alloc (.cells (reL (x, due, 0, false)).toArray 98)).alloc (.cells #[] 98)).drew).ownsRow 0 98 35 (.slice (some ⟨w4.heap.size, 0, none⟩) 1 1) 1 (reL (x, due, 0, false)) from (World.ownsRow_lit (base := 0) (e := 98) (size := 35) w4 (reL (x, due, 0, false)).toArray 1 (Nat.zero_le _) (by simp only [maxLen]; omega) hlen35).alloc _)
  clear hsz3 hlen35
  clear l1 l2 d0 d3
  go_region_held3 (fun w' => (ld52 (.pointer (some ⟨w.heap.size, 0, none⟩))).run Try.prog w' = .ok (.agg B1) w' ∧ w'.cell? ⟨w.heap.size, 3, none⟩ = some (.slice A l.length cp) ∧ w'.rangeAt (w.heap.size + 1) 0 (x.map (Value.int .u8)) ∧ ∃ d, Aside0 (Kq w w' B1 (.slice A l.length cp) x d))
    (first | exact (Kq.s KQ.out.drew) | exact keepS (by assumption) rfl (rbV_one _ _ _ _ _ _) | exact keepG (by assumption) (by assumption) HRW.out | exact keepB (by assumption) (by assumption) | exact keepB (by assumption) (below_alloc (Below.refl _ _) _) | fail)
    (first
      | (go_at_call 61; obtain ⟨A6, c6, rfl⟩ := own_slice HO6.out; refine (WI.out _ _ _ _).mono ?_; rintro e_ w7 ⟨rfl, hb7⟩; obtain ⟨d6, K6⟩ := (by assumption : Sq w B1 (.slice A l.length cp) x _).2.2.2; have K7 := Aside0.mk (K6.out.below hb7); have st7 := K7.out.b2.st (d := rbV cap wait inc (.slice A6 (l.length + 1) c6)) rfl (rbV_one _ _ _ _ _ _); have HO7 := Aside0.mk (own_below HO6.out hb7))
      | (refine step_append_row rfl (.tmp 33) (.tmp 37) rfl (w.heap.size + 1 + 1 + 1) v5 l.length (resL l) rfl HO5.out _ 1 0 (reL (x, due, 0, false)) rfl HE5.out (re_one _) (by simp only [maxLen]; omega) (by omega) (by have := KQ.out.sz; have := HG5.out; simp; omega) ?_; intro v6 w6 hown6 hgrow6 hge6; have HRW := Aside0.mk hge6; have HO6 := Aside0.mk hown6)
      | (refine step_append_row rfl (.tmp 30) (.tmp 32) rfl (w.heap.size + 1 + 1 + 1) _ 0 [] rfl (World.ownsRow_made _ #[] 0 KQ.out.sz (Nat.zero_le _) (by simp)) _ l.length 0 (resL l) rfl (own_below HO.out (by assumption : Sq w B1 (.slice A l.length cp) x _).2.2.2.choose_spec.out.low) (res_one _) (by simp only [maxLen]; omega) (by omega) (by have := KQ.out.sz; simp; omega) ?_; intro v5 w5 hown5 hgrow5 hge5; have HRW := Aside0.mk hge5; have HO5 := Aside0.mk (show w5.ownsRow (w.heap.size + 1 + 1 + 1) 98 35 v5 l.length (resL l) from by simpa using hown5); have HG5 := Aside0.mk (show w4.heap.size ≤ w5.heap.size from by have h0 := hgrow5.size; simp at h0; omega))
      | (refine step_append_row rfl (.tmp 33) (.tmp 37) rfl (w.heap.size + 1 + 1 + 1) v5 l.length (resL l) rfl (HO5.out.alloc _) _ 1 0 (reL (x, due, 0, false)) rfl (World.ownsRow_lit (base := 0) _ (reL (x, due, 0, false)).toArray 1 (Nat.zero_le _) (by simp only [maxLen]; omega) (by simp [reL, HXL.out])) (re_one _) (by simp only [maxLen]; omega) (by omega) (by have := KQ.out.sz; have := HG5.out; simp; omega) ?_; intro v6 w6 hown6 hgrow6 hge6; have HRW := Aside0.mk hge6; have HO6 := Aside0.mk hown6)
      | (refine step_append_row rfl (.tmp 30) (.tmp 32) rfl (w.heap.size + 1 + 1 + 1) (.slice (some ⟨w4.heap.size, 0, none⟩) 0 0) 0 [] rfl OB.out _ l.length 0 (resL l) rfl (own_below HO.out (by assumption : Sq w B1 (.slice A l.length cp) x _).2.2.2.choose_spec.out.low) (res_one _) (by simp only [maxLen]; omega) (by omega) (by have := KQ.out.sz; simp; omega) ?_; intro v5 w5 hown5 hgrow5 hge5; have HRW := Aside0.mk hge5; have HO5 := Aside0.mk (show w5.ownsRow (w.heap.size + 1 + 1 + 1) 98 35 v5 l.length (resL l) from by simpa using hown5); have HG5 := Aside0.mk (show w4.heap.size ≤ w5.heap.size from by have h0 := hgrow5.size; simp at h0; omega); have HE5 := Aside0.mk (World.ownsRow.kept (w' := w5) EB.out ⟨hgrow5.os, hgrow5.tape, hgrow5.output, hgrow5.size, hgrow5.block⟩ (.inr (by simp [Value.ownBlock]))))
      | (refine step_append_row rfl (.tmp 30) (.tmp 32) rfl (w.heap.size + 1 + 1 + 1) (.slice (some ⟨w4.heap.size + 1, 0, none⟩) 0 0) 0 [] rfl OC.out _ l.length 0 (resL l) rfl (own_below HO.out (by assumption : Sq w B1 (.slice A l.length cp) x _).2.2.2.choose_spec.out.low) (res_one _) (by simp only [maxLen]; omega) (by omega) (by have := KQ.out.sz; simp; omega) ?_; intro v5 w5 hown5 hgrow5 hge5; have HRW := Aside0.mk hge5; have HO5 := Aside0.mk (show w5.ownsRow (w.heap.size + 1 + 1 + 1) 98 35 v5 l.length (resL l) from by simpa using hown5); have HG5 := Aside0.mk (show w4.heap.size ≤ w5.heap.size from by have h0 := hgrow5.size; simp at h0; omega); have HE5 := Aside0.mk (World.ownsRow.kept (w' := w5) EC.out ⟨hgrow5.os, hgrow5.tape, hgrow5.output, hgrow5.size, hgrow5.block⟩ (.inr (by simp [Value.ownBlock])))))
  all_goals (
    go_wp2
    refine bodyPost_ret (results_B1 rfl _ _ _ _ rfl (K7.out.b2.set rfl (rbV_one _ _ _ _ _ _))) rfl ⟨_, rfl, ?_, setRow_below K7.out.low (by omega)⟩
    rw [resL_append]
    refine own_base0 (own_kept HO7.out (fun k hk => setRow_other _ _ _ _ ?_))
    have h8 := (HO7.out.lt k hk).1
    omega)
end
end Go.Proofs.Ytbhibodgbgndbaa.B
/- The reference's Scan, part one: a minute that is none; the plain scan. Condition: at most 1000000 entries. -/
namespace Go.Proofs.Ytbhibodgbgndbaa.B
open Go Go.RowKit Go.Proofs Go.Proofs.YtbhibodgbgndbaaW.PrintWords Go.Proofs.YtbhibodgbgndbaaW.PrintLast Go.Proofs.YtbhibodgbgndbaaW.PrintMore
set_option linter.unusedVariables false
set_option linter.unusedSimpArgs false
set_option maxRecDepth 100000
set_option maxHeartbeats 16000000

/-- A scan of the reference, plainly: the list behind it, how many were added, whether all were looked at. -/
def rscanG (cap now : Int) : List (List Int) → List RE → Int → List RE × Int × Bool
  | [], l, n => (l, n, true)
  | x :: xs, l, n => if x = zeroId ∨ x ∈ l.map (·.1) then rscanG cap now xs l n else if cap ≤ (l.length : Int) then (l, n, false) else rscanG cap now xs (l ++ [(x, now, 0, false)]) (n + 1)

theorem run_ld29i {W : World} {a : Addr} {i : Nat} {x : List Int} (hx : x.length = 32) (h : ∀ j u, (x.map (Value.int .u8))[j]? = some u → W.cell? (a.add (i * 32 + j)) = some u) : (ld29 (.pointer (some (a.add (i * 32))))).run Try.prog W = .ok (.agg (x.map (Value.int .u8)).toArray) W :=
  run_ld29g W (a.add (i * 32)) x hx (fun j u hu => by rw [Go.Deep.add_add]; exact h j u hu)
def alc52 : Sem Value := Instr.alloc 52 true (.tuple #[])
theorem execOp_alc52 (ρ : Operand → Value) (dst : Option Tmp) (ty : TypeId) (pos : String) (after : Array Edge) (guard : Option (Nat × Bool)) :
    execOp ρ { dst, op := .alloc 52, type := ty, pos, after, guard } = (do pure (.value (← alc52))) := by simp [execOp, alc52]
theorem zero52 : ((Try.prog.info? 52).bind (·.zero)).map (·.cells) = some zeroB := by kernel_rfl
theorem run_alc52 (W : World) : alc52.run Try.prog W = .ok (.pointer (some ⟨W.heap.size, 0, none⟩)) (W.alloc (.cells zeroB 52)) := by
  obtain ⟨v, h1, h2⟩ := Option.map_eq_some_iff.1 zero52
  obtain ⟨it, h3, h4⟩ := Option.bind_eq_some_iff.1 h1
  simp [alc52, Instr.alloc, zeroValue, typeInfo, h3, h4, newVar, h2, newRow, Result.andThen]
theorem results_B2 {fn : Func} {p : Tmp} {t u : Tmp} (h : fn.results = #[.cell p 52, .tmp t, .tmp u]) (tmps : Array Value) (w : World) (M : Nat) (c : Array Value)
    (hp : tmps.getD p undef = .pointer (some ⟨M, 0, none⟩)) (hr : BVar w M c) : (results fn tmps).run Try.prog w = .ok (.tuple #[.agg c, tmps.getD t undef, tmps.getD u undef]) w := by
  have hp' : tmps[p]?.getD undef = .pointer (some ⟨M, 0, none⟩) := by simpa using hp
  simp [results, h, hp', asAddr, hr.load]
theorem set2 (w : World) (c : Array Value) (hc : c.size = 4) (h1 : c.all (·.oneCell') = true) :
    BVar ((w.alloc (.cells c 52)).alloc (.cells zeroB 52)) w.heap.size c ∧ BVar ((w.alloc (.cells c 52)).alloc (.cells zeroB 52)) (w.heap.size + 1) zeroB ∧ Below w.heap.size w ((w.alloc (.cells c 52)).alloc (.cells zeroB 52)) := by
  have s1 : (w.alloc (.cells c 52)).heap.size = w.heap.size + 1 := by simp
  refine ⟨⟨?_, hc, h1⟩, ⟨?_, rfl, zeroB_one⟩, below_alloc (below_alloc (Below.refl _ _) _) _⟩
  · rw [Below.heap_alloc _ _ _ (by simp)]; exact heap_alloc_last w _
  · have := heap_alloc_last (w.alloc (.cells c 52)) (.cells zeroB 52)
    rw [s1] at this; exact this
attribute [local go_sem ↓] execOp_ld29 execOp_ld52 execOp_st52 execOp_alc52
attribute [local go_sem] run_alc52
theorem rscan_min (cap wait : Int) (inc : Bool) (A : Option Addr) (m cp : Nat) (v : Value) (now : Int) (hm : minB now = false) (w : World) :
    Calls Try.prog 53 #[.agg (rbV cap wait inc (.slice A m cp)), v, .int .i64 now] w fun e w' => e = .returned (.tuple #[.agg (rbV cap wait inc (.slice A m cp)), .int .i64 0, .bool false]) ∧ Below w.heap.size w w' := by
  have hu52 := Try.underlying52
  obtain ⟨B1, hB1⟩ : ∃ B1, B1 = rbV cap wait inc (.slice A m cp) := ⟨_, rfl⟩
  have one := rbV_one cap wait inc A m cp
  rw [← hB1] at one ⊢
  obtain ⟨v1, v2, v4⟩ := set2 w B1 (by rw [hB1]; rfl) one
  have l1 := v1.ld
  have l4 := v2.st v1.2.1 v1.2.2
  have KK := Aside0.mk (And.intro v1 (And.intro v2 v4))
  have HM := Aside0.mk hm
  clear hB1 one v1 v2 v4 hm
  go_enter Try.func53, Try.ntmps53
  go_wp2_with (first | (go_at_call 67; refine (rminute_is now _).mono ?_; rintro e_ w1 ⟨rfl, hq⟩; subst w1; rw [HM.out]))
  exact bodyPost_ret (results_B2 rfl _ _ _ B1 rfl (KK.out.2.1.set KK.out.1.2.1 KK.out.1.2.2)) rfl ⟨rfl, setRow_below KK.out.2.2 (by omega)⟩
end Go.Proofs.Ytbhibodgbgndbaa.B
/- The reference's Scan. Condition: at most 1000000 entries. -/
namespace Go.Proofs.Ytbhibodgbgndbaa.B
open Go Go.RowKit Go.Proofs Go.Proofs.YtbhibodgbgndbaaW.PrintWords Go.Proofs.YtbhibodgbgndbaaW.PrintLast Go.Proofs.YtbhibodgbgndbaaW.PrintMore
set_option linter.unusedVariables false
set_option linter.unusedSimpArgs false
set_option maxRecDepth 100000
set_option maxHeartbeats 16000000

theorem own_ne {W : World} {b n : Nat} {v : Value} {xs : List Value} (h : W.ownsRow b 98 35 v n xs) {M : Nat} {c : Array Value} (hb : BVar W M c) : ∀ k, v.ownBlock = some k → k ≠ M := by
  rintro k hk rfl
  rcases h.2 with ⟨rfl, _⟩ | ⟨g, cap, cur, rfl, _, hg, _⟩
  · simp [Value.ownBlock] at hk
  · simp [Value.ownBlock] at hk; subst hk
    rw [hb.1] at hg; cases hg
theorem BVar.other {W : World} {M k : Nat} {c d : Array Value} (h : BVar W M c) (hk : M ≠ k) : BVar (W.setRow k d) M c := ⟨(setRow_other _ _ _ _ hk).trans h.1, h.2⟩
theorem BVar.lt {W : World} {M : Nat} {c : Array Value} (h : BVar W M c) : M < W.heap.size := (Array.getElem?_eq_some_iff.1 h.1).1
theorem own_setRow {W : World} {b n : Nat} {v : Value} {xs : List Value} (h : W.ownsRow b 98 35 v n xs) {M : Nat} {c d : Array Value} (hb : BVar W M c) : (W.setRow M d).ownsRow b 98 35 v n xs :=
  own_kept h (fun k hk => setRow_other _ _ _ _ (own_ne h hb k hk))
/-- What stands at a world is said there, and the world gets a name. -/
theorem stand {P Q : World → Prop} {W : World} (h : P W) (k : ∀ W, P W → Q W) : Q W := k W h
/-- What the reference's Scan has in memory. -/
structure Sk (w W : World) (c d : Array Value) (v : Value) (l : List RE) : Prop where
  b1 : BVar W w.heap.size c
  b2 : BVar W (w.heap.size + 1) d
  low : Below w.heap.size w W
  own : W.ownsRow 0 98 35 v l.length (resL l)
theorem Sk.below {w W W' : World} {c d : Array Value} {v : Value} {l : List RE} (h : Sk w W c d v l) (hb : Below W.heap.size W W') : Sk w W' c d v l :=
  ⟨h.b1.below hb, h.b2.below hb, h.low.trans (hb.mono h.low.size), own_below h.own hb⟩
theorem Sk.setN {w W : World} {c d e e' : Array Value} {v : Value} {l : List RE} (h : Sk w W c d v l) {N : Nat} (hN : BVar W N e) (h1 : w.heap.size + 1 < N) : Sk w (W.setRow N e') c d v l :=
  ⟨h.b1.other (by omega), h.b2.other (by omega), setRow_below h.low (by omega), own_setRow h.own hN⟩
theorem Sk.setM {w W : World} {c d e : Array Value} {v : Value} {l : List RE} (h : Sk w W c d v l) (he : e.size = 4) (h1 : e.all (·.oneCell') = true) : Sk w (W.setRow w.heap.size e) e d v l :=
  ⟨h.b1.set he h1, h.b2.other (by omega), setRow_below h.low (Nat.le_refl _), own_setRow h.own h.b1⟩
theorem Sk.lt {w W : World} {c d : Array Value} {v : Value} {l : List RE} (h : Sk w W c d v l) : w.heap.size + 1 < W.heap.size := h.b2.lt
theorem BVar.new (W : World) {c : Array Value} (hc : c.size = 4) (h1 : c.all (·.oneCell') = true) : BVar (W.alloc (.cells c 52)) W.heap.size c := ⟨heap_alloc_last W _, hc, h1⟩
theorem Sk.alloc {w W : World} {c d : Array Value} {v : Value} {l : List RE} (h : Sk w W c d v l) (o : Obj) : Sk w (W.alloc o) c d v l := h.below (below_alloc (Below.refl _ _) o)
theorem Sk.call {w W W5 : World} {c d : Array Value} {v v6 : Value} {l l6 : List RE} (h : Sk w W c d v l) (hb : Below W.heap.size W W5) (ho : W5.ownsRow 0 98 35 v6 l6.length (resL l6)) : Sk w W5 c d v6 l6 :=
  ⟨h.b1.below hb, h.b2.below hb, h.low.trans (hb.mono h.low.size), ho⟩
/-- Behind the call of Add, where the variable is made behind it. -/
theorem Sk.first {w W W5 : World} {c d e : Array Value} {v v6 : Value} {l l6 : List RE} (h : Sk w W c d v l) (hb : Below W.heap.size W W5) (ho : W5.ownsRow 0 98 35 v6 l6.length (resL l6)) (he : e.size = 4) (h1 : e.all (·.oneCell') = true) :
    Sk w W5 c d v6 l6 ∧ Sk w (W5.alloc (.cells zeroB 52)) c d v6 l6 ∧ Sk w (W5.alloc (.cells e 52)) c d v6 l6 ∧ BVar (W5.alloc (.cells e 52)) W5.heap.size e :=
  ⟨h.call hb ho, (h.call hb ho).alloc _, (h.call hb ho).alloc _, BVar.new W5 he h1⟩
/-- .. ahead of it. -/
theorem Sk.later {w W W5 : World} {c d e : Array Value} {v v6 : Value} {l l6 : List RE} {N : Nat} (h : Sk w W c d v l ∧ BVar W N zeroB) (hN : w.heap.size + 1 < N) (hb : Below W.heap.size W W5) (ho : W5.ownsRow 0 98 35 v6 l6.length (resL l6)) (he : e.size = 4) (h1 : e.all (·.oneCell') = true) :
    Sk w W5 c d v6 l6 ∧ (st52 (.pointer (some ⟨N, 0, none⟩)) (.agg e)).run Try.prog W5 = .ok () (W5.setRow N e) ∧ Sk w (W5.setRow N e) c d v6 l6 ∧ BVar (W5.setRow N e) N e :=
  ⟨h.1.call hb ho, (h.2.below hb).st he h1, (h.1.call hb ho).setN (h.2.below hb) hN, (h.2.below hb).set he h1⟩
theorem own_len {W : World} {v : Value} {k : List RE} {x : List Int} {now : Int} (h : W.ownsRow 0 98 35 v (k.length + 1) (resL (k ++ [(x, now, 0, false)]))) : W.ownsRow 0 98 35 v (k ++ [(x, now, 0, false)]).length (resL (k ++ [(x, now, 0, false)])) := by simpa using h
theorem len_mem {l : List RE} (hl : ∀ r ∈ l, r.1.length = 32) : ∀ e ∈ l.map rE, e.1.length = 32 := fun e he => by
  obtain ⟨r, hr, rfl⟩ := List.mem_map.1 he; exact hl r hr
theorem ids_map (l : List RE) : (l.map rE).map (·.1) = l.map (·.1) := by rw [List.map_map]; rfl
theorem idx_no {l : List RE} {x : List Int} (h : x ∉ l.map (·.1)) : idxOf (l.map rE) x = -1 := idxGo_no x _ 0 (by rw [ids_map]; exact h)
theorem idx_yes {l : List RE} {x : List Int} (h : x ∈ l.map (·.1)) : 0 ≤ idxOf (l.map rE) x := by have := idxGo_ge x (l.map rE) 0 (by rw [ids_map]; exact h); exact this
attribute [local go_sem ↓] execOp_ld29 execOp_ld52 execOp_st52 execOp_alc52
attribute [local go_sem] run_alc52
theorem run_st52n (W : World) (N : Nat) (cap wait : Int) (inc : Bool) (A : Option Addr) (n c : Nat) (hN : W.heap.size = N) : (st52 (.pointer (some ⟨N, 0, none⟩)) (.agg (rbV cap wait inc (.slice A n c)))).run Try.prog (W.alloc (.cells zeroB 52)) = .ok () (W.alloc (.cells (rbV cap wait inc (.slice A n c)) 52)) := by
  subst hN
  exact run_storeAt_new W 52 _ _ info52 rfl (rbV_one _ _ _ _ _ _)
attribute [local go_sem] run_st52n

theorem rscan_is (cap wait : Int) (inc : Bool) (A : Option Addr) (cp : Nat) (l : List RE) (hl : ∀ r ∈ l, r.1.length = 32) (B : Option Addr) (C : Nat) (ids : List (List Int)) (hid : ∀ x ∈ ids, x.length = 32) (hn : l.length + ids.length ≤ 1000000) (now : Int) (hm : minB now = true) (w : World) (ho : w.ownsRow 0 98 35 (.slice A l.length cp) l.length (resL l))
    (gb off : Nat) (hB : 0 < ids.length → B = some ⟨gb, off, none⟩) (hc : ∀ (i : Nat) (x : List Int), ids[i]? = some x → w.rangeAt gb (off + i * 32) (x.map (Value.int .u8))) :
    Calls Try.prog 53 #[.agg (rbV cap wait inc (.slice A l.length cp)), .slice B ids.length C, .int .i64 now] w fun e w' => ∃ v', e = .returned (.tuple #[.agg (rbV cap wait (!(rscanG cap now ids l 0).2.2) v'), .int .i64 (rscanG cap now ids l 0).2.1, .bool (rscanG cap now ids l 0).2.2]) ∧
      w'.ownsRow 0 98 35 v' (rscanG cap now ids l 0).1.length (resL (rscanG cap now ids l 0).1) ∧ Below w.heap.size w w' := by
  have hu52 := Try.underlying52
  have KK := Aside0.mk (show Sk w ((w.alloc (.cells (rbV cap wait inc (.slice A l.length cp)) 52)).alloc (.cells zeroB 52)) (rbV cap wait inc (.slice A l.length cp)) zeroB (.slice A l.length cp) l from
    ⟨(set2 w _ rfl (rbV_one _ _ _ _ _ _)).1, (set2 w _ rfl (rbV_one cap wait inc A l.length cp)).2.1, (set2 w _ rfl (rbV_one cap wait inc A l.length cp)).2.2, own_below ho (set2 w _ rfl (rbV_one cap wait inc A l.length cp)).2.2⟩)
  have HM := Aside0.mk hm
  have HC := Aside0.mk (And.intro hid (And.intro hc hl))
  clear hm hid hc ho hl
  go_enter Try.func53, Try.ntmps53
  go_wp2_with (first | (go_at_call 67; refine (rminute_is now _).mono ?_; rintro e_ w1 ⟨rfl, hq⟩; subst w1; rw [HM.out]))
  go_loopw [9, 10] (fun p9 p10 wr => ∃ (i : Nat) (k : List RE) (n : Int) (A' : Option Addr) (cp' : Nat), p9 = .int .i64 n ∧ p10 = .int .i64 i ∧ Aside0 (0 ≤ n ∧ n ≤ i) ∧ Aside0 (i ≤ ids.length ∧ rscanG cap now ids l 0 = rscanG cap now (ids.drop i) k n ∧ (∀ r ∈ k, r.1.length = 32) ∧ k.length ≤ l.length + i) ∧
      Aside0 (Sk w wr (rbV cap wait inc (.slice A' k.length cp')) zeroB (.slice A' k.length cp') k))
    (fun _ p10 _ => ids.length - (intOf p10).toNat)
  case atStart => exact ⟨0, l, 0, A, cp, rfl, rfl, ⟨by omega, by omega⟩, ⟨Nat.zero_le _, rfl, HC.out.2.2, by omega⟩, KK⟩
  case round =>
    obtain ⟨i, k, n, A', cp', rfl, rfl, HN, HI, HK⟩ := hrel
    by_cases hi : i < ids.length
    · obtain ⟨x, hx⟩ : ∃ x, ids[i]? = some x := ⟨_, List.getElem?_eq_getElem hi⟩
      have hB2 := hB (by omega)
      subst hB2
      have ha := HC.out.2.1 i x hx
      have hxl := HC.out.1 x (List.mem_of_getElem? hx)
      have HD := Aside0.mk (drop_at' hx)
      have LD := Aside0.mk (fun (W : World) (hW : Below w.heap.size w W) => And.intro (run_ld29 W gb (off + i * 32) x hxl (range_below ha hW)) (range_below ha hW))
      have HXL : Aside0 (x.length = 32) := ⟨hxl⟩
      have heq := eq_zero29 x hxl
      have p1 : (0 : Int) ≤ (i : Int) := by omega
      have p2 : (i : Int) < (ids.length : Int) := by omega
      have p3 := wrap_i64 ((i : Int) + 1) (by omega) (by omega)
      have p4 : IntKind.wrap .i64 (n + 1) = n + 1 := by have := HN.out; exact wrap_i64 (n + 1) (by omega) (by omega)
      have KD := Aside0.mk (HK.out.below (below_drew1 (Below.refl wr.heap.size wr)))
      have HB := Aside0.mk (fun (W : World) => rfind_is cap wait inc (.slice A' k.length cp') k HI.out.2.2.1 (by have := HI.out.2.2.2; have := HN.out; omega) x hxl W)
      clear hxl hx ha
      by_cases hz : x = zeroId
      · rw [decide_eq_true hz] at heq
        have HZ := Aside0.mk hz
        clear hz
        have l2 := fun m => (LD.out (wr.drewN m) (pw_below_drewN HK.out.low m)).1
        go_wp2
        go_quiet (fail)
        go_wp2
        go_roundw
        case rel =>
          refine ⟨i + 1, k, n, A', cp', rfl, by go_num, ⟨by have := HN.out; omega, by have := HN.out; omega⟩, ⟨by omega, ?_, HI.out.2.2.1, by have := HI.out.2.2.2; omega⟩, ⟨HK.out.below (pw_below_drewN (Below.refl _ _) _)⟩⟩
          have h1 := HI.out.2.1
          rw [HD.out, rscanG, if_pos (.inl HZ.out)] at h1
          exact h1
        case measure => simp [intOf]; omega
      rw [decide_eq_false hz] at heq
      have HZ := Aside0.mk hz
      by_cases hk : x ∈ k.map (·.1)
      · have hq := idx_yes hk
        obtain ⟨q, hq'⟩ := Int.eq_ofNat_of_zero_le hq
        rw [hq'] at HB
        have HKM := Aside0.mk hk
        clear hz hk hq hq'
        go_wp2
        refine wp_region_still_tail 12 (by kernel_rfl) (by kernel_rfl) ?_
        simp only [List.take_succ_cons, List.take_zero, List.drop_succ_cons, List.drop_zero]
        change wpStill _ _ wr.drew (fun a' => wpList _ _ _ _ a' wr.drew) _ _
        generalize wr.drew = W0 at KD ⊢
        have l2 := (LD.out W0 KD.out.low).1
        have l1 := KD.out.b1.ld
        iterate 12 still_step
        refine wpStill_nil ?_
        clear l1 l2
        go_wp2_with (first | (go_at_call 68; refine (HB.out _ KD.out.own).mono ?_; rintro e_ w4 ⟨rfl, hb4⟩; have K4 := Aside0.mk (KD.out.below hb4); clear hb4))
        go_roundw
        case rel =>
          refine ⟨i + 1, k, n, A', cp', rfl, by go_num, ⟨by have := HN.out; omega, by have := HN.out; omega⟩, ⟨by omega, ?_, HI.out.2.2.1, by have := HI.out.2.2.2; omega⟩, K4⟩
          have h1 := HI.out.2.1
          rw [HD.out, rscanG, if_pos (.inr HKM.out)] at h1
          exact h1
        case measure => simp [intOf]; omega
      have hq := idx_no hk
      have hq2 := HB
      rw [hq] at HB
      have HKM := Aside0.mk hk
      by_cases hf : cap ≤ (k.length : Int)
      · have RA := Aside0.mk (fun (W : World) (hW : W.ownsRow 0 98 35 (.slice A' k.length cp') k.length (resL k)) => radd_full cap wait inc A' cp' k HI.out.2.2.1 (by have := HI.out.2.2.2; have := HN.out; omega) x HXL.out now W hW HZ.out HM.out hq hf)
        have HF := Aside0.mk hf
        clear hq hq2 hf hz hk
        go_wp2
        refine wp_region_still_tail 12 (by kernel_rfl) (by kernel_rfl) ?_
        simp only [List.take_succ_cons, List.take_zero, List.drop_succ_cons, List.drop_zero]
        change wpStill _ _ wr.drew (fun a' => wpList _ _ _ _ a' wr.drew) _ _
        generalize wr.drew = W0 at KD ⊢
        have l2 := (LD.out W0 KD.out.low).1
        have l1 := KD.out.b1.ld
        iterate 12 still_step
        refine wpStill_nil ?_
        clear l1 l2
        go_wp2_with (first | (go_at_call 68; refine (HB.out _ KD.out.own).mono ?_; rintro e_ w4 ⟨rfl, hb4⟩; have K4 := Aside0.mk (KD.out.below hb4); clear hb4))
        clear KD HB
        have hu29 := Try.underlying29
        have hi29 : (Try.prog.info? 29).map (·.size) = some (x.map (Value.int .u8)).length := by rw [List.length_map, HXL.out]; exact info29
        have K4D := Aside0.mk (K4.out.below (below_drew1 (Below.refl w4.heap.size w4)))
        have s1 := K4D.out.b1.ld
        have s2 := (LD.out w4.drew K4D.out.low).2
        have K4A := Aside0.mk (And.intro (K4.out.below ((below_alloc (Below.refl w4.heap.size w4) (.cells zeroB 52)).trans (below_drew1 (Below.refl w4.heap.size _)))) (show BVar (w4.alloc (.cells zeroB 52)).drew w4.heap.size zeroB from BVar.new w4 rfl zeroB_one))
        have HE := Aside0.mk (fun (B6 : Option Addr) (n6 c6 : Nat) => show (rbV cap wait true (.slice B6 n6 c6)).size = 4 ∧ (rbV cap wait true (.slice B6 n6 c6)).all (·.oneCell') = true from ⟨rfl, rbV_one _ _ _ _ _ _⟩)
        have s3 := K4A.out.1.b1.ld
        have s4 := (LD.out _ K4A.out.1.low).2
        clear K4
        go_region_held3 (fun w' => (ld52 (.pointer (some ⟨w.heap.size, 0, none⟩))).run Try.prog w' = .ok (.agg (rbV cap wait inc (.slice A' k.length cp'))) w' ∧ w'.rangeAt gb (off + i * 32) (x.map (Value.int .u8)))
          (first | exact ⟨s1, s2⟩ | exact ⟨s3, s4⟩ | exact ⟨t1, t2⟩ | exact ⟨t3, t4⟩ | exact ⟨t5, t6⟩ | fail)
          (first
            | (go_at_call 51; refine (RA.out _ K4D.out.own).mono ?_; rintro e_ w5 ⟨rfl, hb5⟩; have K8 := Aside0.mk (K4D.out.first hb5 (own_below K4D.out.own hb5) (HE.out A' k.length cp').1 (HE.out A' k.length cp').2); have t1 := K8.out.1.b1.ld; have t2 := (LD.out _ K8.out.1.low).2; have t3 := K8.out.2.1.b1.ld; have t4 := (LD.out _ K8.out.2.1.low).2; have t5 := K8.out.2.2.1.b1.ld; have t6 := (LD.out _ K8.out.2.2.1.low).2; clear hb5)
            | (go_at_call 51; refine (RA.out _ K4A.out.1.own).mono ?_; rintro e_ w5 ⟨rfl, hb5⟩; have K8 := Aside0.mk (Sk.later K4A.out K4D.out.lt hb5 (own_below K4A.out.1.own hb5) (HE.out A' k.length cp').1 (HE.out A' k.length cp').2); have st5 := K8.out.2.1; have t1 := K8.out.1.b1.ld; have t2 := (LD.out _ K8.out.1.low).2; have t5 := K8.out.2.2.1.b1.ld; have t6 := (LD.out _ K8.out.2.2.1.low).2; clear hb5))
        all_goals (
          obtain ⟨k1, k2⟩ := K8.out.2.2
          have g1 := k2.ld
          have g2 := k1.b1.st (HE.out A' k.length cp').1 (HE.out A' k.length cp').2
          have K9 := Aside0.mk (k1.setM (HE.out A' k.length cp').1 (HE.out A' k.length cp').2)
          have g3 := K9.out.b1.ld
          have g4 := K9.out.b2.st (HE.out A' k.length cp').1 (HE.out A' k.length cp').2
          clear k1 k2 K8 K4A K4D
          go_wp2
          have h1 := HI.out.2.1
          rw [HD.out, rscanG, if_neg (by rintro (h | h); exact HZ.out h; exact HKM.out h), if_pos HF.out] at h1
          rw [h1]
          exact bodyPost_ret (results_B2 rfl _ _ _ _ rfl (K9.out.b2.set (HE.out A' k.length cp').1 (HE.out A' k.length cp').2)) rfl ⟨_, rfl, own_setRow K9.out.own K9.out.b2, setRow_below K9.out.low (by omega)⟩)
      · have RA := Aside0.mk (fun (W : World) (hW : W.ownsRow 0 98 35 (.slice A' k.length cp') k.length (resL k)) => radd_ok cap wait inc A' cp' k HI.out.2.2.1 (by have := HI.out.2.2.2; have := HN.out; omega) x HXL.out now W hW HZ.out HM.out hq (by omega))
        have HF := Aside0.mk hf
        clear hq hq2 hf hz hk
        go_wp2
        refine wp_region_still_tail 12 (by kernel_rfl) (by kernel_rfl) ?_
        simp only [List.take_succ_cons, List.take_zero, List.drop_succ_cons, List.drop_zero]
        change wpStill _ _ wr.drew (fun a' => wpList _ _ _ _ a' wr.drew) _ _
        generalize wr.drew = W0 at KD ⊢
        have l2 := (LD.out W0 KD.out.low).1
        have l1 := KD.out.b1.ld
        iterate 12 still_step
        refine wpStill_nil ?_
        clear l1 l2
        go_wp2_with (first | (go_at_call 68; refine (HB.out _ KD.out.own).mono ?_; rintro e_ w4 ⟨rfl, hb4⟩; have K4 := Aside0.mk (KD.out.below hb4); clear hb4))
        clear KD HB
        have hu29 := Try.underlying29
        have hi29 : (Try.prog.info? 29).map (·.size) = some (x.map (Value.int .u8)).length := by rw [List.length_map, HXL.out]; exact info29
        have K4D := Aside0.mk (K4.out.below (below_drew1 (Below.refl w4.heap.size w4)))
        have s1 := K4D.out.b1.ld
        have s2 := (LD.out w4.drew K4D.out.low).2
        have K4A := Aside0.mk (And.intro (K4.out.below ((below_alloc (Below.refl w4.heap.size w4) (.cells zeroB 52)).trans (below_drew1 (Below.refl w4.heap.size _)))) (show BVar (w4.alloc (.cells zeroB 52)).drew w4.heap.size zeroB from BVar.new w4 rfl zeroB_one))
        have HE := Aside0.mk (fun (B6 : Option Addr) (n6 c6 : Nat) => show (rbV cap wait inc (.slice B6 n6 c6)).size = 4 ∧ (rbV cap wait inc (.slice B6 n6 c6)).all (·.oneCell') = true from ⟨rfl, rbV_one _ _ _ _ _ _⟩)
        have s3 := K4A.out.1.b1.ld
        have s4 := (LD.out _ K4A.out.1.low).2
        clear K4
        go_region_held3 (fun w' => (ld52 (.pointer (some ⟨w.heap.size, 0, none⟩))).run Try.prog w' = .ok (.agg (rbV cap wait inc (.slice A' k.length cp'))) w' ∧ w'.rangeAt gb (off + i * 32) (x.map (Value.int .u8)))
          (first | exact ⟨s1, s2⟩ | exact ⟨s3, s4⟩ | exact ⟨t1, t2⟩ | exact ⟨t3, t4⟩ | exact ⟨t5, t6⟩ | fail)
          (first
            | (go_at_call 51; refine (RA.out _ K4D.out.own).mono ?_; rintro e_ w5 ⟨v6, rfl, ho6, hb5⟩; obtain ⟨A6, c6, rfl⟩ := own_slice ho6; have K8 := Aside0.mk (K4D.out.first hb5 (own_len ho6) (HE.out A6 (k.length + 1) c6).1 (HE.out A6 (k.length + 1) c6).2); have t1 := K8.out.1.b1.ld; have t2 := (LD.out _ K8.out.1.low).2; have t3 := K8.out.2.1.b1.ld; have t4 := (LD.out _ K8.out.2.1.low).2; have t5 := K8.out.2.2.1.b1.ld; have t6 := (LD.out _ K8.out.2.2.1.low).2; clear hb5)
            | (go_at_call 51; refine (RA.out _ K4A.out.1.own).mono ?_; rintro e_ w5 ⟨v6, rfl, ho6, hb5⟩; obtain ⟨A6, c6, rfl⟩ := own_slice ho6; have K8 := Aside0.mk (Sk.later K4A.out K4D.out.lt hb5 (own_len ho6) (HE.out A6 (k.length + 1) c6).1 (HE.out A6 (k.length + 1) c6).2); have st5 := K8.out.2.1; have t1 := K8.out.1.b1.ld; have t2 := (LD.out _ K8.out.1.low).2; have t5 := K8.out.2.2.1.b1.ld; have t6 := (LD.out _ K8.out.2.2.1.low).2; clear hb5))
        all_goals (
          obtain ⟨k1, k2⟩ := K8.out.2.2
          have g1 := k2.ld
          have g2 := k1.b1.st (HE.out A6 (k.length + 1) c6).1 (HE.out A6 (k.length + 1) c6).2
          have K9 := Aside0.mk (k1.setM (HE.out A6 (k.length + 1) c6).1 (HE.out A6 (k.length + 1) c6).2)
          have g3 := K9.out.b1.ld
          have g4 := K9.out.b2.st (HE.out A6 (k.length + 1) c6).1 (HE.out A6 (k.length + 1) c6).2
          clear k1 k2 K8 K4A K4D
          go_wp2
          go_roundw
          case rel =>
            refine ⟨i + 1, k ++ [(x, now, 0, false)], n + 1, A6, c6, rfl, by go_num, ⟨by have := HN.out; omega, by have := HN.out; omega⟩, ⟨by omega, ?_, ?_, by have := HI.out.2.2.2; simp; omega⟩, ⟨?_⟩⟩
            · have h1 := HI.out.2.1
              rw [HD.out, rscanG, if_neg (by rintro (h | h); exact HZ.out h; exact HKM.out h), if_neg (by have := HF.out; omega)] at h1
              exact h1
            · intro r hr
              rcases List.mem_append.1 hr with hr | hr
              · exact HI.out.2.2.1 r hr
              · simp at hr; subst hr; exact HXL.out
            · simpa using K9.out
          case measure => simp [intOf]; omega)
    · have hle := HI.out.1
      have k1 := HK.out.b1
      have d2 : wr.cell? ⟨w.heap.size, 2, none⟩ = some (.bool inc) := by rw [cell_of_row wr _ 2 _ 52 (0, 0) k1.1]; rfl
      have f2 : wr.frozen? ⟨w.heap.size, 2, none⟩ = false := blk_frozen k1.1 2
      have z1 : Sk w (wr.setCell ⟨w.heap.size, 2, none⟩ (.bool false)) (rbV cap wait false (.slice A' k.length cp')) zeroB (.slice A' k.length cp') k :=
        ⟨⟨by simp [World.setCell, Array.getElem?_modify, k1.1]; rfl, rfl, rbV_one _ _ _ _ _ _⟩, ⟨(Below.heap_setCell _ _ _ _ (by simp)).trans HK.out.b2.1, HK.out.b2.2⟩, HK.out.low.setCell (p := ⟨w.heap.size, 2, none⟩) (Nat.le_refl _) (.bool false),
          own_kept HK.out.own (fun j hj => Below.heap_setCell _ _ _ _ (own_ne HK.out.own k1 j hj))⟩
      have l3 := z1.b1.ld
      have l4 := z1.b2.st z1.b1.2.1 z1.b1.2.2
      have Z := Aside0.mk z1
      have h1 := HI.out.2.1
      rw [List.drop_eq_nil_of_le (by omega), rscanG] at h1
      have H1 := Aside0.mk h1
      clear k1 z1 h1
      go_wp2
      rw [H1.out]
      exact bodyPost_ret (results_B2 rfl _ _ _ _ rfl (Z.out.b2.set rfl (rbV_one _ _ _ _ _ _))) rfl ⟨_, rfl, own_setRow Z.out.own Z.out.b2, setRow_below Z.out.low (by omega)⟩
end Go.Proofs.Ytbhibodgbgndbaa.B
/- slices.Index and slices.Contains of identities. Condition: at most 1000000 identities. -/
namespace Go.Proofs.Ytbhibodgbgndbaa.B
open Go Go.RowKit Go.Proofs Go.Proofs.YtbhibodgbgndbaaW.PrintWords Go.Proofs.YtbhibodgbgndbaaW.PrintLast Go.Proofs.YtbhibodgbgndbaaW.PrintMore
set_option linter.unusedVariables false
set_option linter.unusedSimpArgs false
attribute [local go_sem ↓] execOp_ld30

def idxL (y : List Int) : List (List Int) → Nat → Int
  | [], _ => -1
  | x :: l, i => if y = x then (i : Int) else idxL y l (i + 1)
theorem idxL_mem (y : List Int) : ∀ (l : List (List Int)) (i : Nat), decide (idxL y l i ≥ 0) = decide (y ∈ l)
  | [], i => by simp [idxL]
  | x :: l, i => by
    unfold idxL
    by_cases h : y = x
    · rw [if_pos h, decide_eq_true (by omega), decide_eq_true (by simp [h])]
    · rw [if_neg h, idxL_mem y l (i + 1)]; simp [h]
theorem idsL_at (l : List (List Int)) (hl : ∀ x ∈ l, x.length = 32) (i : Nat) (x : List Int) (hx : l[i]? = some x) (j : Nat) (v : Value) (hv : (x.map (Value.int .u8))[j]? = some v) : (idsL l)[i * 32 + j]? = some v := by
  induction l generalizing i with
  | nil => simp at hx
  | cons z l ih =>
    have hz : (z.map (Value.int .u8)).length = 32 := by rw [List.length_map]; exact hl z (by simp)
    show (z.map (Value.int .u8) ++ idsL l)[i * 32 + j]? = some v
    cases i with
    | zero =>
      simp at hx
      subst hx
      have hj := (List.getElem?_eq_some_iff.1 hv).1
      rw [List.getElem?_append_left (by omega), Nat.zero_mul, Nat.zero_add]; exact hv
    | succ i =>
      rw [List.getElem?_append_right (by omega), show (i + 1) * 32 + j - (z.map (Value.int .u8)).length = i * 32 + j by omega]
      exact ih (fun e h => hl e (by simp [h])) i (by simpa using hx)
/-- Identities lie in a block. -/
def IdsAt (w : World) (gb : Nat) (l : List (List Int)) : Prop := ∀ i x, l[i]? = some x → w.rangeAt gb (i * 32) (x.map (Value.int .u8))
theorem ids_of_own {W : World} {base : Nat} {v : Value} {l : List (List Int)} (hl : ∀ x ∈ l, x.length = 32) (h : W.ownsRow base 30 32 v l.length (idsL l)) :
    ∃ (A : Option Addr) (gb cap : Nat), v = .slice A l.length cap ∧ (0 < l.length → A = some ⟨gb, 0, none⟩) ∧ IdsAt W gb l := by
  rcases h.2 with ⟨rfl, h0⟩ | ⟨gb, cap, cur, rfl, _⟩
  · have : l = [] := List.eq_nil_of_length_eq_zero h0
    subst this
    exact ⟨none, 0, 0, rfl, fun h => by simp at h, fun i e he => by simp at he⟩
  · refine ⟨_, gb, cap, rfl, fun _ => rfl, fun i e he j u hu => ?_⟩
    have := h.cells (g := gb) rfl (i * 32 + j) u (idsL_at l hl i e he j u hu)
    rwa [cell_add] at this
theorem rangeb {w w1 : World} {b o : Nat} {cs : List Value} (h : w.rangeAt b o cs) (hb : Below w.heap.size w w1) : w1.rangeAt b o cs := fun j v hv => (hb.cell (World.block_lt_of_cell? _ _ (h j v hv))).trans (h j v hv)
set_option maxHeartbeats 8000000 in
set_option maxRecDepth 100000 in
theorem indexI (l : List (List Int)) (hl : ∀ x ∈ l, x.length = 32) (hn : l.length ≤ 1000000) (y : List Int) (hy : y.length = 32) (A : Option Addr) (gb cap : Nat) (hA : 0 < l.length → A = some ⟨gb, 0, none⟩) (w : World) (hr : IdsAt w gb l) :
    Calls Try.prog 45 #[.slice A l.length cap, idV y] w fun e w' => e = .returned (.int .i64 (idxL y l 0)) ∧ Below w.heap.size w w' := by
  have HL := Aside0.mk (And.intro hl (And.intro hy hr))
  clear hl hy hr
  unfold idV
  go_enter Try.func45, Try.ntmps45
  go_wp2
  go_loopw [8] (fun p8 wr => ∃ i : Nat, p8 = .int .i64 i ∧ Aside0 (i ≤ l.length ∧ idxL y l 0 = idxL y (l.drop i) i) ∧ Aside0 (Below (w.alloc (.cells (idC y) 30)).heap.size (w.alloc (.cells (idC y) 30)) wr))
    (fun p8 _ => l.length - (intOf p8).toNat)
  case atStart => exact ⟨0, rfl, ⟨Nat.zero_le _, rfl⟩, ⟨Below.refl _ _⟩⟩
  case round =>
    obtain ⟨i, rfl, HI, HW⟩ := hrel
    by_cases hi : i < l.length
    · obtain ⟨x, he⟩ : ∃ x, l[i]? = some x := ⟨_, List.getElem?_eq_getElem hi⟩
      have hA2 := hA (by omega)
      subst hA2
      have hx := HL.out.1 x (List.mem_of_getElem? he)
      have hrx : wr.rangeAt gb (i * 32) (x.map (Value.int .u8)) := rangeb (rangeb (HL.out.2.2 i x he) (below_alloc (Below.refl _ _) _)) HW.out
      have hbx : wr.rangeAt w.heap.size 0 (y.map (Value.int .u8)) := box_range2 HW.out
      have l1 := fun n => run_ld30 (wr.drewN n) w.heap.size y HL.out.2.1 hbx
      have l2 : ∀ n, (ld30 (.pointer (some ⟨gb, i * 32, none⟩))).run Try.prog (wr.drewN n) = .ok (.agg (x.map (Value.int .u8)).toArray) (wr.drewN n) := fun n => run_loadAt_mid (wr.drewN n) gb (i * 32) 30 _ _ hrx Try.underlying30 rfl (by rw [List.length_map, hx]; exact info30)
      have l3 := run_ld30 wr w.heap.size y HL.out.2.1 hbx
      have l4 : (ld30 (.pointer (some ⟨gb, i * 32, none⟩))).run Try.prog wr = .ok (.agg (x.map (Value.int .u8)).toArray) wr := run_loadAt_mid wr gb (i * 32) 30 _ _ hrx Try.underlying30 rfl (by rw [List.length_map, hx]; exact info30)
      have heq : ∀ W : World, (Op.equalIn 10000 30 (.agg (y.map (Value.int .u8)).toArray) (.agg (x.map (Value.int .u8)).toArray)).run Try.prog W = .ok (decide (y = x)) W := fun W => run_eqId 9998 W y x HL.out.2.1 hx
      have p1 : (0 : Int) ≤ (i : Int) := by omega
      have p2 : (i : Int) < (l.length : Int) := by omega
      have HEI := Aside0.mk he
      clear hx hrx hbx he
      by_cases hq : y = x
      · rw [decide_eq_true hq] at heq
        have HQ := Aside0.mk hq
        clear hq
        go_wp2
        go_quiet (fail)
        go_wp2
        go_ret
        refine ⟨?_, ((below_alloc (Below.refl _ _) _).trans (HW.out.mono (by simp))).trans ((drewN_mk wr _).mono (by have := HW.out.size; simp at this; omega))⟩
        have h1 := HI.out.2
        rw [drop_at' HEI.out, idxL, if_pos HQ.out] at h1
        rw [h1]; rfl
      · rw [decide_eq_false hq] at heq
        have HQ := Aside0.mk hq
        clear hq
        go_wp2
        go_quiet (fail)
        go_wp2
        go_roundw
        case rel =>
          refine ⟨i + 1, by go_num, ⟨by omega, ?_⟩, ⟨HW.out.trans ((drewN_mk wr _).mono HW.out.size)⟩⟩
          have h1 := HI.out.2
          rw [drop_at' HEI.out, idxL, if_neg HQ.out] at h1
          exact h1
        case measure => simp [intOf]; omega
    · have hle := HI.out.1
      go_wp2
      go_ret
      refine ⟨?_, (below_alloc (Below.refl _ _) _).trans (HW.out.mono (by simp))⟩
      have h1 := HI.out.2
      rw [List.drop_eq_nil_of_le (by omega)] at h1
      rw [h1]; rfl
theorem contains_is (l : List (List Int)) (hl : ∀ x ∈ l, x.length = 32) (hn : l.length ≤ 1000000) (y : List Int) (hy : y.length = 32) (v : Value) (base : Nat) (w : World) (ho : w.ownsRow base 30 32 v l.length (idsL l)) :
    Calls Try.prog 21 #[v, idV y] w fun e w' => e = .returned (.bool (decide (y ∈ l))) ∧ Below w.heap.size w w' := by
  obtain ⟨A, gb, cap, rfl, hA, hE⟩ := ids_of_own hl ho
  have HL := Aside0.mk (And.intro hl (And.intro hy (And.intro hA hE)))
  have l1 := run_ld30 (w.alloc (.cells (idC y) 30)) w.heap.size y hy (id_range w y)
  rw [← idxL_mem y l 0]
  clear hl hy hA hE ho
  unfold idV
  go_enter Try.func21, Try.ntmps21
  go_wp2_with (first | (go_at_call 45; refine (indexI l HL.out.1 hn y HL.out.2.1 A gb cap HL.out.2.2.1 _ (fun i x h => rangeb (HL.out.2.2.2 i x h) (below_alloc (Below.refl _ _) _))).mono ?_; rintro e_ w1 ⟨rfl, hb1⟩))
  go_ret
  exact ⟨rfl, (below_alloc (Below.refl _ _) _).trans (hb1.mono (by simp))⟩
end Go.Proofs.Ytbhibodgbgndbaa.B
