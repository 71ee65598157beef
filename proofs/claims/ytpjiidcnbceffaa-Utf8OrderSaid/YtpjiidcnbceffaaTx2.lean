-- Written by a program of this session (inj.py) through the kit's print.
import Derived.Test.YtpjiidcnbceffaaTx0
import Derived.Test.YtpjiidcnbceffaaTx1
namespace Go.Proofs.Ytpjiidcnbceffaa.T
open Go.Proofs.Ytpjiidcnbceffaa.UA Go.Proofs.Ytpjiidcnbceffaa.Q
open Go.RowKit Go.Proofs.YtpjiidcnbceffaaW.PrintWords Go.Proofs.YtpjiidcnbceffaaW.PrintLast Go.Proofs.YtpjiidcnbceffaaW.PrintMore
attribute [local go_sem] max2_int min2_int max_two min_two max_three min_three max_four min_four   -- for this text's walks alone
set_option linter.unusedVariables false
set_option linter.unusedSimpArgs false

/-! ### bulletinlaw03_Utf8Printable: function 9 -/
def bulletinlaw03_Utf8Printable.l0 : Nat → ByteArray → List Int → Bool → Int → Option (Bool)
  | 0, _, _, _, _ => none
  | k + 1, x0, x3, x7, x8 => if x8 < (x3.length : Int) then (if x7 = true then (if 0 ≤ x8 then ((bulletinref03_Control.f (rd x3 x8)).bind fun t149 => (bulletinlaw03_Utf8Printable.l0 k x0 x3 (!t149) (wrap64 (x8 + 1)))) else (none)) else (bulletinlaw03_Utf8Printable.l0 k x0 x3 false (wrap64 (x8 + 1)))) else ((bulletinlaw03_known.f k).bind fun t150 => (if t150 = true then ((utf8_Printable.f x0).bind fun t151 => (some (t151 == x7))) else (some false)))
def bulletinlaw03_Utf8Printable.f (k : Nat) (a0 : ByteArray) : Option (Bool) := (bulletinlaw03_short.f a0 300).bind fun t139 => ((bulletinref03_All.f k t139).bind fun bt140 => (bulletinlaw03_Utf8Printable.l0 k t139 bt140.1 (bt140.2.2.2 == 0) 0))
theorem bulletinlaw03_Utf8Printable.mono_l : ∀ k, (∀ y0 y1 y2 y3, LeO (bulletinlaw03_Utf8Printable.l0 k y0 y1 y2 y3) (bulletinlaw03_Utf8Printable.l0 (k + 1) y0 y1 y2 y3))
  | 0 => fun _ _ _ _ r h => by simp [bulletinlaw03_Utf8Printable.l0] at h
  | k + 1 => by
    have ih0 := bulletinlaw03_Utf8Printable.mono_l k
    · intro y0 y1 y2 y3
      unfold bulletinlaw03_Utf8Printable.l0
      repeat' first
      | (with_reducible exact ih0 _ _ _ _)
      | (with_reducible exact bulletinlaw03_known.mono _)
      | (with_reducible exact bulletinref03_All.mono _ _)
      | (with_reducible exact LeO.refl _)
      | (with_reducible exact LeO.none _)
      | (with_reducible refine LeO.ite ?_ ?_)
      | (with_reducible refine LeO.bind ?_ (fun _ => ?_))
      | exact ih0 _ _ _ _
      | exact bulletinlaw03_known.mono _
      | exact bulletinref03_All.mono _ _
      | exact LeO.none _
      | refine LeO.ite ?_ ?_
      | refine LeO.bind ?_ (fun _ => ?_)
theorem bulletinlaw03_Utf8Printable.mono : ∀ a0 k, LeO (bulletinlaw03_Utf8Printable.f k a0) (bulletinlaw03_Utf8Printable.f (k + 1) a0) := by
  intro a0 k
  have ih0 := bulletinlaw03_Utf8Printable.mono_l k
  unfold bulletinlaw03_Utf8Printable.f
  repeat' first
      | (with_reducible exact ih0 _ _ _ _)
      | (with_reducible exact bulletinlaw03_known.mono _)
      | (with_reducible exact bulletinref03_All.mono _ _)
      | (with_reducible exact LeO.refl _)
      | (with_reducible exact LeO.none _)
      | (with_reducible refine LeO.ite ?_ ?_)
      | (with_reducible refine LeO.bind ?_ (fun _ => ?_))
      | exact ih0 _ _ _ _
      | exact bulletinlaw03_known.mono _
      | exact bulletinref03_All.mono _ _
      | exact LeO.none _
      | refine LeO.ite ?_ ?_
      | refine LeO.bind ?_ (fun _ => ?_)
set_option maxHeartbeats 8000000 in
set_option maxRecDepth 100000 in
theorem bulletinlaw03_Utf8Printable.calls (k : Nat) (a0 : ByteArray) (r : Bool) (w : World) (h : bulletinlaw03_Utf8Printable.f k a0 = some r) :
    Calls Try.prog 9 #[.string a0] w fun e w' => e = .returned (.bool r) ∧ Below w.heap.size w w' := by
  have HB := Aside0.mk (Below.refl w.heap.size w)
  have H : ((bulletinlaw03_short.f a0 300).bind fun t139 => ((bulletinref03_All.f k t139).bind fun bt140 => (bulletinlaw03_Utf8Printable.l0 k t139 bt140.1 (bt140.2.2.2 == 0) 0))) = some r := h
  clear h
  replace H := Option.bind_eq_some_iff.mp H
  obtain ⟨t139, A20, H⟩ := H
  replace H : ((bulletinref03_All.f k t139).bind fun bt140 => (bulletinlaw03_Utf8Printable.l0 k t139 bt140.1 (bt140.2.2.2 == 0) 0)) = some r := H
  have A2 := Aside0.mk A20
  clear A20
  replace H := Option.bind_eq_some_iff.mp H
  obtain ⟨⟨t140, t141, t142, t143⟩, A30, H⟩ := H
  replace H : (bulletinlaw03_Utf8Printable.l0 k t139 t140 (t143 == 0) 0) = some r := H
  have A3 := Aside0.mk A30
  clear A30
  have H' := Aside0.mk H
  clear H
  go_enter Try.func9, Try.ntmps9
  go_wp2_with (first | ((with_reducible refine gate_callee (f := 14) rfl ?_); refine goesL_ (some 10) rfl rfl Try.func14 (by kernel_rfl) rfl #[.string a0, .int .i64 300] rfl (by (try simp only [List.map_toArray, List.map_cons, List.map_nil]); first | done | rfl | (simp only [List.length_drop, List.length_take]; rfl)) ?_; (with_reducible refine (bulletinlaw03_short.calls a0 300 t139 _ A2.out).mono ?_); rintro e w4 ⟨rfl, hb⟩; refine ⟨_, rfl, ?_⟩; have n0_ := Aside0.mk (below_step (by repeat (first | (with_reducible first | exact HB.out | apply below_alloc | apply pw_below_drewN | apply below_drew1) | exact HB.out)) hb); clear HB; have HB := n0_; clear n0_; (try clear hb); (try clear hb2); (try clear hk); (try clear hi)) | ((with_reducible refine gate_callee (f := 15) rfl ?_); refine goesL_ (some 13) rfl rfl Try.func15 (by kernel_rfl) rfl #[.string t139] rfl (by (try simp only [List.map_toArray, List.map_cons, List.map_nil]); first | done | rfl | (simp only [List.length_drop, List.length_take]; rfl)) ?_; (with_reducible refine (bulletinref03_All.calls k t139 t140 t141 t142 t143 _ A3.out).mono ?_); rintro e w5 ⟨v144, v146, rfl, ho0, ho1, hb⟩; refine ⟨_, rfl, ?_⟩; have n0_ := Aside0.mk (Kd.R_lower ho0 (below_size (by repeat (first | (with_reducible first | exact HB.out | apply below_alloc | apply pw_below_drewN | apply below_drew1) | exact HB.out)))); have n1_ := Aside0.mk (Kd.R_lower ho1 (below_size (by repeat (first | (with_reducible first | exact HB.out | apply below_alloc | apply pw_below_drewN | apply below_drew1) | exact HB.out)))); have n2_ := Aside0.mk (below_step (by repeat (first | (with_reducible first | exact HB.out | apply below_alloc | apply pw_below_drewN | apply below_drew1) | exact HB.out)) hb); clear HB; have HO145 := n0_; have HO147 := n1_; have HB := n2_; clear n0_ n1_ n2_; (try clear hb); (try clear hb2); (try clear hk); (try clear hi); (try clear ho0); (try clear ho1)))
  go_loopg [7, 8] k (fun kq v7 v8 w' => ∃ (x7_1 : Bool) (x8_1 : Int), v7 = .bool x7_1 ∧ v8 = .int .i64 x8_1 ∧ Aside0 (bulletinlaw03_Utf8Printable.l0 kq t139 t140 x7_1 x8_1 = some r) ∧ Aside0 (kq ≤ k) ∧ Aside0 (Kd.R (Kd.int .i64) 3 w' w.heap.size (fun _ => True) v144 t140) ∧ Aside0 (Below w.heap.size w w'))
  case atStart => exact ⟨((t143 == 0)), (0), (by first | rfl | (simp; done) | (simp [*]; done)), (by first | rfl | (simp; done) | (simp [*]; done)), H', ⟨Nat.le_refl _⟩, ⟨by (with_reducible repeat (first | apply Kd.R_alloc | apply Kd.R_drewN | apply Kd.R_drew)); exact Kd.R_mono HO145.out (fun _ hk => trivial)⟩, ⟨by repeat (first | (with_reducible first | exact HB.out | apply below_alloc | apply pw_below_drewN | apply below_drew1) | exact HB.out)⟩⟩
  case round =>
    clear H'
    try clear c1
    try clear p2
    obtain ⟨x7_1, x8_1, rfl, rfl, HA, HK1, HO_3, HB⟩ := hrel
    cases gk with
    | zero => exact absurd HA.out (by simp [bulletinlaw03_Utf8Printable.l0])
    | succ k1 =>
      have H := HA.out
      clear HA
      simp only [bulletinlaw03_Utf8Printable.l0] at H
      by_cases c6 : x8_1 < (t140.length : Int)
      · rw [if_pos c6] at H
        have c6b0 : decide (x8_1 < (t140.length : Int)) = true := decide_eq_true c6
        clear c6
        by_cases c7 : x7_1 = true
        · subst c7
          have H1 : (if 0 ≤ x8_1 then ((bulletinref03_Control.f (rd t140 x8_1)).bind fun t149 => (bulletinlaw03_Utf8Printable.l0 k1 t139 t140 (!t149) (wrap64 (x8_1 + 1)))) else (none)) = some r := by rw [if_pos rfl] at H; exact H
          clear H
          have H := H1
          clear H1
          by_cases c8 : 0 ≤ x8_1
          · rw [if_pos c8] at H
            have c8b0 : decide (0 ≤ x8_1) = true := decide_eq_true c8
            clear c8
            replace H := Option.bind_eq_some_iff.mp H
            obtain ⟨t149, A90, H⟩ := H
            replace H : (bulletinlaw03_Utf8Printable.l0 k1 t139 t140 (!t149) (wrap64 (x8_1 + 1))) = some r := H
            have A9 := Aside0.mk A90
            clear A90
            have H' := Aside0.mk H
            clear H
            obtain ⟨Ao10, co10, eo10⟩ := Kd.R_slice HO_3.out
            subst eo10
            have p148 : 0 ≤ (x8_1 : Int) := of_decide_eq_true (by first | (with_reducible assumption) | assumption)
            have q148 : x8_1 < (t140.length : Int) := of_decide_eq_true (by first | (with_reducible assumption) | assumption)
            obtain ⟨ad148, e148, hx148_0⟩ := Kd.at_int (Kd.R_reads' HO_3.out).2.2 x8_1 p148 q148
            cases e148
            replace p148 := eq_true p148
            replace q148 := eq_true q148
            go_wp2_with (first | (go_at_call 28; (with_reducible refine (bulletinref03_Control.calls (rd t140 x8_1) t149 _ A9.out).mono ?_); rintro e w' ⟨rfl, ⟨nd, rfl⟩⟩))
            go_roundg k1
            case measure => have := HK1.out; omega
            case rel => exact ⟨(!t149), (wrap64 (x8_1 + 1)), (by first | rfl | (simp; done) | (simp [*]; done)), (by first | rfl | (simp; done) | (simp [*]; done)), H', ⟨by have := HK1.out; omega⟩, ⟨by (with_reducible repeat (first | apply Kd.R_alloc | apply Kd.R_drewN | apply Kd.R_drew)); exact HO_3.out⟩, ⟨by repeat (first | (with_reducible first | exact HB.out | apply below_alloc | apply pw_below_drewN | apply below_drew1) | exact HB.out)⟩⟩
          · rw [if_neg c8] at H
            exact absurd H (by simp)
        · replace c7 := Bool.eq_false_iff.mpr c7
          subst c7
          have H1 : (bulletinlaw03_Utf8Printable.l0 k1 t139 t140 false (wrap64 (x8_1 + 1))) = some r := by rw [if_neg (show ¬ (false = true) by decide)] at H; exact H
          clear H
          have H := H1
          clear H1
          have H' := Aside0.mk H
          clear H
          obtain ⟨Ao11, co11, eo11⟩ := Kd.R_slice HO_3.out
          subst eo11
          go_wp2
          go_roundg k1
          case measure => have := HK1.out; omega
          case rel => exact ⟨(false), (wrap64 (x8_1 + 1)), (by first | rfl | (simp; done) | (simp [*]; done)), (by first | rfl | (simp; done) | (simp [*]; done)), H', ⟨by have := HK1.out; omega⟩, ⟨by (with_reducible repeat (first | apply Kd.R_alloc | apply Kd.R_drewN | apply Kd.R_drew)); exact HO_3.out⟩, ⟨by repeat (first | (with_reducible first | exact HB.out | apply below_alloc | apply pw_below_drewN | apply below_drew1) | exact HB.out)⟩⟩
      · rw [if_neg c6] at H
        have c6b0 : decide (x8_1 < (t140.length : Int)) = false := decide_eq_false c6
        clear c6
        replace H := Option.bind_eq_some_iff.mp H
        obtain ⟨t150, A120, H⟩ := H
        replace H : (if t150 = true then ((utf8_Printable.f t139).bind fun t151 => (some (t151 == x7_1))) else (some false)) = some r := H
        have A12 := Aside0.mk A120
        clear A120
        by_cases c13 : t150 = true
        · subst c13
          have H1 : ((utf8_Printable.f t139).bind fun t151 => (some (t151 == x7_1))) = some r := by rw [if_pos rfl] at H; exact H
          clear H
          have H := H1
          clear H1
          replace H := Option.bind_eq_some_iff.mp H
          obtain ⟨t151, A140, H⟩ := H
          replace H : (some (t151 == x7_1)) = some r := H
          have A14 := Aside0.mk A140
          clear A140
          obtain rfl := Option.some.inj H
          obtain ⟨Ao15, co15, eo15⟩ := Kd.R_slice HO_3.out
          subst eo15
          go_wp2_with (first | ((with_reducible refine gate_callee (f := 17) rfl ?_); refine goesL_ (some 35) rfl rfl Try.func17 (by kernel_rfl) rfl #[] rfl (by (try simp only [List.map_toArray, List.map_cons, List.map_nil]); first | done | rfl | (simp only [List.length_drop, List.length_take]; rfl)) ?_; (with_reducible refine (bulletinlaw03_known.calls k1  true _ A12.out).mono ?_); rintro e w16 ⟨rfl, hb⟩; refine ⟨_, rfl, ?_⟩; have n0_ := Aside0.mk (Kd.R_below (by (with_reducible repeat (first | apply Kd.R_alloc | apply Kd.R_drewN | apply Kd.R_drew)); exact HO_3.out) hb); have n1_ := Aside0.mk (below_step (by repeat (first | (with_reducible first | exact HB.out | apply below_alloc | apply pw_below_drewN | apply below_drew1) | exact HB.out)) hb); clear HO_3; clear HB; have HO_3 := n0_; have HB := n1_; clear n0_ n1_; (try clear hb); (try clear hb2); (try clear hk); (try clear hi)) | (go_at_call 29; (with_reducible refine (utf8_Printable.calls t139 t151 _ A14.out).mono ?_); rintro e w17 ⟨rfl, hb⟩; have n0_ := Aside0.mk (Kd.R_below (by (with_reducible repeat (first | apply Kd.R_alloc | apply Kd.R_drewN | apply Kd.R_drew)); exact HO_3.out) hb); have n1_ := Aside0.mk (below_step (by repeat (first | (with_reducible first | exact HB.out | apply below_alloc | apply pw_below_drewN | apply below_drew1) | exact HB.out)) hb); clear HO_3; clear HB; have HO_3 := n0_; have HB := n1_; clear n0_ n1_; (try clear hb); (try clear hb2); (try clear hk); (try clear hi)))
          go_ret
          exact ⟨by first | rfl | (simp [errW_none, errW_some] <;> rfl) | (simp [*, errW_none, errW_some] <;> rfl), by repeat (first | (with_reducible first | exact HB.out | apply below_alloc | apply pw_below_drewN | apply below_drew1) | exact HB.out)⟩
        · replace c13 := Bool.eq_false_iff.mpr c13
          subst c13
          have H1 : (some false) = some r := by rw [if_neg (show ¬ (false = true) by decide)] at H; exact H
          clear H
          have H := H1
          clear H1
          obtain rfl := Option.some.inj H
          obtain ⟨Ao18, co18, eo18⟩ := Kd.R_slice HO_3.out
          subst eo18
          go_wp2_with (first | ((with_reducible refine gate_callee (f := 17) rfl ?_); refine goesL_ (some 35) rfl rfl Try.func17 (by kernel_rfl) rfl #[] rfl (by (try simp only [List.map_toArray, List.map_cons, List.map_nil]); first | done | rfl | (simp only [List.length_drop, List.length_take]; rfl)) ?_; (with_reducible refine (bulletinlaw03_known.calls k1  false _ A12.out).mono ?_); rintro e w19 ⟨rfl, hb⟩; refine ⟨_, rfl, ?_⟩; have n0_ := Aside0.mk (Kd.R_below (by (with_reducible repeat (first | apply Kd.R_alloc | apply Kd.R_drewN | apply Kd.R_drew)); exact HO_3.out) hb); have n1_ := Aside0.mk (below_step (by repeat (first | (with_reducible first | exact HB.out | apply below_alloc | apply pw_below_drewN | apply below_drew1) | exact HB.out)) hb); clear HO_3; clear HB; have HO_3 := n0_; have HB := n1_; clear n0_ n1_; (try clear hb); (try clear hb2); (try clear hk); (try clear hi)))
          go_ret
          exact ⟨by first | rfl | (simp [errW_none, errW_some] <;> rfl) | (simp [*, errW_none, errW_some] <;> rfl), by repeat (first | (with_reducible first | exact HB.out | apply below_alloc | apply pw_below_drewN | apply below_drew1) | exact HB.out)⟩

/-- THE ONE PURE STATEMENT of bulletinlaw03_Utf8Printable: yours. -/
def bulletinlaw03_Utf8Printable.Pure : Prop := ∀ (a0 : ByteArray), a0.size ≤ 140737488351232 → ∃ k, bulletinlaw03_Utf8Printable.f k a0 = some true
theorem bulletinlaw03_Utf8Printable.walk (P : bulletinlaw03_Utf8Printable.Pure) (a0 : ByteArray) (w : World) (w0 : a0.size ≤ 140737488351232) :
    Calls Try.prog 9 #[.string a0] w fun e w' => e = .returned (.bool true) ∧ Below w.heap.size w w' := by
  obtain ⟨k, h⟩ := P a0 w0
  refine (bulletinlaw03_Utf8Printable.calls k a0 true w h).mono ?_
  rintro e w' ⟨rfl, hd⟩
  exact ⟨rfl, hd⟩

/-! ### utf8_Offset: function 33 -/
def utf8_Offset.f (a0 : ByteArray) (a1 : Int) : Option (Int × Int) := (utf8_offsets.f a0).bind fun bt152 => (if bt152.2 = 0 then (if a1 < 0 then (some (0, 2)) else (if a1 ≥ (bt152.1.length : Int) then (some (0, 2)) else (if 0 ≤ a1 then (if a1 < (bt152.1.length : Int) then (some (rd bt152.1 a1, 0)) else (none)) else (none)))) else (some (0, bt152.2)))
set_option maxHeartbeats 8000000 in
set_option maxRecDepth 100000 in
theorem utf8_Offset.calls (a0 : ByteArray) (a1 : Int) (r1 : Int) (r2 : Int) (w : World) (h : utf8_Offset.f a0 a1 = some (r1, r2)) :
    Calls Try.prog 33 #[.string a0, .int .i64 a1] w fun e w' => e = .returned (.tuple #[.int .i64 r1, .int .i64 r2]) ∧ Below w.heap.size w w' := by
  have HB := Aside0.mk (Below.refl w.heap.size w)
  have H : ((utf8_offsets.f a0).bind fun bt152 => (if bt152.2 = 0 then (if a1 < 0 then (some (0, 2)) else (if a1 ≥ (bt152.1.length : Int) then (some (0, 2)) else (if 0 ≤ a1 then (if a1 < (bt152.1.length : Int) then (some (rd bt152.1 a1, 0)) else (none)) else (none)))) else (some (0, bt152.2)))) = some (r1, r2) := h
  clear h
  replace H := Option.bind_eq_some_iff.mp H
  obtain ⟨⟨t152, t153⟩, A30, H⟩ := H
  replace H : (if t153 = 0 then (if a1 < 0 then (some (0, 2)) else (if a1 ≥ (t152.length : Int) then (some (0, 2)) else (if 0 ≤ a1 then (if a1 < (t152.length : Int) then (some (rd t152 a1, 0)) else (none)) else (none)))) else (some (0, t153))) = some (r1, r2) := H
  have A3 := Aside0.mk A30
  clear A30
  by_cases c4 : t153 = 0
  · rw [if_pos c4] at H
    have c4b0 : (t153 == 0) = true := beq_iff_eq.mpr c4
    have c4b1 : (t153 != 0) = false := bne_eq_false_iff_eq.mpr c4
    clear c4
    by_cases c5 : a1 < 0
    · rw [if_pos c5] at H
      have c5b0 : decide (a1 < 0) = true := decide_eq_true c5
      clear c5
      simp only [Option.some.injEq, Prod.mk.injEq] at H
      obtain ⟨rfl, rfl⟩ := H
      go_enter Try.func33, Try.ntmps33
      go_wp2_with (first | ((with_reducible refine gate_callee (f := 46) rfl ?_); refine goesL_ (some 10) rfl rfl Try.func46 (by kernel_rfl) rfl #[.string a0] rfl (by (try simp only [List.map_toArray, List.map_cons, List.map_nil]); first | done | rfl | (simp only [List.length_drop, List.length_take]; rfl)) ?_; (with_reducible refine (utf8_offsets.calls a0 t152 t153 _ A3.out).mono ?_); rintro e w6 ⟨v154, rfl, ho0, hb⟩; refine ⟨_, rfl, ?_⟩; have n0_ := Aside0.mk (Kd.R_lower ho0 (below_size (by repeat (first | (with_reducible first | exact HB.out | apply below_alloc | apply pw_below_drewN | apply below_drew1) | exact HB.out)))); have n1_ := Aside0.mk (below_step (by repeat (first | (with_reducible first | exact HB.out | apply below_alloc | apply pw_below_drewN | apply below_drew1) | exact HB.out)) hb); clear HB; have HO155 := n0_; have HB := n1_; clear n0_ n1_; (try clear hb); (try clear hb2); (try clear hk); (try clear hi); (try clear ho0)))
      go_ret2
      exact ⟨by first | rfl | (simp [errW_none, errW_some] <;> rfl) | (simp [*, errW_none, errW_some] <;> rfl), by repeat (first | (with_reducible first | exact HB.out | apply below_alloc | apply pw_below_drewN | apply below_drew1) | exact HB.out)⟩
    · rw [if_neg c5] at H
      have c5b0 : decide (a1 < 0) = false := decide_eq_false c5
      clear c5
      by_cases c7 : a1 ≥ (t152.length : Int)
      · rw [if_pos c7] at H
        have c7b0 : decide ((t152.length : Int) ≤ a1) = true := decide_eq_true c7
        clear c7
        simp only [Option.some.injEq, Prod.mk.injEq] at H
        obtain ⟨rfl, rfl⟩ := H
        go_enter Try.func33, Try.ntmps33
        go_wp2_with (first | ((with_reducible refine gate_callee (f := 46) rfl ?_); refine goesL_ (some 10) rfl rfl Try.func46 (by kernel_rfl) rfl #[.string a0] rfl (by (try simp only [List.map_toArray, List.map_cons, List.map_nil]); first | done | rfl | (simp only [List.length_drop, List.length_take]; rfl)) ?_; (with_reducible refine (utf8_offsets.calls a0 t152 t153 _ A3.out).mono ?_); rintro e w8 ⟨v154, rfl, ho0, hb⟩; refine ⟨_, rfl, ?_⟩; have n0_ := Aside0.mk (Kd.R_lower ho0 (below_size (by repeat (first | (with_reducible first | exact HB.out | apply below_alloc | apply pw_below_drewN | apply below_drew1) | exact HB.out)))); have n1_ := Aside0.mk (below_step (by repeat (first | (with_reducible first | exact HB.out | apply below_alloc | apply pw_below_drewN | apply below_drew1) | exact HB.out)) hb); clear HB; have HO155 := n0_; have HB := n1_; clear n0_ n1_; (try clear hb); (try clear hb2); (try clear hk); (try clear hi); (try clear ho0); obtain ⟨Ao9, co9, eo9⟩ := Kd.R_slice HO155.out; subst eo9))
        go_ret2
        exact ⟨by first | rfl | (simp [errW_none, errW_some] <;> rfl) | (simp [*, errW_none, errW_some] <;> rfl), by repeat (first | (with_reducible first | exact HB.out | apply below_alloc | apply pw_below_drewN | apply below_drew1) | exact HB.out)⟩
      · rw [if_neg c7] at H
        have c7b0 : decide ((t152.length : Int) ≤ a1) = false := decide_eq_false c7
        clear c7
        by_cases c10 : 0 ≤ a1
        · rw [if_pos c10] at H
          have c10b0 : decide (0 ≤ a1) = true := decide_eq_true c10
          clear c10
          by_cases c11 : a1 < (t152.length : Int)
          · rw [if_pos c11] at H
            have c11b0 : decide (a1 < (t152.length : Int)) = true := decide_eq_true c11
            clear c11
            simp only [Option.some.injEq, Prod.mk.injEq] at H
            obtain ⟨rfl, rfl⟩ := H
            go_enter Try.func33, Try.ntmps33
            go_wp2_with (first | ((with_reducible refine gate_callee (f := 46) rfl ?_); refine goesL_ (some 10) rfl rfl Try.func46 (by kernel_rfl) rfl #[.string a0] rfl (by (try simp only [List.map_toArray, List.map_cons, List.map_nil]); first | done | rfl | (simp only [List.length_drop, List.length_take]; rfl)) ?_; (with_reducible refine (utf8_offsets.calls a0 t152 t153 _ A3.out).mono ?_); rintro e w12 ⟨v154, rfl, ho0, hb⟩; refine ⟨_, rfl, ?_⟩; have n0_ := Aside0.mk (Kd.R_lower ho0 (below_size (by repeat (first | (with_reducible first | exact HB.out | apply below_alloc | apply pw_below_drewN | apply below_drew1) | exact HB.out)))); have n1_ := Aside0.mk (below_step (by repeat (first | (with_reducible first | exact HB.out | apply below_alloc | apply pw_below_drewN | apply below_drew1) | exact HB.out)) hb); clear HB; have HO155 := n0_; have HB := n1_; clear n0_ n1_; (try clear hb); (try clear hb2); (try clear hk); (try clear hi); (try clear ho0); obtain ⟨Ao13, co13, eo13⟩ := Kd.R_slice HO155.out; subst eo13; have p156 : 0 ≤ (a1 : Int) := of_decide_eq_true (by first | (with_reducible assumption) | assumption); have q156 : a1 < (t152.length : Int) := of_decide_eq_true (by first | (with_reducible assumption) | assumption); obtain ⟨ad156, e156, hx156_0⟩ := Kd.at_int (Kd.R_reads' HO155.out).2.2 a1 p156 q156; cases e156; replace p156 := eq_true p156; replace q156 := eq_true q156))
            go_ret2
            exact ⟨by first | rfl | (simp [errW_none, errW_some] <;> rfl) | (simp [*, errW_none, errW_some] <;> rfl), by repeat (first | (with_reducible first | exact HB.out | apply below_alloc | apply pw_below_drewN | apply below_drew1) | exact HB.out)⟩
          · rw [if_neg c11] at H
            exact absurd H (by simp)
        · rw [if_neg c10] at H
          exact absurd H (by simp)
  · rw [if_neg c4] at H
    have c4b0 : (t153 == 0) = false := beq_eq_false_iff_ne.mpr c4
    have c4b1 : (t153 != 0) = true := bne_iff_ne.mpr c4
    simp only [Option.some.injEq, Prod.mk.injEq] at H
    obtain ⟨rfl, rfl⟩ := H
    go_enter Try.func33, Try.ntmps33
    go_wp2_with (first | ((with_reducible refine gate_callee (f := 46) rfl ?_); refine goesL_ (some 10) rfl rfl Try.func46 (by kernel_rfl) rfl #[.string a0] rfl (by (try simp only [List.map_toArray, List.map_cons, List.map_nil]); first | done | rfl | (simp only [List.length_drop, List.length_take]; rfl)) ?_; (with_reducible refine (utf8_offsets.calls a0 t152 t153 _ A3.out).mono ?_); rintro e w14 ⟨v154, rfl, ho0, hb⟩; refine ⟨_, rfl, ?_⟩; have n0_ := Aside0.mk (Kd.R_lower ho0 (below_size (by repeat (first | (with_reducible first | exact HB.out | apply below_alloc | apply pw_below_drewN | apply below_drew1) | exact HB.out)))); have n1_ := Aside0.mk (below_step (by repeat (first | (with_reducible first | exact HB.out | apply below_alloc | apply pw_below_drewN | apply below_drew1) | exact HB.out)) hb); clear HB; have HO155 := n0_; have HB := n1_; clear n0_ n1_; (try clear hb); (try clear hb2); (try clear hk); (try clear hi); (try clear ho0)))
    go_ret2
    exact ⟨by first | rfl | (simp [errW_none, errW_some] <;> rfl) | (simp [*, errW_none, errW_some] <;> rfl), by repeat (first | (with_reducible first | exact HB.out | apply below_alloc | apply pw_below_drewN | apply below_drew1) | exact HB.out)⟩

/-! ### bulletinlaw03_Utf8Count: function 11 -/
mutual
def bulletinlaw03_Utf8Count.j0 : Nat → ByteArray → Int → List Int → List Int → Int → Int → Int → Int → Bool → Option (Bool)
  | 0, _, _, _, _, _, _, _, _, _ => none
  | k + 1, x0, x1, x5, x6, x8, x9, x11, x12, x40 => if x40 = true then (some false) else (if x8 = 0 then (if x9 = (x5.length : Int) then (if x1 < 0 then (bulletinlaw03_Utf8Count.j1 k x0 x1 x6 x9 x11 x12 true) else (bulletinlaw03_Utf8Count.j1 k x0 x1 x6 x9 x11 x12 (decide (x1 > x9)))) else (some false)) else (if x9 = 0 then (if x11 = 0 then (some (x12 == x8)) else (some false)) else (some false)))
def bulletinlaw03_Utf8Count.j1 : Nat → ByteArray → Int → List Int → Int → Int → Int → Bool → Option (Bool)
  | 0, _, _, _, _, _, _, _ => none
  | k + 1, x0, x1, x6, x9, x11, x12, x64 => if x64 = true then (if x11 = 0 then (some (x12 == 2)) else (some false)) else (if x1 < x9 then (if 0 ≤ x1 then (if x1 < (x6.length : Int) then (if x11 = (rd x6 x1) then (some (x12 == 0)) else (some false)) else (none)) else (none)) else (if x11 = (x0.size : Int) then (some (x12 == 0)) else (some false)))
end
def bulletinlaw03_Utf8Count.f (k : Nat) (a0 : ByteArray) (a1 : Int) : Option (Bool) := (bulletinlaw03_short.f a0 300).bind fun t157 => ((bulletinref03_All.f k t157).bind fun bt158 => ((utf8_Count.f t157).bind fun bt166 => ((utf8_Offset.f t157 a1).bind fun bt168 => ((bulletinlaw03_known.f k).bind fun t170 => (if t170 = true then (bulletinlaw03_Utf8Count.j0 k t157 a1 bt158.1 bt158.2.1 bt158.2.2.2 bt166.1 bt168.1 bt168.2 (bt166.2 != bt158.2.2.2)) else (bulletinlaw03_Utf8Count.j0 k t157 a1 bt158.1 bt158.2.1 bt158.2.2.2 bt166.1 bt168.1 bt168.2 true))))))
theorem bulletinlaw03_Utf8Count.mono_l : ∀ k, (∀ y0 y1 y2 y3 y4 y5 y6 y7 y8, LeO (bulletinlaw03_Utf8Count.j0 k y0 y1 y2 y3 y4 y5 y6 y7 y8) (bulletinlaw03_Utf8Count.j0 (k + 1) y0 y1 y2 y3 y4 y5 y6 y7 y8)) ∧ (∀ y0 y1 y2 y3 y4 y5 y6, LeO (bulletinlaw03_Utf8Count.j1 k y0 y1 y2 y3 y4 y5 y6) (bulletinlaw03_Utf8Count.j1 (k + 1) y0 y1 y2 y3 y4 y5 y6))
  | 0 => ⟨fun _ _ _ _ _ _ _ _ _ r h => by simp [bulletinlaw03_Utf8Count.j0] at h, fun _ _ _ _ _ _ _ r h => by simp [bulletinlaw03_Utf8Count.j1] at h⟩
  | k + 1 => by
    obtain ⟨ih0, ih1⟩ := bulletinlaw03_Utf8Count.mono_l k
    refine ⟨?_, ?_⟩
    · intro y0 y1 y2 y3 y4 y5 y6 y7 y8
      unfold bulletinlaw03_Utf8Count.j0
      repeat' first
      | (with_reducible exact ih0 _ _ _ _ _ _ _ _ _)
      | (with_reducible exact ih1 _ _ _ _ _ _ _)
      | (with_reducible exact bulletinlaw03_known.mono _)
      | (with_reducible exact bulletinref03_All.mono _ _)
      | (with_reducible exact LeO.refl _)
      | (with_reducible exact LeO.none _)
      | (with_reducible refine LeO.ite ?_ ?_)
      | (with_reducible refine LeO.bind ?_ (fun _ => ?_))
      | exact ih0 _ _ _ _ _ _ _ _ _
      | exact ih1 _ _ _ _ _ _ _
      | exact bulletinlaw03_known.mono _
      | exact bulletinref03_All.mono _ _
      | exact LeO.none _
      | refine LeO.ite ?_ ?_
      | refine LeO.bind ?_ (fun _ => ?_)
    · intro y0 y1 y2 y3 y4 y5 y6
      unfold bulletinlaw03_Utf8Count.j1
      repeat' first
      | (with_reducible exact ih0 _ _ _ _ _ _ _ _ _)
      | (with_reducible exact ih1 _ _ _ _ _ _ _)
      | (with_reducible exact bulletinlaw03_known.mono _)
      | (with_reducible exact bulletinref03_All.mono _ _)
      | (with_reducible exact LeO.refl _)
      | (with_reducible exact LeO.none _)
      | (with_reducible refine LeO.ite ?_ ?_)
      | (with_reducible refine LeO.bind ?_ (fun _ => ?_))
      | exact ih0 _ _ _ _ _ _ _ _ _
      | exact ih1 _ _ _ _ _ _ _
      | exact bulletinlaw03_known.mono _
      | exact bulletinref03_All.mono _ _
      | exact LeO.none _
      | refine LeO.ite ?_ ?_
      | refine LeO.bind ?_ (fun _ => ?_)
theorem bulletinlaw03_Utf8Count.mono : ∀ a0 a1 k, LeO (bulletinlaw03_Utf8Count.f k a0 a1) (bulletinlaw03_Utf8Count.f (k + 1) a0 a1) := by
  intro a0 a1 k
  obtain ⟨ih0, ih1⟩ := bulletinlaw03_Utf8Count.mono_l k
  unfold bulletinlaw03_Utf8Count.f
  repeat' first
      | (with_reducible exact ih0 _ _ _ _ _ _ _ _ _)
      | (with_reducible exact ih1 _ _ _ _ _ _ _)
      | (with_reducible exact bulletinlaw03_known.mono _)
      | (with_reducible exact bulletinref03_All.mono _ _)
      | (with_reducible exact LeO.refl _)
      | (with_reducible exact LeO.none _)
      | (with_reducible refine LeO.ite ?_ ?_)
      | (with_reducible refine LeO.bind ?_ (fun _ => ?_))
      | exact ih0 _ _ _ _ _ _ _ _ _
      | exact ih1 _ _ _ _ _ _ _
      | exact bulletinlaw03_known.mono _
      | exact bulletinref03_All.mono _ _
      | exact LeO.none _
      | refine LeO.ite ?_ ?_
      | refine LeO.bind ?_ (fun _ => ?_)
set_option maxHeartbeats 8000000 in
set_option maxRecDepth 100000 in
theorem bulletinlaw03_Utf8Count.calls (k : Nat) (a0 : ByteArray) (a1 : Int) (r : Bool) (w : World) (h : bulletinlaw03_Utf8Count.f k a0 a1 = some r) :
    Calls Try.prog 11 #[.string a0, .int .i64 a1] w fun e w' => e = .returned (.bool r) ∧ Below w.heap.size w w' := by
  have HB := Aside0.mk (Below.refl w.heap.size w)
  have H : ((bulletinlaw03_short.f a0 300).bind fun t157 => ((bulletinref03_All.f k t157).bind fun bt158 => ((utf8_Count.f t157).bind fun bt166 => ((utf8_Offset.f t157 a1).bind fun bt168 => ((bulletinlaw03_known.f k).bind fun t170 => (if t170 = true then (bulletinlaw03_Utf8Count.j0 k t157 a1 bt158.1 bt158.2.1 bt158.2.2.2 bt166.1 bt168.1 bt168.2 (bt166.2 != bt158.2.2.2)) else (bulletinlaw03_Utf8Count.j0 k t157 a1 bt158.1 bt158.2.1 bt158.2.2.2 bt166.1 bt168.1 bt168.2 true))))))) = some r := h
  clear h
  replace H := Option.bind_eq_some_iff.mp H
  obtain ⟨t157, A30, H⟩ := H
  replace H : ((bulletinref03_All.f k t157).bind fun bt158 => ((utf8_Count.f t157).bind fun bt166 => ((utf8_Offset.f t157 a1).bind fun bt168 => ((bulletinlaw03_known.f k).bind fun t170 => (if t170 = true then (bulletinlaw03_Utf8Count.j0 k t157 a1 bt158.1 bt158.2.1 bt158.2.2.2 bt166.1 bt168.1 bt168.2 (bt166.2 != bt158.2.2.2)) else (bulletinlaw03_Utf8Count.j0 k t157 a1 bt158.1 bt158.2.1 bt158.2.2.2 bt166.1 bt168.1 bt168.2 true)))))) = some r := H
  have A3 := Aside0.mk A30
  clear A30
  replace H := Option.bind_eq_some_iff.mp H
  obtain ⟨⟨t158, t159, t160, t161⟩, A40, H⟩ := H
  replace H : ((utf8_Count.f t157).bind fun bt166 => ((utf8_Offset.f t157 a1).bind fun bt168 => ((bulletinlaw03_known.f k).bind fun t170 => (if t170 = true then (bulletinlaw03_Utf8Count.j0 k t157 a1 t158 t159 t161 bt166.1 bt168.1 bt168.2 (bt166.2 != t161)) else (bulletinlaw03_Utf8Count.j0 k t157 a1 t158 t159 t161 bt166.1 bt168.1 bt168.2 true))))) = some r := H
  have A4 := Aside0.mk A40
  clear A40
  replace H := Option.bind_eq_some_iff.mp H
  obtain ⟨⟨t166, t167⟩, A50, H⟩ := H
  replace H : ((utf8_Offset.f t157 a1).bind fun bt168 => ((bulletinlaw03_known.f k).bind fun t170 => (if t170 = true then (bulletinlaw03_Utf8Count.j0 k t157 a1 t158 t159 t161 t166 bt168.1 bt168.2 (t167 != t161)) else (bulletinlaw03_Utf8Count.j0 k t157 a1 t158 t159 t161 t166 bt168.1 bt168.2 true)))) = some r := H
  have A5 := Aside0.mk A50
  clear A50
  replace H := Option.bind_eq_some_iff.mp H
  obtain ⟨⟨t168, t169⟩, A60, H⟩ := H
  replace H : ((bulletinlaw03_known.f k).bind fun t170 => (if t170 = true then (bulletinlaw03_Utf8Count.j0 k t157 a1 t158 t159 t161 t166 t168 t169 (t167 != t161)) else (bulletinlaw03_Utf8Count.j0 k t157 a1 t158 t159 t161 t166 t168 t169 true))) = some r := H
  have A6 := Aside0.mk A60
  clear A60
  have HC7 := Aside0.mk H
  clear H
  go_enter Try.func11, Try.ntmps11
  go_upto_region 5 with (first | ((with_reducible refine gate_callee (f := 14) rfl ?_); refine goesL_ (some 15) rfl rfl Try.func14 (by kernel_rfl) rfl #[.string a0, .int .i64 300] rfl (by (try simp only [List.map_toArray, List.map_cons, List.map_nil]); first | done | rfl | (simp only [List.length_drop, List.length_take]; rfl)) ?_; (with_reducible refine (bulletinlaw03_short.calls a0 300 t157 _ A3.out).mono ?_); rintro e w8 ⟨rfl, hb⟩; refine ⟨_, rfl, ?_⟩; have n0_ := Aside0.mk (below_step (by repeat (first | (with_reducible first | exact HB.out | apply below_alloc | apply pw_below_drewN | apply below_drew1) | exact HB.out)) hb); clear HB; have HB := n0_; clear n0_; (try clear hb); (try clear hb2); (try clear hk); (try clear hi)) | ((with_reducible refine gate_callee (f := 15) rfl ?_); refine goesL_ (some 18) rfl rfl Try.func15 (by kernel_rfl) rfl #[.string t157] rfl (by (try simp only [List.map_toArray, List.map_cons, List.map_nil]); first | done | rfl | (simp only [List.length_drop, List.length_take]; rfl)) ?_; (with_reducible refine (bulletinref03_All.calls k t157 t158 t159 t160 t161 _ A4.out).mono ?_); rintro e w9 ⟨v162, v164, rfl, ho0, ho1, hb⟩; refine ⟨_, rfl, ?_⟩; have n0_ := Aside0.mk (Kd.R_lower ho0 (below_size (by repeat (first | (with_reducible first | exact HB.out | apply below_alloc | apply pw_below_drewN | apply below_drew1) | exact HB.out)))); have n1_ := Aside0.mk (Kd.R_lower ho1 (below_size (by repeat (first | (with_reducible first | exact HB.out | apply below_alloc | apply pw_below_drewN | apply below_drew1) | exact HB.out)))); have n2_ := Aside0.mk (below_step (by repeat (first | (with_reducible first | exact HB.out | apply below_alloc | apply pw_below_drewN | apply below_drew1) | exact HB.out)) hb); clear HB; have HO163 := n0_; have HO165 := n1_; have HB := n2_; clear n0_ n1_ n2_; (try clear hb); (try clear hb2); (try clear hk); (try clear hi); (try clear ho0); (try clear ho1)) | ((with_reducible refine gate_callee (f := 27) rfl ?_); refine goesL_ (some 25) rfl rfl Try.func27 (by kernel_rfl) rfl #[.string t157] rfl (by (try simp only [List.map_toArray, List.map_cons, List.map_nil]); first | done | rfl | (simp only [List.length_drop, List.length_take]; rfl)) ?_; (with_reducible refine (utf8_Count.calls t157 t166 t167 _ A5.out).mono ?_); rintro e w10 ⟨rfl, hb⟩; refine ⟨_, rfl, ?_⟩; have n0_ := Aside0.mk (Kd.R_below (by (with_reducible repeat (first | apply Kd.R_alloc | apply Kd.R_drewN | apply Kd.R_drew)); exact HO163.out) hb); have n1_ := Aside0.mk (Kd.R_below (by (with_reducible repeat (first | apply Kd.R_alloc | apply Kd.R_drewN | apply Kd.R_drew)); exact HO165.out) hb); have n2_ := Aside0.mk (below_step (by repeat (first | (with_reducible first | exact HB.out | apply below_alloc | apply pw_below_drewN | apply below_drew1) | exact HB.out)) hb); clear HO163; clear HO165; clear HB; have HO163 := n0_; have HO165 := n1_; have HB := n2_; clear n0_ n1_ n2_; (try clear hb); (try clear hb2); (try clear hk); (try clear hi)) | ((with_reducible refine gate_callee (f := 33) rfl ?_); refine goesL_ (some 31) rfl rfl Try.func33 (by kernel_rfl) rfl #[.string t157, .int .i64 a1] rfl (by (try simp only [List.map_toArray, List.map_cons, List.map_nil]); first | done | rfl | (simp only [List.length_drop, List.length_take]; rfl)) ?_; (with_reducible refine (utf8_Offset.calls t157 a1 t168 t169 _ A6.out).mono ?_); rintro e w11 ⟨rfl, hb⟩; refine ⟨_, rfl, ?_⟩; have n0_ := Aside0.mk (Kd.R_below (by (with_reducible repeat (first | apply Kd.R_alloc | apply Kd.R_drewN | apply Kd.R_drew)); exact HO163.out) hb); have n1_ := Aside0.mk (Kd.R_below (by (with_reducible repeat (first | apply Kd.R_alloc | apply Kd.R_drewN | apply Kd.R_drew)); exact HO165.out) hb); have n2_ := Aside0.mk (below_step (by repeat (first | (with_reducible first | exact HB.out | apply below_alloc | apply pw_below_drewN | apply below_drew1) | exact HB.out)) hb); clear HO163; clear HO165; clear HB; have HO163 := n0_; have HO165 := n1_; have HB := n2_; clear n0_ n1_ n2_; (try clear hb); (try clear hb2); (try clear hk); (try clear hi)))
  (try simp only [Act.put, List.setIfInBounds_toArray, List.set_cons_zero, List.set_cons_succ])
  go_cut [40] (fun v40 wc => ∃ (kq : Nat) (x40_6 : Bool), v40 = .bool x40_6 ∧ Aside0 (bulletinlaw03_Utf8Count.j0 kq t157 a1 t158 t159 t161 t166 t168 t169 x40_6 = some r) ∧ Aside0 (kq ≤ k) ∧ Aside0 (Kd.R (Kd.int .i64) 3 wc w.heap.size (fun k_ => some k_ ≠ (v164 : Value).ownBlock) v162 t158) ∧ Aside0 (Kd.R (Kd.int .i64) 3 wc w.heap.size (fun k_ => some k_ ≠ (v162 : Value).ownBlock) v164 t159) ∧ Aside0 (Below w.heap.size w wc))
  case first =>
    have H := HC7.out
    clear HC7
    replace H := Option.bind_eq_some_iff.mp H
    obtain ⟨t170, A120, H⟩ := H
    replace H : (if t170 = true then (bulletinlaw03_Utf8Count.j0 k t157 a1 t158 t159 t161 t166 t168 t169 (t167 != t161)) else (bulletinlaw03_Utf8Count.j0 k t157 a1 t158 t159 t161 t166 t168 t169 true)) = some r := H
    have A12 := Aside0.mk A120
    clear A120
    by_cases c13 : t170 = true
    · subst c13
      have H1 : (bulletinlaw03_Utf8Count.j0 k t157 a1 t158 t159 t161 t166 t168 t169 (t167 != t161)) = some r := by rw [if_pos rfl] at H; exact H
      clear H
      have H := H1
      clear H1
      have H' := Aside0.mk H
      clear H
      go_wp2_with (first | ((with_reducible refine gate_callee (f := 17) rfl ?_); refine goesL_ (some 34) rfl rfl Try.func17 (by kernel_rfl) rfl #[] rfl (by (try simp only [List.map_toArray, List.map_cons, List.map_nil]); first | done | rfl | (simp only [List.length_drop, List.length_take]; rfl)) ?_; (with_reducible refine (bulletinlaw03_known.calls k  true _ A12.out).mono ?_); rintro e w14 ⟨rfl, hb⟩; refine ⟨_, rfl, ?_⟩; have n0_ := Aside0.mk (Kd.R_below (by (with_reducible repeat (first | apply Kd.R_alloc | apply Kd.R_drewN | apply Kd.R_drew)); exact HO163.out) hb); have n1_ := Aside0.mk (Kd.R_below (by (with_reducible repeat (first | apply Kd.R_alloc | apply Kd.R_drewN | apply Kd.R_drew)); exact HO165.out) hb); have n2_ := Aside0.mk (below_step (by repeat (first | (with_reducible first | exact HB.out | apply below_alloc | apply pw_below_drewN | apply below_drew1) | exact HB.out)) hb); clear HO163; clear HO165; clear HB; have HO163 := n0_; have HO165 := n1_; have HB := n2_; clear n0_ n1_ n2_; (try clear hb); (try clear hb2); (try clear hk); (try clear hi)))
      go_meet
      case rel => exact ⟨_, ((t167 != t161)), (by first | rfl | (simp; done) | (simp [*]; done)), H', ⟨by first | omega | exact Nat.le_refl _⟩, ⟨by (with_reducible repeat (first | apply Kd.R_alloc | apply Kd.R_drewN | apply Kd.R_drew)); exact HO163.out⟩, ⟨by (with_reducible repeat (first | apply Kd.R_alloc | apply Kd.R_drewN | apply Kd.R_drew)); exact HO165.out⟩, ⟨by repeat (first | (with_reducible first | exact HB.out | apply below_alloc | apply pw_below_drewN | apply below_drew1) | exact HB.out)⟩⟩
    · replace c13 := Bool.eq_false_iff.mpr c13
      subst c13
      have H1 : (bulletinlaw03_Utf8Count.j0 k t157 a1 t158 t159 t161 t166 t168 t169 true) = some r := by rw [if_neg (show ¬ (false = true) by decide)] at H; exact H
      clear H
      have H := H1
      clear H1
      have H' := Aside0.mk H
      clear H
      go_wp2_with (first | ((with_reducible refine gate_callee (f := 17) rfl ?_); refine goesL_ (some 34) rfl rfl Try.func17 (by kernel_rfl) rfl #[] rfl (by (try simp only [List.map_toArray, List.map_cons, List.map_nil]); first | done | rfl | (simp only [List.length_drop, List.length_take]; rfl)) ?_; (with_reducible refine (bulletinlaw03_known.calls k  false _ A12.out).mono ?_); rintro e w15 ⟨rfl, hb⟩; refine ⟨_, rfl, ?_⟩; have n0_ := Aside0.mk (Kd.R_below (by (with_reducible repeat (first | apply Kd.R_alloc | apply Kd.R_drewN | apply Kd.R_drew)); exact HO163.out) hb); have n1_ := Aside0.mk (Kd.R_below (by (with_reducible repeat (first | apply Kd.R_alloc | apply Kd.R_drewN | apply Kd.R_drew)); exact HO165.out) hb); have n2_ := Aside0.mk (below_step (by repeat (first | (with_reducible first | exact HB.out | apply below_alloc | apply pw_below_drewN | apply below_drew1) | exact HB.out)) hb); clear HO163; clear HO165; clear HB; have HO163 := n0_; have HO165 := n1_; have HB := n2_; clear n0_ n1_ n2_; (try clear hb); (try clear hb2); (try clear hk); (try clear hi)))
      go_meet
      case rel => exact ⟨_, (true), (by first | rfl | (simp; done) | (simp [*]; done)), H', ⟨by first | omega | exact Nat.le_refl _⟩, ⟨by (with_reducible repeat (first | apply Kd.R_alloc | apply Kd.R_drewN | apply Kd.R_drew)); exact HO163.out⟩, ⟨by (with_reducible repeat (first | apply Kd.R_alloc | apply Kd.R_drewN | apply Kd.R_drew)); exact HO165.out⟩, ⟨by repeat (first | (with_reducible first | exact HB.out | apply below_alloc | apply pw_below_drewN | apply below_drew1) | exact HB.out)⟩⟩
  case rest =>
    clear HC7
    try clear c1
    try clear c2
    try clear p2
    try clear c3
    try clear c11
    try clear c13
    try clear c14
    try clear c15
    obtain ⟨kq, x40_6, rfl, HA, HJ6, HO_5, HO_6, HB⟩ := hcut
    cases kq with
    | zero => exact absurd HA.out (by simp [bulletinlaw03_Utf8Count.j0])
    | succ kj6 =>
      have H := HA.out
      clear HA
      simp only [bulletinlaw03_Utf8Count.j0] at H
      by_cases c16 : x40_6 = true
      · subst c16
        have H1 : (some false) = some r := by rw [if_pos rfl] at H; exact H
        clear H
        have H := H1
        clear H1
        obtain rfl := Option.some.inj H
        go_wp2
        go_ret
        exact ⟨by first | rfl | (simp [errW_none, errW_some] <;> rfl) | (simp [*, errW_none, errW_some] <;> rfl), by repeat (first | (with_reducible first | exact HB.out | apply below_alloc | apply pw_below_drewN | apply below_drew1) | exact HB.out)⟩
      · replace c16 := Bool.eq_false_iff.mpr c16
        subst c16
        have H1 : (if t161 = 0 then (if t166 = (t158.length : Int) then (if a1 < 0 then (bulletinlaw03_Utf8Count.j1 kj6 t157 a1 t159 t166 t168 t169 true) else (bulletinlaw03_Utf8Count.j1 kj6 t157 a1 t159 t166 t168 t169 (decide (a1 > t166)))) else (some false)) else (if t166 = 0 then (if t168 = 0 then (some (t169 == t161)) else (some false)) else (some false))) = some r := by rw [if_neg (show ¬ (false = true) by decide)] at H; exact H
        clear H
        have H := H1
        clear H1
        by_cases c17 : t161 = 0
        · rw [if_pos c17] at H
          have c17b0 : (t161 == 0) = true := beq_iff_eq.mpr c17
          have c17b1 : (t161 != 0) = false := bne_eq_false_iff_eq.mpr c17
          clear c17
          by_cases c18 : t166 = (t158.length : Int)
          · rw [if_pos c18] at H
            have c18b0 : (t166 == (t158.length : Int)) = true := beq_iff_eq.mpr c18
            have c18b1 : (t166 != (t158.length : Int)) = false := bne_eq_false_iff_eq.mpr c18
            clear c18
            have HC19 := Aside0.mk H
            clear H
            obtain ⟨Ao20, co20, eo20⟩ := Kd.R_slice HO_5.out
            subst eo20
            go_upto_region 11 with (fail)
            go_cut [64] (fun v64 wc => ∃ (kq : Nat) (x64_18 : Bool), v64 = .bool x64_18 ∧ Aside0 (bulletinlaw03_Utf8Count.j1 kq t157 a1 t159 t166 t168 t169 x64_18 = some r) ∧ Aside0 (kq ≤ kj6) ∧ Aside0 (Kd.R (Kd.int .i64) 3 wc w.heap.size (fun _ => True) v164 t159) ∧ Aside0 (Below w.heap.size w wc))
            case first =>
              have H := HC19.out
              clear HC19
              by_cases c21 : a1 < 0
              · rw [if_pos c21] at H
                have c21b0 : decide (a1 < 0) = true := decide_eq_true c21
                clear c21
                (first | rw [c21b0] | (simp only [i64_w, i32_w]; rw [c21b0]) | skip)
                have H' := Aside0.mk H
                clear H
                go_wp2
                go_meet
                case rel => exact ⟨_, (true), (by first | rfl | (simp; done) | (simp [*]; done)), H', ⟨by have := HJ6.out; first | omega | exact Nat.le_refl _⟩, ⟨by (with_reducible repeat (first | apply Kd.R_alloc | apply Kd.R_drewN | apply Kd.R_drew)); exact Kd.R_mono HO_6.out (fun _ hk => trivial)⟩, ⟨by repeat (first | (with_reducible first | exact HB.out | apply below_alloc | apply pw_below_drewN | apply below_drew1) | exact HB.out)⟩⟩
              · rw [if_neg c21] at H
                have c21b0 : decide (a1 < 0) = false := decide_eq_false c21
                clear c21
                (first | rw [c21b0] | (simp only [i64_w, i32_w]; rw [c21b0]) | skip)
                have H' := Aside0.mk H
                clear H
                go_wp2
                go_meet
                case rel => exact ⟨_, (decide (a1 > t166)), (by first | rfl | (simp; done) | (simp [*]; done)), H', ⟨by have := HJ6.out; first | omega | exact Nat.le_refl _⟩, ⟨by (with_reducible repeat (first | apply Kd.R_alloc | apply Kd.R_drewN | apply Kd.R_drew)); exact Kd.R_mono HO_6.out (fun _ hk => trivial)⟩, ⟨by repeat (first | (with_reducible first | exact HB.out | apply below_alloc | apply pw_below_drewN | apply below_drew1) | exact HB.out)⟩⟩
            case rest =>
              clear HC19
              try clear c1
              try clear c2
              try clear p2
              try clear c3
              try clear c11
              try clear c13
              try clear c14
              try clear c15
              try clear c16
              try clear c17
              try clear c17b0
              try clear c17b1
              try clear c18
              try clear c18b0
              try clear c18b1
              try clear c21
              try clear c21b0
              try clear p2
              obtain ⟨kq, x64_18, rfl, HA, HJ18, HO_6, HB⟩ := hcut
              cases kq with
              | zero => exact absurd HA.out (by simp [bulletinlaw03_Utf8Count.j1])
              | succ kj18 =>
                have H := HA.out
                clear HA
                simp only [bulletinlaw03_Utf8Count.j1] at H
                by_cases c22 : x64_18 = true
                · subst c22
                  have H1 : (if t168 = 0 then (some (t169 == 2)) else (some false)) = some r := by rw [if_pos rfl] at H; exact H
                  clear H
                  have H := H1
                  clear H1
                  by_cases c23 : t168 = 0
                  · rw [if_pos c23] at H
                    have c23b0 : (t168 == 0) = true := beq_iff_eq.mpr c23
                    have c23b1 : (t168 != 0) = false := bne_eq_false_iff_eq.mpr c23
                    clear c23
                    obtain rfl := Option.some.inj H
                    go_wp2
                    go_ret
                    exact ⟨by first | rfl | (simp [errW_none, errW_some] <;> rfl) | (simp [*, errW_none, errW_some] <;> rfl), by repeat (first | (with_reducible first | exact HB.out | apply below_alloc | apply pw_below_drewN | apply below_drew1) | exact HB.out)⟩
                  · rw [if_neg c23] at H
                    have c23b0 : (t168 == 0) = false := beq_eq_false_iff_ne.mpr c23
                    have c23b1 : (t168 != 0) = true := bne_iff_ne.mpr c23
                    obtain rfl := Option.some.inj H
                    go_wp2
                    go_ret
                    exact ⟨by first | rfl | (simp [errW_none, errW_some] <;> rfl) | (simp [*, errW_none, errW_some] <;> rfl), by repeat (first | (with_reducible first | exact HB.out | apply below_alloc | apply pw_below_drewN | apply below_drew1) | exact HB.out)⟩
                · replace c22 := Bool.eq_false_iff.mpr c22
                  subst c22
                  have H1 : (if a1 < t166 then (if 0 ≤ a1 then (if a1 < (t159.length : Int) then (if t168 = (rd t159 a1) then (some (t169 == 0)) else (some false)) else (none)) else (none)) else (if t168 = (t157.size : Int) then (some (t169 == 0)) else (some false))) = some r := by rw [if_neg (show ¬ (false = true) by decide)] at H; exact H
                  clear H
                  have H := H1
                  clear H1
                  by_cases c24 : a1 < t166
                  · rw [if_pos c24] at H
                    have c24b0 : decide (a1 < t166) = true := decide_eq_true c24
                    clear c24
                    by_cases c25 : 0 ≤ a1
                    · rw [if_pos c25] at H
                      have c25b0 : decide (0 ≤ a1) = true := decide_eq_true c25
                      clear c25
                      by_cases c26 : a1 < (t159.length : Int)
                      · rw [if_pos c26] at H
                        have c26b0 : decide (a1 < (t159.length : Int)) = true := decide_eq_true c26
                        clear c26
                        by_cases c27 : t168 = (rd t159 a1)
                        · rw [if_pos c27] at H
                          have c27b0 : (t168 == (rd t159 a1)) = true := beq_iff_eq.mpr c27
                          have c27b1 : (t168 != (rd t159 a1)) = false := bne_eq_false_iff_eq.mpr c27
                          clear c27
                          obtain rfl := Option.some.inj H
                          obtain ⟨Ao28, co28, eo28⟩ := Kd.R_slice HO_6.out
                          subst eo28
                          have p171 : 0 ≤ (a1 : Int) := of_decide_eq_true (by first | (with_reducible assumption) | assumption)
                          have q171 : a1 < (t159.length : Int) := of_decide_eq_true (by first | (with_reducible assumption) | assumption)
                          obtain ⟨ad171, e171, hx171_0⟩ := Kd.at_int (Kd.R_reads' HO_6.out).2.2 a1 p171 q171
                          cases e171
                          replace p171 := eq_true p171
                          replace q171 := eq_true q171
                          go_wp2
                          go_ret
                          exact ⟨by first | rfl | (simp [errW_none, errW_some] <;> rfl) | (simp [*, errW_none, errW_some] <;> rfl), by repeat (first | (with_reducible first | exact HB.out | apply below_alloc | apply pw_below_drewN | apply below_drew1) | exact HB.out)⟩
                        · rw [if_neg c27] at H
                          have c27b0 : (t168 == (rd t159 a1)) = false := beq_eq_false_iff_ne.mpr c27
                          have c27b1 : (t168 != (rd t159 a1)) = true := bne_iff_ne.mpr c27
                          obtain rfl := Option.some.inj H
                          obtain ⟨Ao29, co29, eo29⟩ := Kd.R_slice HO_6.out
                          subst eo29
                          have p171 : 0 ≤ (a1 : Int) := of_decide_eq_true (by first | (with_reducible assumption) | assumption)
                          have q171 : a1 < (t159.length : Int) := of_decide_eq_true (by first | (with_reducible assumption) | assumption)
                          obtain ⟨ad171, e171, hx171_0⟩ := Kd.at_int (Kd.R_reads' HO_6.out).2.2 a1 p171 q171
                          cases e171
                          replace p171 := eq_true p171
                          replace q171 := eq_true q171
                          go_wp2
                          go_ret
                          exact ⟨by first | rfl | (simp [errW_none, errW_some] <;> rfl) | (simp [*, errW_none, errW_some] <;> rfl), by repeat (first | (with_reducible first | exact HB.out | apply below_alloc | apply pw_below_drewN | apply below_drew1) | exact HB.out)⟩
                      · rw [if_neg c26] at H
                        exact absurd H (by simp)
                    · rw [if_neg c25] at H
                      exact absurd H (by simp)
                  · rw [if_neg c24] at H
                    have c24b0 : decide (a1 < t166) = false := decide_eq_false c24
                    clear c24
                    by_cases c30 : t168 = (t157.size : Int)
                    · rw [if_pos c30] at H
                      have c30b0 : (t168 == (t157.size : Int)) = true := beq_iff_eq.mpr c30
                      have c30b1 : (t168 != (t157.size : Int)) = false := bne_eq_false_iff_eq.mpr c30
                      clear c30
                      obtain rfl := Option.some.inj H
                      go_wp2
                      go_ret
                      exact ⟨by first | rfl | (simp [errW_none, errW_some] <;> rfl) | (simp [*, errW_none, errW_some] <;> rfl), by repeat (first | (with_reducible first | exact HB.out | apply below_alloc | apply pw_below_drewN | apply below_drew1) | exact HB.out)⟩
                    · rw [if_neg c30] at H
                      have c30b0 : (t168 == (t157.size : Int)) = false := beq_eq_false_iff_ne.mpr c30
                      have c30b1 : (t168 != (t157.size : Int)) = true := bne_iff_ne.mpr c30
                      obtain rfl := Option.some.inj H
                      go_wp2
                      go_ret
                      exact ⟨by first | rfl | (simp [errW_none, errW_some] <;> rfl) | (simp [*, errW_none, errW_some] <;> rfl), by repeat (first | (with_reducible first | exact HB.out | apply below_alloc | apply pw_below_drewN | apply below_drew1) | exact HB.out)⟩
          · rw [if_neg c18] at H
            have c18b0 : (t166 == (t158.length : Int)) = false := beq_eq_false_iff_ne.mpr c18
            have c18b1 : (t166 != (t158.length : Int)) = true := bne_iff_ne.mpr c18
            obtain rfl := Option.some.inj H
            obtain ⟨Ao31, co31, eo31⟩ := Kd.R_slice HO_5.out
            subst eo31
            go_wp2
            go_ret
            exact ⟨by first | rfl | (simp [errW_none, errW_some] <;> rfl) | (simp [*, errW_none, errW_some] <;> rfl), by repeat (first | (with_reducible first | exact HB.out | apply below_alloc | apply pw_below_drewN | apply below_drew1) | exact HB.out)⟩
        · rw [if_neg c17] at H
          have c17b0 : (t161 == 0) = false := beq_eq_false_iff_ne.mpr c17
          have c17b1 : (t161 != 0) = true := bne_iff_ne.mpr c17
          by_cases c32 : t166 = 0
          · rw [if_pos c32] at H
            have c32b0 : (t166 == 0) = true := beq_iff_eq.mpr c32
            have c32b1 : (t166 != 0) = false := bne_eq_false_iff_eq.mpr c32
            clear c32
            by_cases c33 : t168 = 0
            · rw [if_pos c33] at H
              have c33b0 : (t168 == 0) = true := beq_iff_eq.mpr c33
              have c33b1 : (t168 != 0) = false := bne_eq_false_iff_eq.mpr c33
              clear c33
              obtain rfl := Option.some.inj H
              go_wp2
              go_ret
              exact ⟨by first | rfl | (simp [errW_none, errW_some] <;> rfl) | (simp [*, errW_none, errW_some] <;> rfl), by repeat (first | (with_reducible first | exact HB.out | apply below_alloc | apply pw_below_drewN | apply below_drew1) | exact HB.out)⟩
            · rw [if_neg c33] at H
              have c33b0 : (t168 == 0) = false := beq_eq_false_iff_ne.mpr c33
              have c33b1 : (t168 != 0) = true := bne_iff_ne.mpr c33
              obtain rfl := Option.some.inj H
              go_wp2
              go_ret
              exact ⟨by first | rfl | (simp [errW_none, errW_some] <;> rfl) | (simp [*, errW_none, errW_some] <;> rfl), by repeat (first | (with_reducible first | exact HB.out | apply below_alloc | apply pw_below_drewN | apply below_drew1) | exact HB.out)⟩
          · rw [if_neg c32] at H
            have c32b0 : (t166 == 0) = false := beq_eq_false_iff_ne.mpr c32
            have c32b1 : (t166 != 0) = true := bne_iff_ne.mpr c32
            obtain rfl := Option.some.inj H
            go_wp2
            go_ret
            exact ⟨by first | rfl | (simp [errW_none, errW_some] <;> rfl) | (simp [*, errW_none, errW_some] <;> rfl), by repeat (first | (with_reducible first | exact HB.out | apply below_alloc | apply pw_below_drewN | apply below_drew1) | exact HB.out)⟩

/-- THE ONE PURE STATEMENT of bulletinlaw03_Utf8Count: yours. -/
def bulletinlaw03_Utf8Count.Pure : Prop := ∀ (a0 : ByteArray) (a1 : Int), a0.size ≤ 140737488351232 → (Lit.int .i64 a1).wf = true → ∃ k, bulletinlaw03_Utf8Count.f k a0 a1 = some true
theorem bulletinlaw03_Utf8Count.walk (P : bulletinlaw03_Utf8Count.Pure) (a0 : ByteArray) (a1 : Int) (w : World) (w0 : a0.size ≤ 140737488351232) (w1 : (Lit.int .i64 a1).wf = true) :
    Calls Try.prog 11 #[.string a0, .int .i64 a1] w fun e w' => e = .returned (.bool true) ∧ Below w.heap.size w w' := by
  obtain ⟨k, h⟩ := P a0 a1 w0 w1
  refine (bulletinlaw03_Utf8Count.calls k a0 a1 true w h).mono ?_
  rintro e w' ⟨rfl, hd⟩
  exact ⟨rfl, hd⟩

/-! ### cmp_isNaN_int: function 58 -/
def cmp_isNaN_int.f (a0 : Int) : Option (Bool) := some (a0 != a0)
set_option maxHeartbeats 8000000 in
set_option maxRecDepth 100000 in
theorem cmp_isNaN_int.calls (a0 : Int) (r : Bool) (w : World) (h : cmp_isNaN_int.f a0 = some r) :
    Calls Try.prog 58 #[.int .i64 a0] w fun e w' => e = .returned (.bool r) ∧ Drawn0 w w' := by
  have H : (some (a0 != a0)) = some r := h
  clear h
  obtain rfl := Option.some.inj H
  go_enter Try.func58, Try.ntmps58
  go_wp2
  go_ret
  exact ⟨by first | rfl | (simp; done) | (simp [*]; done), by repeat (first | exact Drawn0.refl _ | apply Drawn0.step)⟩

/-! ### cmp_Less_int: function 55 -/
def cmp_Less_int.f (a0 : Int) (a1 : Int) : Option (Bool) := (cmp_isNaN_int.f a0).bind fun t172 => (if t172 = true then ((cmp_isNaN_int.f a1).bind fun t173 => (if t173 = true then (some (decide (a0 < a1))) else (some true))) else (some (decide (a0 < a1))))
set_option maxHeartbeats 8000000 in
set_option maxRecDepth 100000 in
theorem cmp_Less_int.calls (a0 : Int) (a1 : Int) (r : Bool) (w : World) (h : cmp_Less_int.f a0 a1 = some r) :
    Calls Try.prog 55 #[.int .i64 a0, .int .i64 a1] w fun e w' => e = .returned (.bool r) ∧ Drawn0 w w' := by
  have H : ((cmp_isNaN_int.f a0).bind fun t172 => (if t172 = true then ((cmp_isNaN_int.f a1).bind fun t173 => (if t173 = true then (some (decide (a0 < a1))) else (some true))) else (some (decide (a0 < a1))))) = some r := h
  clear h
  replace H := Option.bind_eq_some_iff.mp H
  obtain ⟨t172, A30, H⟩ := H
  replace H : (if t172 = true then ((cmp_isNaN_int.f a1).bind fun t173 => (if t173 = true then (some (decide (a0 < a1))) else (some true))) else (some (decide (a0 < a1)))) = some r := H
  have A3 := Aside0.mk A30
  clear A30
  by_cases c4 : t172 = true
  · subst c4
    have H1 : ((cmp_isNaN_int.f a1).bind fun t173 => (if t173 = true then (some (decide (a0 < a1))) else (some true))) = some r := by rw [if_pos rfl] at H; exact H
    clear H
    have H := H1
    clear H1
    replace H := Option.bind_eq_some_iff.mp H
    obtain ⟨t173, A50, H⟩ := H
    replace H : (if t173 = true then (some (decide (a0 < a1))) else (some true)) = some r := H
    have A5 := Aside0.mk A50
    clear A50
    by_cases c6 : t173 = true
    · subst c6
      have H1 : (some (decide (a0 < a1))) = some r := by rw [if_pos rfl] at H; exact H
      clear H
      have H := H1
      clear H1
      obtain rfl := Option.some.inj H
      go_enter Try.func55, Try.ntmps55
      go_wp2_with (first | ((with_reducible refine gate_callee (f := 58) rfl ?_); refine goesL_ (some 6) rfl rfl Try.func58 (by kernel_rfl) rfl #[.int .i64 a0] rfl (by (try simp only [List.map_toArray, List.map_cons, List.map_nil]); first | done | rfl | (simp only [List.length_drop, List.length_take]; rfl)) ?_; (with_reducible refine (cmp_isNaN_int.calls a0 true _ A3.out).mono ?_); rintro e w' ⟨rfl, ⟨nd, rfl⟩⟩; refine ⟨_, rfl, ?_⟩) | (go_at_call 58; (with_reducible refine (cmp_isNaN_int.calls a1 true _ A5.out).mono ?_); rintro e w' ⟨rfl, ⟨nd, rfl⟩⟩))
      go_ret
      exact ⟨by first | rfl | (simp; done) | (simp [*]; done), by repeat (first | exact Drawn0.refl _ | apply Drawn0.step)⟩
    · replace c6 := Bool.eq_false_iff.mpr c6
      subst c6
      have H1 : (some true) = some r := by rw [if_neg (show ¬ (false = true) by decide)] at H; exact H
      clear H
      have H := H1
      clear H1
      obtain rfl := Option.some.inj H
      go_enter Try.func55, Try.ntmps55
      go_wp2_with (first | ((with_reducible refine gate_callee (f := 58) rfl ?_); refine goesL_ (some 6) rfl rfl Try.func58 (by kernel_rfl) rfl #[.int .i64 a0] rfl (by (try simp only [List.map_toArray, List.map_cons, List.map_nil]); first | done | rfl | (simp only [List.length_drop, List.length_take]; rfl)) ?_; (with_reducible refine (cmp_isNaN_int.calls a0 true _ A3.out).mono ?_); rintro e w' ⟨rfl, ⟨nd, rfl⟩⟩; refine ⟨_, rfl, ?_⟩) | (go_at_call 58; (with_reducible refine (cmp_isNaN_int.calls a1 false _ A5.out).mono ?_); rintro e w' ⟨rfl, ⟨nd, rfl⟩⟩))
      go_ret
      exact ⟨by first | rfl | (simp; done) | (simp [*]; done), by repeat (first | exact Drawn0.refl _ | apply Drawn0.step)⟩
  · replace c4 := Bool.eq_false_iff.mpr c4
    subst c4
    have H1 : (some (decide (a0 < a1))) = some r := by rw [if_neg (show ¬ (false = true) by decide)] at H; exact H
    clear H
    have H := H1
    clear H1
    obtain rfl := Option.some.inj H
    go_enter Try.func55, Try.ntmps55
    go_wp2_with (first | ((with_reducible refine gate_callee (f := 58) rfl ?_); refine goesL_ (some 6) rfl rfl Try.func58 (by kernel_rfl) rfl #[.int .i64 a0] rfl (by (try simp only [List.map_toArray, List.map_cons, List.map_nil]); first | done | rfl | (simp only [List.length_drop, List.length_take]; rfl)) ?_; (with_reducible refine (cmp_isNaN_int.calls a0 false _ A3.out).mono ?_); rintro e w' ⟨rfl, ⟨nd, rfl⟩⟩; refine ⟨_, rfl, ?_⟩))
    go_ret
    exact ⟨by first | rfl | (simp; done) | (simp [*]; done), by repeat (first | exact Drawn0.refl _ | apply Drawn0.step)⟩

/-! ### slices_isNaN_int: function 56 -/
def slices_isNaN_int.f (a0 : Int) : Option (Bool) := some (a0 != a0)
set_option maxHeartbeats 8000000 in
set_option maxRecDepth 100000 in
theorem slices_isNaN_int.calls (a0 : Int) (r : Bool) (w : World) (h : slices_isNaN_int.f a0 = some r) :
    Calls Try.prog 56 #[.int .i64 a0] w fun e w' => e = .returned (.bool r) ∧ Drawn0 w w' := by
  have H : (some (a0 != a0)) = some r := h
  clear h
  obtain rfl := Option.some.inj H
  go_enter Try.func56, Try.ntmps56
  go_wp2
  go_ret
  exact ⟨by first | rfl | (simp; done) | (simp [*]; done), by repeat (first | exact Drawn0.refl _ | apply Drawn0.step)⟩

end Go.Proofs.Ytpjiidcnbceffaa.T
