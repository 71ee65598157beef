/- The contract of bulletinref03.Write; printed by inj.py, then mended by hand (sizes of a join). -/
import Derived.Test.YtpjiidcnbceffaaPPx0
namespace Go.Proofs.Ytpjiidcnbceffaa.PP
open Go.Proofs.Ytpjiidcnbceffaa.UA Go.Proofs.Ytpjiidcnbceffaa.Q
open Go.RowKit Go.Proofs.YtpjiidcnbceffaaW.PrintWords Go.Proofs.YtpjiidcnbceffaaW.PrintLast Go.Proofs.YtpjiidcnbceffaaW.PrintMore
attribute [local go_sem] max2_int min2_int max_two min_two max_three min_three max_four min_four   -- for this text's walks alone
set_option linter.unusedVariables false
set_option linter.unusedSimpArgs false

/-! ### bulletinref03_Write: function 35 -/
def bulletinref03_Write.j0 : Nat → ByteArray → ByteArray → Int → Int → Bool → Option (ByteArray × ByteArray × Int)
  | 0, _, _, _, _, _ => none
  | k + 1, x0, x7, x10, x11, x27 => if x27 = true then (some ((⟨#[]⟩ : ByteArray), x0, x11)) else (if x11 = 0 then (some (x7, (⟨#[]⟩ : ByteArray), 0)) else (if 0 ≤ x10 then (if x10 ≤ (x7.size : Int) then (some (x7.extract 0 (x10 : Int).toNat, x7.extract (x10 : Int).toNat x7.size, 0)) else (none)) else (none)))
def bulletinref03_Write.f (k : Nat) (a0 : ByteArray) (a1 : ByteArray) : Option (ByteArray × ByteArray × Int) := if a0.size + a1.size ≤ 9223372036854775807 then ((bulletinref03_All.f k (a0 ++ a1)).bind fun bt111 => (if bt111.2.2.2 = 0 then (bulletinref03_Write.j0 k a0 (a0 ++ a1) bt111.2.2.1 bt111.2.2.2 false) else (bulletinref03_Write.j0 k a0 (a0 ++ a1) bt111.2.2.1 bt111.2.2.2 (bt111.2.2.2 != 23)))) else (none)
theorem bulletinref03_Write.mono_l : ∀ k, (∀ y0 y1 y2 y3 y4, LeO (bulletinref03_Write.j0 k y0 y1 y2 y3 y4) (bulletinref03_Write.j0 (k + 1) y0 y1 y2 y3 y4))
  | 0 => fun _ _ _ _ _ r h => by simp [bulletinref03_Write.j0] at h
  | k + 1 => by
    have ih0 := bulletinref03_Write.mono_l k
    · intro y0 y1 y2 y3 y4
      unfold bulletinref03_Write.j0
      repeat' first
      | (with_reducible exact ih0 _ _ _ _ _)
      | (with_reducible exact bulletinref03_All.mono _ _)
      | (with_reducible exact LeO.refl _)
      | (with_reducible exact LeO.none _)
      | (with_reducible refine LeO.ite ?_ ?_)
      | (with_reducible refine LeO.bind ?_ (fun _ => ?_))
      | exact ih0 _ _ _ _ _
      | exact bulletinref03_All.mono _ _
      | exact LeO.none _
      | refine LeO.ite ?_ ?_
      | refine LeO.bind ?_ (fun _ => ?_)
theorem bulletinref03_Write.mono : ∀ a0 a1 k, LeO (bulletinref03_Write.f k a0 a1) (bulletinref03_Write.f (k + 1) a0 a1) := by
  intro a0 a1 k
  have ih0 := bulletinref03_Write.mono_l k
  unfold bulletinref03_Write.f
  repeat' first
      | (with_reducible exact ih0 _ _ _ _ _)
      | (with_reducible exact bulletinref03_All.mono _ _)
      | (with_reducible exact LeO.refl _)
      | (with_reducible exact LeO.none _)
      | (with_reducible refine LeO.ite ?_ ?_)
      | (with_reducible refine LeO.bind ?_ (fun _ => ?_))
      | exact ih0 _ _ _ _ _
      | exact bulletinref03_All.mono _ _
      | exact LeO.none _
      | refine LeO.ite ?_ ?_
      | refine LeO.bind ?_ (fun _ => ?_)
set_option maxHeartbeats 8000000 in
set_option maxRecDepth 100000 in
theorem bulletinref03_Write.calls (k : Nat) (a0 : ByteArray) (a1 : ByteArray) (r1 : ByteArray) (r2 : ByteArray) (r3 : Int) (w : World) (h : bulletinref03_Write.f k a0 a1 = some (r1, r2, r3)) :
    Calls Try.prog 35 #[.string a0, .string a1] w fun e w' => e = .returned (.tuple #[.string r1, .string r2, .int .i64 r3]) ∧ Below w.heap.size w w' := by
  have HB := Aside0.mk (Below.refl w.heap.size w)
  have H : (if a0.size + a1.size ≤ 9223372036854775807 then ((bulletinref03_All.f k (a0 ++ a1)).bind fun bt111 => (if bt111.2.2.2 = 0 then (bulletinref03_Write.j0 k a0 (a0 ++ a1) bt111.2.2.1 bt111.2.2.2 false) else (bulletinref03_Write.j0 k a0 (a0 ++ a1) bt111.2.2.1 bt111.2.2.2 (bt111.2.2.2 != 23)))) else (none)) = some (r1, r2, r3) := h
  clear h
  by_cases c3 : a0.size + a1.size ≤ 9223372036854775807
  · rw [if_pos c3] at H
    have c3b0 := eq_true c3
    have c3b1 : decide (a0.size + a1.size ≤ 9223372036854775807) = true := decide_eq_true c3
    try have c3b2 : (9223372036854775807 < a0.size + a1.size) = False := eq_false (Nat.not_lt.2 c3)
    replace H := Option.bind_eq_some_iff.mp H
    obtain ⟨⟨t111, t112, t113, t114⟩, A40, H⟩ := H
    replace H : (if t114 = 0 then (bulletinref03_Write.j0 k a0 (a0 ++ a1) t113 t114 false) else (bulletinref03_Write.j0 k a0 (a0 ++ a1) t113 t114 (t114 != 23))) = some (r1, r2, r3) := H
    have A4 := Aside0.mk A40
    clear A40
    have HC5 := Aside0.mk H
    clear H
    go_enter Try.func35, Try.ntmps35
    go_upto_region 3 with (first | (go_at_call 15; (with_reducible refine (bulletinref03_All.calls k (a0 ++ a1) t111 t112 t113 t114 _ A4.out).mono ?_); rintro e w6 ⟨v115, v117, rfl, ho0, ho1, hb⟩; have n0_ := Aside0.mk (Kd.R_lower ho0 (below_size (by repeat (first | (with_reducible first | exact HB.out | apply below_alloc | apply pw_below_drewN | apply below_drew1) | exact HB.out)))); have n1_ := Aside0.mk (Kd.R_lower ho1 (below_size (by repeat (first | (with_reducible first | exact HB.out | apply below_alloc | apply pw_below_drewN | apply below_drew1) | exact HB.out)))); have n2_ := Aside0.mk (below_step (by repeat (first | (with_reducible first | exact HB.out | apply below_alloc | apply pw_below_drewN | apply below_drew1) | exact HB.out)) hb); clear HB; have HO116 := n0_; have HO118 := n1_; have HB := n2_; clear n0_ n1_ n2_; (try clear hb); (try clear hb2); (try clear hk); (try clear hi); (try clear ho0); (try clear ho1)))
    repeat (go_quiet (first | (go_at_call 15; (with_reducible refine (bulletinref03_All.calls k (a0 ++ a1) t111 t112 t113 t114 _ A4.out).mono ?_); rintro e w6 ⟨v115, v117, rfl, ho0, ho1, hb⟩; have n0_ := Aside0.mk (Kd.R_lower ho0 (below_size (by repeat (first | (with_reducible first | exact HB.out | apply below_alloc | apply pw_below_drewN | apply below_drew1) | exact HB.out)))); have n1_ := Aside0.mk (Kd.R_lower ho1 (below_size (by repeat (first | (with_reducible first | exact HB.out | apply below_alloc | apply pw_below_drewN | apply below_drew1) | exact HB.out)))); have n2_ := Aside0.mk (below_step (by repeat (first | (with_reducible first | exact HB.out | apply below_alloc | apply pw_below_drewN | apply below_drew1) | exact HB.out)) hb); clear HB; have HO116 := n0_; have HO118 := n1_; have HB := n2_; clear n0_ n1_ n2_; (try clear hb); (try clear hb2); (try clear hk); (try clear hi); (try clear ho0); (try clear ho1))); go_upto_region 3 with (first | (go_at_call 15; (with_reducible refine (bulletinref03_All.calls k (a0 ++ a1) t111 t112 t113 t114 _ A4.out).mono ?_); rintro e w6 ⟨v115, v117, rfl, ho0, ho1, hb⟩; have n0_ := Aside0.mk (Kd.R_lower ho0 (below_size (by repeat (first | (with_reducible first | exact HB.out | apply below_alloc | apply pw_below_drewN | apply below_drew1) | exact HB.out)))); have n1_ := Aside0.mk (Kd.R_lower ho1 (below_size (by repeat (first | (with_reducible first | exact HB.out | apply below_alloc | apply pw_below_drewN | apply below_drew1) | exact HB.out)))); have n2_ := Aside0.mk (below_step (by repeat (first | (with_reducible first | exact HB.out | apply below_alloc | apply pw_below_drewN | apply below_drew1) | exact HB.out)) hb); clear HB; have HO116 := n0_; have HO118 := n1_; have HB := n2_; clear n0_ n1_ n2_; (try clear hb); (try clear hb2); (try clear hk); (try clear hi); (try clear ho0); (try clear ho1))))
    (try simp only [Act.put, List.setIfInBounds_toArray, List.set_cons_zero, List.set_cons_succ])
    go_cut [27] (fun v27 wc => ∃ (kq : Nat) (x27_4 : Bool), v27 = .bool x27_4 ∧ Aside0 (bulletinref03_Write.j0 kq a0 (a0 ++ a1) t113 t114 x27_4 = some (r1, r2, r3)) ∧ Aside0 (kq ≤ k) ∧ Aside0 (Below w.heap.size w wc))
    case first =>
      have H := HC5.out
      clear HC5
      by_cases c7 : t114 = 0
      · rw [if_pos c7] at H
        have c7b0 : (t114 == 0) = true := beq_iff_eq.mpr c7
        have c7b1 : (t114 != 0) = false := bne_eq_false_iff_eq.mpr c7
        clear c7
        (first | rw [c7b0] | (simp only [i64_w, i32_w]; rw [c7b0]) | skip)
        have H' := Aside0.mk H
        clear H
        go_wp2
        repeat (go_quiet (fail); try go_wp2)
        go_meet
        case rel => exact ⟨_, (false), (by first | rfl | (simp; done) | (simp [*]; done)), H', ⟨by first | omega | exact Nat.le_refl _⟩, ⟨by repeat (first | (with_reducible first | exact HB.out | apply below_alloc | apply pw_below_drewN | apply below_drew1) | exact HB.out)⟩⟩
      · rw [if_neg c7] at H
        have c7b0 : (t114 == 0) = false := beq_eq_false_iff_ne.mpr c7
        have c7b1 : (t114 != 0) = true := bne_iff_ne.mpr c7
        (first | rw [c7b0] | (simp only [i64_w, i32_w]; rw [c7b0]) | skip)
        have H' := Aside0.mk H
        clear H
        go_wp2
        repeat (go_quiet (fail); try go_wp2)
        go_meet
        case rel => exact ⟨_, ((t114 != 23)), (by first | rfl | (simp; done) | (simp [*]; done)), H', ⟨by first | omega | exact Nat.le_refl _⟩, ⟨by repeat (first | (with_reducible first | exact HB.out | apply below_alloc | apply pw_below_drewN | apply below_drew1) | exact HB.out)⟩⟩
    case rest =>
      clear HC5
      try clear p2
      try clear c3
      try clear c3b0
      try clear c3b1
      try clear c3b2
      try clear c7
      try clear c7b0
      try clear c7b1
      obtain ⟨kq, x27_4, rfl, HA, HJ4, HB⟩ := hcut
      cases kq with
      | zero => exact absurd HA.out (by simp [bulletinref03_Write.j0])
      | succ kj4 =>
        have H := HA.out
        clear HA
        simp only [bulletinref03_Write.j0] at H
        by_cases c8 : x27_4 = true
        · subst c8
          have H1 : (some ((⟨#[]⟩ : ByteArray), a0, t114)) = some (r1, r2, r3) := by rw [if_pos rfl] at H; exact H
          clear H
          have H := H1
          clear H1
          simp only [Option.some.injEq, Prod.mk.injEq] at H
          obtain ⟨rfl, rfl, rfl⟩ := H
          go_wp2
          repeat (go_quiet (fail); try go_wp2)
          go_ret3
          exact ⟨by first | rfl | (simp [errW_none, errW_some] <;> rfl) | (simp [*, errW_none, errW_some] <;> rfl), by repeat (first | (with_reducible first | exact HB.out | apply below_alloc | apply pw_below_drewN | apply below_drew1) | exact HB.out)⟩
        · replace c8 := Bool.eq_false_iff.mpr c8
          subst c8
          have H1 : (if t114 = 0 then (some ((a0 ++ a1), (⟨#[]⟩ : ByteArray), 0)) else (if 0 ≤ t113 then (if t113 ≤ ((a0 ++ a1).size : Int) then (some ((a0 ++ a1).extract 0 (t113 : Int).toNat, (a0 ++ a1).extract (t113 : Int).toNat (a0 ++ a1).size, 0)) else (none)) else (none))) = some (r1, r2, r3) := by rw [if_neg (show ¬ (false = true) by decide)] at H; exact H
          clear H
          have H := H1
          clear H1
          by_cases c9 : t114 = 0
          · rw [if_pos c9] at H
            have c9b0 : (t114 == 0) = true := beq_iff_eq.mpr c9
            have c9b1 : (t114 != 0) = false := bne_eq_false_iff_eq.mpr c9
            clear c9
            simp only [Option.some.injEq, Prod.mk.injEq] at H
            obtain ⟨rfl, rfl, rfl⟩ := H
            go_wp2
            repeat (go_quiet (fail); try go_wp2)
            go_ret3
            exact ⟨by first | rfl | (simp [errW_none, errW_some] <;> rfl) | (simp [*, errW_none, errW_some] <;> rfl), by repeat (first | (with_reducible first | exact HB.out | apply below_alloc | apply pw_below_drewN | apply below_drew1) | exact HB.out)⟩
          · rw [if_neg c9] at H
            have c9b0 : (t114 == 0) = false := beq_eq_false_iff_ne.mpr c9
            have c9b1 : (t114 != 0) = true := bne_iff_ne.mpr c9
            by_cases c10 : 0 ≤ t113
            · rw [if_pos c10] at H
              have c10b0 := eq_true c10
              have c10b1 : decide (0 ≤ t113) = true := decide_eq_true c10
              clear c10
              by_cases c11 : t113 ≤ ((a0 ++ a1).size : Int)
              · rw [if_pos c11] at H
                have c11b0 := eq_true c11
                have c11b1 : decide (t113 ≤ ((a0 ++ a1).size : Int)) = true := decide_eq_true c11
                have c12b0 := eq_true (of_decide_eq_true (by first | (with_reducible assumption) | assumption) : 0 ≤ t113)
                have c13b0 := eq_true (of_decide_eq_true (by first | (with_reducible assumption) | assumption) : t113 ≤ ((a0 ++ a1).size : Int))
                have c22 : t113 ≤ (a0.size : Int) + (a1.size : Int) := by have h := c11; rw [ByteArray.size_append] at h; omega
                have c23 : (a0 ++ a1).size = a0.size + a1.size := ByteArray.size_append
                simp only [Option.some.injEq, Prod.mk.injEq] at H
                obtain ⟨rfl, rfl, rfl⟩ := H
                go_wp2
                repeat (go_quiet (fail); try go_wp2)
                go_ret3
                exact ⟨by first | rfl | (simp [errW_none, errW_some] <;> rfl) | (simp [*, errW_none, errW_some] <;> rfl), by repeat (first | (with_reducible first | exact HB.out | apply below_alloc | apply pw_below_drewN | apply below_drew1) | exact HB.out)⟩
              · rw [if_neg c11] at H
                exact absurd H (by simp)
            · rw [if_neg c10] at H
              exact absurd H (by simp)
  · rw [if_neg c3] at H
    exact absurd H (by simp)

end Go.Proofs.Ytpjiidcnbceffaa.PP
