/- The contract of utf8.first, case by case. Conditions: the string is not empty; the size that its first byte asks for. -/
import Derived.Test.YtpjiidcnbceffaaB
import Derived.Deep.RegionWith
import Derived.Deep.Cut
namespace Go.Proofs.Ytpjiidcnbceffaa.UA
open Go Go.RowKit Go.Proofs.YtpjiidcnbceffaaW.PrintWords Go.Proofs.YtpjiidcnbceffaaW.PrintLast Go.Proofs.YtpjiidcnbceffaaW.PrintMore
attribute [local go_sem] max2_int min2_int max_two min_two max_three min_three max_four min_four

theorem begins_is (s : ByteArray) (hs : 0 < s.size) (n : Int) (b : Bool) (h : begP s = (n, b)) (w : World) : Calls Try.prog 43 #[.string s] w fun e w' => e = .returned (.tuple #[.int .i64 n, .bool b]) ∧ Below w.heap.size w w' := by
  have := begins_any s hs w
  rw [h] at this; exact this
theorem fx1 (w : World) : (Instr.field 63 (.agg #[.int .u8 0, .int .u8 127, .int .u8 127, .int .i32 0, .int .i32 127]) 2).run Try.prog w = .ok (.int .u8 127) w := by kernel_rfl
set_option maxHeartbeats 4000000 in
set_option maxRecDepth 100000 in
theorem first_1 (s : ByteArray) (hs : 1 ≤ s.size) (hn : szOf (bt s 0) = 1) (hb : begP (s.extract 0 1) = (1, true)) (w : World) : Calls Try.prog 37 #[.string s] w fun e w' => e = .returned (.tuple #[.int .i32 (valOf (bt s 0 % 128) s 0), .int .i64 1, .int .i64 0]) ∧ Below w.heap.size w w' := by
  have ixn := ix0
  have fxn := fx1
  have wrn : IntKind.i64.wrap 0 = 0 := by decide
  have HN := Aside0.mk hn
  clear hn
  have HB := Aside0.mk hb
  clear hb
  have hb0 := bt_lo s 0
  have hB0 := bt_hi s 0
  have hx0 : ∀ h : 0 < s.size, ((s[0]'h).toNat : Int) = bt s 0 := bt_at s 0
  obtain ⟨f0, Ef0⟩ : ∃ x : Int, x = bt s 0 % 128 := ⟨_, rfl⟩
  have hand0 : Go.bits .and .u8 (bt s 0) 127 = f0 := by rw [Ef0]; exact u8_and127 _ hb0 (by omega)
  have F0 : 0 ≤ f0 := by omega
  have G0 : f0 < 128 := by omega
  have HF0 := Aside0.mk Ef0
  clear Ef0
  have wr0 : IntKind.i32.wrap f0 = f0 := IntWalk.i32_in f0 (by omega)
  have HR : Aside0 (valOf (bt s 0 % 128) s 0 = f0) := ⟨by
    have QHF0 := HF0.out
    simp [valOf]
    omega⟩
  go_enter Try.func37, Try.ntmps37
  go_upto_region 12 with (first | (go_at_call 50; refine (sizeOf_is _ _ (by omega) HN.out _).mono ?_; rintro e w1 ⟨rfl, hb1⟩) | (go_at_call 43; refine (begins_is _ (by simp; omega) _ _ HB.out _).mono ?_; rintro e w2 ⟨rfl, hb2⟩))
  go_cut [10] (fun v wc => v = .int .i32 f0 ∧ Below w2.heap.size w2 wc)
  case first =>
    go_region_with (go_at_call 39; refine (classes_any _).mono ?_; rintro e w3 ⟨rfl, hb3⟩)
    all_goals (go_wp2_with fail; go_meet; case rel => exact ⟨rfl, by first | exact hb3 | exact below_step (pw_below_drewN (Below.refl _ _) _) hb3 | exact below_step (below_drew1 (Below.refl _ _)) hb3⟩)
  case rest =>
    obtain ⟨rfl, hb3⟩ := hcut
    go_wp2
    refine wp_loop_rounds 1 ?_
    repeat any_goals (rw [rounds_succ]; go_wp2; all_goals (try (go_quiet (fail); go_wp2)))
    all_goals
      go_ret3
      exact ⟨by rw [HR.out]; rfl, by repeat (first | exact below_step (below_step hb1 hb2) hb3 | apply below_alloc | apply pw_below_drewN | apply below_drew1)⟩

theorem fx2 (w : World) : (Instr.field 63 (.agg #[.int .u8 194, .int .u8 223, .int .u8 31, .int .i32 128, .int .i32 2047]) 2).run Try.prog w = .ok (.int .u8 31) w := by kernel_rfl
set_option maxHeartbeats 4000000 in
set_option maxRecDepth 100000 in
theorem first_2 (s : ByteArray) (hs : 2 ≤ s.size) (hn : szOf (bt s 0) = 2) (hb : begP (s.extract 0 2) = (2, true)) (w : World) : Calls Try.prog 37 #[.string s] w fun e w' => e = .returned (.tuple #[.int .i32 (valOf (bt s 0 % 32) s 1), .int .i64 2, .int .i64 0]) ∧ Below w.heap.size w w' := by
  have ixn := ix1
  have fxn := fx2
  have wrn : IntKind.i64.wrap 1 = 1 := by decide
  have HN := Aside0.mk hn
  clear hn
  have HB := Aside0.mk hb
  clear hb
  have hb0 := bt_lo s 0
  have hB0 := bt_hi s 0
  have hx0 : ∀ h : 0 < s.size, ((s[0]'h).toNat : Int) = bt s 0 := bt_at s 0
  have hb1 := bt_lo s 1
  have hB1 := bt_hi s 1
  have hx1 : ∀ h : 1 < s.size, ((s[1]'h).toNat : Int) = bt s 1 := bt_at s 1
  obtain ⟨f0, Ef0⟩ : ∃ x : Int, x = bt s 0 % 32 := ⟨_, rfl⟩
  have hand0 : Go.bits .and .u8 (bt s 0) 31 = f0 := by rw [Ef0]; exact u8_and31 _ hb0 (by omega)
  have F0 : 0 ≤ f0 := by omega
  have G0 : f0 < 32 := by omega
  have HF0 := Aside0.mk Ef0
  clear Ef0
  have wr0 : IntKind.i32.wrap f0 = f0 := IntWalk.i32_in f0 (by omega)
  obtain ⟨c1, Ec1⟩ : ∃ x : Int, x = bt s 1 % 64 := ⟨_, rfl⟩
  have hand1 : Go.bits .and .u8 (bt s 1) 63 = c1 := by rw [Ec1]; exact u8_and63 _ hb1 (by omega)
  have C1 : 0 ≤ c1 := by omega
  have D1 : c1 < 64 := by omega
  have HC1 := Aside0.mk Ec1
  clear Ec1
  obtain ⟨v1, Ev1⟩ : ∃ x : Int, x = f0 * 64 + c1 := ⟨_, rfl⟩
  have hor1 : Go.bits .or .i32 (f0 * 64) c1 = v1 := by rw [Ev1]; exact i32_or6 _ _ (by omega) (by omega) (by omega) C1 D1
  have V1 : 0 ≤ v1 := by omega
  have W1 : v1 < 2048 := by omega
  have HV1 := Aside0.mk Ev1
  clear Ev1
  have HR : Aside0 (valOf (bt s 0 % 32) s 1 = v1) := ⟨by
    have QHF0 := HF0.out
    have QHC1 := HC1.out
    have QHV1 := HV1.out
    simp [valOf]; omega⟩
  go_enter Try.func37, Try.ntmps37
  go_upto_region 12 with (first | (go_at_call 50; refine (sizeOf_is _ _ (by omega) HN.out _).mono ?_; rintro e w1 ⟨rfl, hb1⟩) | (go_at_call 43; refine (begins_is _ (by simp; omega) _ _ HB.out _).mono ?_; rintro e w2 ⟨rfl, hb2⟩))
  go_cut [10] (fun v wc => v = .int .i32 f0 ∧ Below w2.heap.size w2 wc)
  case first =>
    go_region_with (go_at_call 39; refine (classes_any _).mono ?_; rintro e w3 ⟨rfl, hb3⟩)
    all_goals (go_wp2_with fail; go_meet; case rel => exact ⟨rfl, by first | exact hb3 | exact below_step (pw_below_drewN (Below.refl _ _) _) hb3 | exact below_step (below_drew1 (Below.refl _ _)) hb3⟩)
  case rest =>
    obtain ⟨rfl, hb3⟩ := hcut
    go_wp2
    refine wp_loop_rounds 2 ?_
    repeat any_goals (rw [rounds_succ]; go_wp2; all_goals (try (go_quiet (fail); go_wp2)))
    all_goals
      go_ret3
      exact ⟨by rw [HR.out]; rfl, by repeat (first | exact below_step (below_step hb1 hb2) hb3 | apply below_alloc | apply pw_below_drewN | apply below_drew1)⟩

theorem fx3 (w : World) : (Instr.field 63 (.agg #[.int .u8 224, .int .u8 239, .int .u8 15, .int .i32 2048, .int .i32 65535]) 2).run Try.prog w = .ok (.int .u8 15) w := by kernel_rfl
set_option maxHeartbeats 4000000 in
set_option maxRecDepth 100000 in
theorem first_3 (s : ByteArray) (hs : 3 ≤ s.size) (hn : szOf (bt s 0) = 3) (hb : begP (s.extract 0 3) = (3, true)) (w : World) : Calls Try.prog 37 #[.string s] w fun e w' => e = .returned (.tuple #[.int .i32 (valOf (bt s 0 % 16) s 2), .int .i64 3, .int .i64 0]) ∧ Below w.heap.size w w' := by
  have ixn := ix2
  have fxn := fx3
  have wrn : IntKind.i64.wrap 2 = 2 := by decide
  have HN := Aside0.mk hn
  clear hn
  have HB := Aside0.mk hb
  clear hb
  have hb0 := bt_lo s 0
  have hB0 := bt_hi s 0
  have hx0 : ∀ h : 0 < s.size, ((s[0]'h).toNat : Int) = bt s 0 := bt_at s 0
  have hb1 := bt_lo s 1
  have hB1 := bt_hi s 1
  have hx1 : ∀ h : 1 < s.size, ((s[1]'h).toNat : Int) = bt s 1 := bt_at s 1
  have hb2 := bt_lo s 2
  have hB2 := bt_hi s 2
  have hx2 : ∀ h : 2 < s.size, ((s[2]'h).toNat : Int) = bt s 2 := bt_at s 2
  obtain ⟨f0, Ef0⟩ : ∃ x : Int, x = bt s 0 % 16 := ⟨_, rfl⟩
  have hand0 : Go.bits .and .u8 (bt s 0) 15 = f0 := by rw [Ef0]; exact u8_and15 _ hb0 (by omega)
  have F0 : 0 ≤ f0 := by omega
  have G0 : f0 < 16 := by omega
  have HF0 := Aside0.mk Ef0
  clear Ef0
  have wr0 : IntKind.i32.wrap f0 = f0 := IntWalk.i32_in f0 (by omega)
  obtain ⟨c1, Ec1⟩ : ∃ x : Int, x = bt s 1 % 64 := ⟨_, rfl⟩
  have hand1 : Go.bits .and .u8 (bt s 1) 63 = c1 := by rw [Ec1]; exact u8_and63 _ hb1 (by omega)
  have C1 : 0 ≤ c1 := by omega
  have D1 : c1 < 64 := by omega
  have HC1 := Aside0.mk Ec1
  clear Ec1
  obtain ⟨v1, Ev1⟩ : ∃ x : Int, x = f0 * 64 + c1 := ⟨_, rfl⟩
  have hor1 : Go.bits .or .i32 (f0 * 64) c1 = v1 := by rw [Ev1]; exact i32_or6 _ _ (by omega) (by omega) (by omega) C1 D1
  have V1 : 0 ≤ v1 := by omega
  have W1 : v1 < 1024 := by omega
  have HV1 := Aside0.mk Ev1
  clear Ev1
  obtain ⟨c2, Ec2⟩ : ∃ x : Int, x = bt s 2 % 64 := ⟨_, rfl⟩
  have hand2 : Go.bits .and .u8 (bt s 2) 63 = c2 := by rw [Ec2]; exact u8_and63 _ hb2 (by omega)
  have C2 : 0 ≤ c2 := by omega
  have D2 : c2 < 64 := by omega
  have HC2 := Aside0.mk Ec2
  clear Ec2
  obtain ⟨v2, Ev2⟩ : ∃ x : Int, x = v1 * 64 + c2 := ⟨_, rfl⟩
  have hor2 : Go.bits .or .i32 (v1 * 64) c2 = v2 := by rw [Ev2]; exact i32_or6 _ _ (by omega) (by omega) (by omega) C2 D2
  have V2 : 0 ≤ v2 := by omega
  have W2 : v2 < 65536 := by omega
  have HV2 := Aside0.mk Ev2
  clear Ev2
  have HR : Aside0 (valOf (bt s 0 % 16) s 2 = v2) := ⟨by
    have QHF0 := HF0.out
    have QHC1 := HC1.out
    have QHV1 := HV1.out
    have QHC2 := HC2.out
    have QHV2 := HV2.out
    simp [valOf]; omega⟩
  go_enter Try.func37, Try.ntmps37
  go_upto_region 12 with (first | (go_at_call 50; refine (sizeOf_is _ _ (by omega) HN.out _).mono ?_; rintro e w1 ⟨rfl, hb1⟩) | (go_at_call 43; refine (begins_is _ (by simp; omega) _ _ HB.out _).mono ?_; rintro e w2 ⟨rfl, hb2⟩))
  go_cut [10] (fun v wc => v = .int .i32 f0 ∧ Below w2.heap.size w2 wc)
  case first =>
    go_region_with (go_at_call 39; refine (classes_any _).mono ?_; rintro e w3 ⟨rfl, hb3⟩)
    all_goals (go_wp2_with fail; go_meet; case rel => exact ⟨rfl, by first | exact hb3 | exact below_step (pw_below_drewN (Below.refl _ _) _) hb3 | exact below_step (below_drew1 (Below.refl _ _)) hb3⟩)
  case rest =>
    obtain ⟨rfl, hb3⟩ := hcut
    go_wp2
    refine wp_loop_rounds 3 ?_
    repeat any_goals (rw [rounds_succ]; go_wp2; all_goals (try (go_quiet (fail); go_wp2)))
    all_goals
      go_ret3
      exact ⟨by rw [HR.out]; rfl, by repeat (first | exact below_step (below_step hb1 hb2) hb3 | apply below_alloc | apply pw_below_drewN | apply below_drew1)⟩

theorem fx4 (w : World) : (Instr.field 63 (.agg #[.int .u8 240, .int .u8 244, .int .u8 7, .int .i32 65536, .int .i32 1114111]) 2).run Try.prog w = .ok (.int .u8 7) w := by kernel_rfl
set_option maxHeartbeats 4000000 in
set_option maxRecDepth 100000 in
theorem first_4 (s : ByteArray) (hs : 4 ≤ s.size) (hn : szOf (bt s 0) = 4) (hb : begP (s.extract 0 4) = (4, true)) (w : World) : Calls Try.prog 37 #[.string s] w fun e w' => e = .returned (.tuple #[.int .i32 (valOf (bt s 0 % 8) s 3), .int .i64 4, .int .i64 0]) ∧ Below w.heap.size w w' := by
  have ixn := ix3
  have fxn := fx4
  have wrn : IntKind.i64.wrap 3 = 3 := by decide
  have HN := Aside0.mk hn
  clear hn
  have HB := Aside0.mk hb
  clear hb
  have hb0 := bt_lo s 0
  have hB0 := bt_hi s 0
  have hx0 : ∀ h : 0 < s.size, ((s[0]'h).toNat : Int) = bt s 0 := bt_at s 0
  have hb1 := bt_lo s 1
  have hB1 := bt_hi s 1
  have hx1 : ∀ h : 1 < s.size, ((s[1]'h).toNat : Int) = bt s 1 := bt_at s 1
  have hb2 := bt_lo s 2
  have hB2 := bt_hi s 2
  have hx2 : ∀ h : 2 < s.size, ((s[2]'h).toNat : Int) = bt s 2 := bt_at s 2
  have hb3 := bt_lo s 3
  have hB3 := bt_hi s 3
  have hx3 : ∀ h : 3 < s.size, ((s[3]'h).toNat : Int) = bt s 3 := bt_at s 3
  obtain ⟨f0, Ef0⟩ : ∃ x : Int, x = bt s 0 % 8 := ⟨_, rfl⟩
  have hand0 : Go.bits .and .u8 (bt s 0) 7 = f0 := by rw [Ef0]; exact u8_and7 _ hb0 (by omega)
  have F0 : 0 ≤ f0 := by omega
  have G0 : f0 < 8 := by omega
  have HF0 := Aside0.mk Ef0
  clear Ef0
  have wr0 : IntKind.i32.wrap f0 = f0 := IntWalk.i32_in f0 (by omega)
  obtain ⟨c1, Ec1⟩ : ∃ x : Int, x = bt s 1 % 64 := ⟨_, rfl⟩
  have hand1 : Go.bits .and .u8 (bt s 1) 63 = c1 := by rw [Ec1]; exact u8_and63 _ hb1 (by omega)
  have C1 : 0 ≤ c1 := by omega
  have D1 : c1 < 64 := by omega
  have HC1 := Aside0.mk Ec1
  clear Ec1
  obtain ⟨v1, Ev1⟩ : ∃ x : Int, x = f0 * 64 + c1 := ⟨_, rfl⟩
  have hor1 : Go.bits .or .i32 (f0 * 64) c1 = v1 := by rw [Ev1]; exact i32_or6 _ _ (by omega) (by omega) (by omega) C1 D1
  have V1 : 0 ≤ v1 := by omega
  have W1 : v1 < 512 := by omega
  have HV1 := Aside0.mk Ev1
  clear Ev1
  obtain ⟨c2, Ec2⟩ : ∃ x : Int, x = bt s 2 % 64 := ⟨_, rfl⟩
  have hand2 : Go.bits .and .u8 (bt s 2) 63 = c2 := by rw [Ec2]; exact u8_and63 _ hb2 (by omega)
  have C2 : 0 ≤ c2 := by omega
  have D2 : c2 < 64 := by omega
  have HC2 := Aside0.mk Ec2
  clear Ec2
  obtain ⟨v2, Ev2⟩ : ∃ x : Int, x = v1 * 64 + c2 := ⟨_, rfl⟩
  have hor2 : Go.bits .or .i32 (v1 * 64) c2 = v2 := by rw [Ev2]; exact i32_or6 _ _ (by omega) (by omega) (by omega) C2 D2
  have V2 : 0 ≤ v2 := by omega
  have W2 : v2 < 32768 := by omega
  have HV2 := Aside0.mk Ev2
  clear Ev2
  obtain ⟨c3, Ec3⟩ : ∃ x : Int, x = bt s 3 % 64 := ⟨_, rfl⟩
  have hand3 : Go.bits .and .u8 (bt s 3) 63 = c3 := by rw [Ec3]; exact u8_and63 _ hb3 (by omega)
  have C3 : 0 ≤ c3 := by omega
  have D3 : c3 < 64 := by omega
  have HC3 := Aside0.mk Ec3
  clear Ec3
  obtain ⟨v3, Ev3⟩ : ∃ x : Int, x = v2 * 64 + c3 := ⟨_, rfl⟩
  have hor3 : Go.bits .or .i32 (v2 * 64) c3 = v3 := by rw [Ev3]; exact i32_or6 _ _ (by omega) (by omega) (by omega) C3 D3
  have V3 : 0 ≤ v3 := by omega
  have W3 : v3 < 2097152 := by omega
  have HV3 := Aside0.mk Ev3
  clear Ev3
  have HR : Aside0 (valOf (bt s 0 % 8) s 3 = v3) := ⟨by
    have QHF0 := HF0.out
    have QHC1 := HC1.out
    have QHV1 := HV1.out
    have QHC2 := HC2.out
    have QHV2 := HV2.out
    have QHC3 := HC3.out
    have QHV3 := HV3.out
    simp [valOf]; omega⟩
  go_enter Try.func37, Try.ntmps37
  go_upto_region 12 with (first | (go_at_call 50; refine (sizeOf_is _ _ (by omega) HN.out _).mono ?_; rintro e w1 ⟨rfl, hb1⟩) | (go_at_call 43; refine (begins_is _ (by simp; omega) _ _ HB.out _).mono ?_; rintro e w2 ⟨rfl, hb2⟩))
  go_cut [10] (fun v wc => v = .int .i32 f0 ∧ Below w2.heap.size w2 wc)
  case first =>
    go_region_with (go_at_call 39; refine (classes_any _).mono ?_; rintro e w3 ⟨rfl, hb3⟩)
    all_goals (go_wp2_with fail; go_meet; case rel => exact ⟨rfl, by first | exact hb3 | exact below_step (pw_below_drewN (Below.refl _ _) _) hb3 | exact below_step (below_drew1 (Below.refl _ _)) hb3⟩)
  case rest =>
    obtain ⟨rfl, hb3⟩ := hcut
    go_wp2
    refine wp_loop_rounds 4 ?_
    repeat any_goals (rw [rounds_succ]; go_wp2; all_goals (try (go_quiet (fail); go_wp2)))
    all_goals
      go_ret3
      exact ⟨by rw [HR.out]; rfl, by repeat (first | exact below_step (below_step hb1 hb2) hb3 | apply below_alloc | apply pw_below_drewN | apply below_drew1)⟩

/-- What first answers: the code point, its size, the error. -/
def fstP (s : ByteArray) : Int × Int × Int :=
  let n := (szOf (bt s 0)).toNat
  if n = 0 then (0, 0, 6)
  else if s.size < n then (if (begP s).2 = true then (0, 0, 23) else (0, 0, 3))
  else if (begP (s.extract 0 n)).2 = true then (valOf (bt s 0 % ldM n) s (n - 1), n, 0) else (0, 0, 3)

set_option maxHeartbeats 1000000 in
set_option maxRecDepth 100000 in
theorem first_0 (s : ByteArray) (hs : 0 < s.size) (hn : szOf (bt s 0) = 0) (w : World) : Calls Try.prog 37 #[.string s] w fun e w' => e = .returned (.tuple #[.int .i32 0, .int .i64 0, .int .i64 6]) ∧ Below w.heap.size w w' := by
  have HN := Aside0.mk hn
  clear hn
  have hb0 := bt_lo s 0
  have hx0 : ∀ h : 0 < s.size, ((s[0]'h).toNat : Int) = bt s 0 := bt_at s 0
  go_enter Try.func37, Try.ntmps37
  go_wp2_with (first | (go_at_call 50; refine (sizeOf_is _ _ (by omega) HN.out _).mono ?_; rintro e w1 ⟨rfl, hb1⟩))
  go_ret3
  exact ⟨rfl, hb1⟩

set_option maxHeartbeats 1000000 in
set_option maxRecDepth 100000 in
theorem first_short (s : ByteArray) (hs : 0 < s.size) (n : Nat) (h0 : 1 ≤ n) (h4 : n ≤ 4) (hn : szOf (bt s 0) = n) (hl : s.size < n) (b : Bool) (hb : begP s = ((n : Int), b)) (w : World) :
    Calls Try.prog 37 #[.string s] w fun e w' => e = .returned (.tuple #[.int .i32 0, .int .i64 0, .int .i64 (if b = true then 23 else 3)]) ∧ Below w.heap.size w w' := by
  have HN := Aside0.mk hn
  clear hn
  have HB := Aside0.mk hb
  clear hb
  have hb0 := bt_lo s 0
  have hx0 : ∀ h : 0 < s.size, ((s[0]'h).toNat : Int) = bt s 0 := bt_at s 0
  have hz : ((n : Int) == 0) = false := by rw [beq_eq_false_iff_ne]; omega
  have hd : decide (s.size < n) = true := by simpa using hl
  cases b
  all_goals
    go_enter Try.func37, Try.ntmps37
    go_wp2_with (first | (go_at_call 50; refine (sizeOf_is _ _ (by omega) HN.out _).mono ?_; rintro e w1 ⟨rfl, hb1⟩) | (go_at_call 43; refine (begins_is _ (by omega) _ _ HB.out _).mono ?_; rintro e w2 ⟨rfl, hb2⟩))
    go_ret3
    exact ⟨rfl, below_step hb1 hb2⟩

set_option maxHeartbeats 1000000 in
set_option maxRecDepth 100000 in
theorem first_bad (s : ByteArray) (hs : 0 < s.size) (n : Nat) (h0 : 1 ≤ n) (h4 : n ≤ 4) (hn : szOf (bt s 0) = n) (hl : n ≤ s.size) (hb : begP (s.extract 0 n) = ((n : Int), false)) (w : World) :
    Calls Try.prog 37 #[.string s] w fun e w' => e = .returned (.tuple #[.int .i32 0, .int .i64 0, .int .i64 3]) ∧ Below w.heap.size w w' := by
  have HN := Aside0.mk hn
  clear hn
  have HB := Aside0.mk hb
  clear hb
  have hb0 := bt_lo s 0
  have hx0 : ∀ h : 0 < s.size, ((s[0]'h).toNat : Int) = bt s 0 := bt_at s 0
  have hz : ((n : Int) == 0) = false := by rw [beq_eq_false_iff_ne]; omega
  have hd : decide (s.size < n) = false := by simpa using hl
  have hsz : 0 < (s.extract 0 n).size := by simp; omega
  go_enter Try.func37, Try.ntmps37
  go_wp2_with (first | (go_at_call 50; refine (sizeOf_is _ _ (by omega) HN.out _).mono ?_; rintro e w1 ⟨rfl, hb1⟩) | (go_at_call 43; refine (begins_is _ hsz _ _ HB.out _).mono ?_; rintro e w2 ⟨rfl, hb2⟩))
  go_ret3
  exact ⟨rfl, below_step hb1 hb2⟩
end Go.Proofs.Ytpjiidcnbceffaa.UA
