/- The contract of utf8.begins: whether the bytes of a string that is not empty begin an encoding. Condition: the string is not empty. -/
import Derived.Test.YtpjiidcnbceffaaA
import Derived.Deep.QuietTactic
import Derived.BigQuiet
import Derived.WalkLawsBesides
import Derived.WalkSpells
namespace Go.Proofs.Ytpjiidcnbceffaa.UA
open Go Go.RowKit Go.Proofs.YtpjiidcnbceffaaW.PrintWords Go.Proofs.YtpjiidcnbceffaaW.PrintLast Go.Proofs.YtpjiidcnbceffaaW.PrintMore
attribute [local go_sem] max2_int min2_int max_two min_two max_three min_three max_four min_four

theorem bt_lo (s : ByteArray) (i : Int) : 0 ≤ bt s i := by unfold bt; split <;> omega
theorem bt_hi (s : ByteArray) (i : Int) : bt s i ≤ 255 := by
  unfold bt; split
  · have := (s[i.toNat]'‹_›).toNat_lt; omega
  · omega
theorem u8_and127 (x : Int) (h₀ : 0 ≤ x) (h₁ : x < 256) : Go.bits .and .u8 x 127 = x % 128 := bits_mask .u8 8 (by decide) wraps_u8 7 (by decide) x h₀ h₁
theorem sizeOf_is (b n : Int) (h0 : 0 ≤ b) (h : szOf b = n) (w : World) : Calls Try.prog 50 #[.int .u8 b] w fun e w' => e = .returned (.int .i64 n) ∧ Below w.heap.size w w' := by
  subst h; exact sizeOf_any b h0 w
def tailsOk (s : ByteArray) : Nat → Bool
  | 0 => true
  | k + 1 => tailsOk s k && decide (bt s (k + 1) / 64 = 2)
def valOf (f0 : Int) (s : ByteArray) : Nat → Int
  | 0 => f0
  | k + 1 => valOf f0 s k * 64 + bt s (k + 1) % 64
def ldM (n : Nat) : Int := if n = 1 then 128 else if n = 2 then 32 else if n = 3 then 16 else 8
def mnOf (n : Nat) : Int := if n = 1 then 0 else if n = 2 then 128 else if n = 3 then 2048 else 65536
def mxOf (n : Nat) : Int := if n = 1 then 127 else if n = 2 then 2047 else if n = 3 then 65535 else 1114111
def rng (lo hi : Int) : Bool := decide (lo ≤ hi) && !(decide (55296 ≤ lo) && decide (hi ≤ 57343))
def begOk (s : ByteArray) (n L : Nat) : Bool :=
  let v := valOf (bt s 0 % ldM n) s (L - 1)
  let p : Int := 64 ^ (n - L)
  tailsOk s (L - 1) && rng (if v * p < mnOf n then mnOf n else v * p) (if mxOf n < v * p + (p - 1) then mxOf n else v * p + (p - 1))
theorem ret_ib {n : Int} {a b : Bool} (h : a = b) : Ending.returned (.tuple #[.int .i64 n, .bool a]) = .returned (.tuple #[.int .i64 n, .bool b]) := by rw [h]
set_option maxHeartbeats 4000000 in
set_option maxRecDepth 100000 in
theorem begins_1_1 (s : ByteArray) (hs : s.size = 1) (hn : szOf (bt s 0) = 1) (w : World) : Calls Try.prog 43 #[.string s] w fun e w' => e = .returned (.tuple #[.int .i64 1, .bool (begOk s 1 1)]) ∧ Below w.heap.size w w' := by
  have ixn := ix0
  have HN := Aside0.mk hn
  clear hn
  have hb0 := bt_lo s 0
  have hB0 := bt_hi s 0
  have hx0 : ∀ h : 0 < s.size, ((s[0]'h).toNat : Int) = bt s 0 := bt_at s 0
  obtain ⟨f0, Ef0⟩ : ∃ x : Int, x = bt s 0 % 128 := ⟨_, rfl⟩
  have hand0 : Go.bits .and .u8 (bt s 0) 127 = f0 := by rw [Ef0]; exact u8_and127 _ hb0 (by omega)
  have F0 : 0 ≤ f0 := by omega
  have G0 : f0 < 128 := by omega
  have HF0 := Aside0.mk Ef0
  clear Ef0
  go_enter Try.func43, Try.ntmps43
  go_wp2_with (first | (go_at_call 50; refine (sizeOf_is _ _ (by omega) HN.out _).mono ?_; rintro e w1 ⟨rfl, hb1⟩) | (go_at_call 39; refine (classes_any _).mono ?_; rintro e w2 ⟨rfl, hb2⟩))
  go_quiet (fail)
  go_wp2
  refine wp_loop_rounds 1 ?_
  repeat any_goals (rw [rounds_succ]; go_wp2; all_goals (try (go_quiet (fail); go_wp2)))
  all_goals (try (go_quiet (fail); go_wp2))
  all_goals
    go_ret2
    refine ⟨ret_ib ?_, by repeat (first | exact below_step hb1 hb2 | apply below_alloc | apply pw_below_drewN | apply below_drew1)⟩
    have QHF0 := HF0.out
    clear ixn hand0  
    try simp only [bne_iff_ne, ne_eq, bne_eq_false_iff_eq] at *
    rw [Bool.eq_iff_iff]
    simp [begOk, tailsOk, valOf, ldM, mnOf, mxOf, rng]
    omega

set_option maxHeartbeats 4000000 in
set_option maxRecDepth 100000 in
theorem begins_2_1 (s : ByteArray) (hs : s.size = 1) (hn : szOf (bt s 0) = 2) (w : World) : Calls Try.prog 43 #[.string s] w fun e w' => e = .returned (.tuple #[.int .i64 2, .bool (begOk s 2 1)]) ∧ Below w.heap.size w w' := by
  have ixn := ix1
  have HN := Aside0.mk hn
  clear hn
  have hb0 := bt_lo s 0
  have hB0 := bt_hi s 0
  have hx0 : ∀ h : 0 < s.size, ((s[0]'h).toNat : Int) = bt s 0 := bt_at s 0
  obtain ⟨f0, Ef0⟩ : ∃ x : Int, x = bt s 0 % 32 := ⟨_, rfl⟩
  have hand0 : Go.bits .and .u8 (bt s 0) 31 = f0 := by rw [Ef0]; exact u8_and31 _ hb0 (by omega)
  have F0 : 0 ≤ f0 := by omega
  have G0 : f0 < 32 := by omega
  have HF0 := Aside0.mk Ef0
  clear Ef0
  obtain ⟨hi1, Eh1⟩ : ∃ x : Int, x = f0 * 64 + 63 := ⟨_, rfl⟩
  have hoh1 : Go.bits .or .i32 (f0 * 64) 63 = hi1 := by rw [Eh1]; exact i32_or6 _ _ (by omega) (by omega) (by omega) (by omega) (by omega)
  have HL1 : 0 ≤ hi1 := by omega
  have HM1 : hi1 < 2048 := by omega
  have HE1 := Aside0.mk Eh1
  clear Eh1
  go_enter Try.func43, Try.ntmps43
  go_wp2_with (first | (go_at_call 50; refine (sizeOf_is _ _ (by omega) HN.out _).mono ?_; rintro e w1 ⟨rfl, hb1⟩) | (go_at_call 39; refine (classes_any _).mono ?_; rintro e w2 ⟨rfl, hb2⟩))
  go_quiet (fail)
  go_wp2
  refine wp_loop_rounds 2 ?_
  repeat any_goals (rw [rounds_succ]; go_wp2; all_goals (try (go_quiet (fail); go_wp2)))
  all_goals (try (go_quiet (fail); go_wp2))
  all_goals
    go_ret2
    refine ⟨ret_ib ?_, by repeat (first | exact below_step hb1 hb2 | apply below_alloc | apply pw_below_drewN | apply below_drew1)⟩
    have QHF0 := HF0.out
    have QHE1 := HE1.out
    clear ixn hand0  hoh1
    try simp only [bne_iff_ne, ne_eq, bne_eq_false_iff_eq] at *
    rw [Bool.eq_iff_iff]
    simp [begOk, tailsOk, valOf, ldM, mnOf, mxOf, rng]
    omega

set_option maxHeartbeats 4000000 in
set_option maxRecDepth 100000 in
theorem begins_2_2 (s : ByteArray) (hs : s.size = 2) (hn : szOf (bt s 0) = 2) (w : World) : Calls Try.prog 43 #[.string s] w fun e w' => e = .returned (.tuple #[.int .i64 2, .bool (begOk s 2 2)]) ∧ Below w.heap.size w w' := by
  have ixn := ix1
  have HN := Aside0.mk hn
  clear hn
  have hb0 := bt_lo s 0
  have hB0 := bt_hi s 0
  have hx0 : ∀ h : 0 < s.size, ((s[0]'h).toNat : Int) = bt s 0 := bt_at s 0
  have hb1 := bt_lo s 1
  have hB1 := bt_hi s 1
  have hx1 : ∀ h : 1 < s.size, ((s[1]'h).toNat : Int) = bt s 1 := bt_at s 1
  obtain ⟨f0, Ef0⟩ : ∃ x : Int, x = bt s 0 % 32 := ⟨_, rfl⟩
  have hand0 : Go.bits .and .u8 (bt s 0) 31 = f0 := by rw [Ef0]; exact u8_and31 _ hb0 (by omega)
  have F0 : 0 ≤ f0 := by omega
  have G0 : f0 < 32 := by omega
  have HF0 := Aside0.mk Ef0
  clear Ef0
  obtain ⟨c1, Ec1⟩ : ∃ x : Int, x = bt s 1 % 64 := ⟨_, rfl⟩
  have hand1 : Go.bits .and .u8 (bt s 1) 63 = c1 := by rw [Ec1]; exact u8_and63 _ hb1 (by omega)
  have C1 : 0 ≤ c1 := by omega
  have D1 : c1 < 64 := by omega
  have HC1 := Aside0.mk Ec1
  clear Ec1
  obtain ⟨v1, Ev1⟩ : ∃ x : Int, x = f0 * 64 + c1 := ⟨_, rfl⟩
  have hor1 : Go.bits .or .i32 (f0 * 64) c1 = v1 := by rw [Ev1]; exact i32_or6 _ _ (by omega) (by omega) (by omega) C1 D1
  have V1 : 0 ≤ v1 := by omega
  have W1 : v1 < 2048 := by omega
  have HV1 := Aside0.mk Ev1
  clear Ev1
  go_enter Try.func43, Try.ntmps43
  go_wp2_with (first | (go_at_call 50; refine (sizeOf_is _ _ (by omega) HN.out _).mono ?_; rintro e w1 ⟨rfl, hb1⟩) | (go_at_call 39; refine (classes_any _).mono ?_; rintro e w2 ⟨rfl, hb2⟩))
  go_quiet (fail)
  go_wp2
  refine wp_loop_rounds 2 ?_
  repeat any_goals (rw [rounds_succ]; go_wp2; all_goals (try (go_quiet (fail); go_wp2)))
  all_goals (try (go_quiet (fail); go_wp2))
  all_goals
    go_ret2
    refine ⟨ret_ib ?_, by repeat (first | exact below_step hb1 hb2 | apply below_alloc | apply pw_below_drewN | apply below_drew1)⟩
    have QHF0 := HF0.out
    have QHC1 := HC1.out
    have QHV1 := HV1.out
    clear ixn hand0 hand1 hor1 
    try simp only [bne_iff_ne, ne_eq, bne_eq_false_iff_eq] at *
    rw [Bool.eq_iff_iff]
    simp [begOk, tailsOk, valOf, ldM, mnOf, mxOf, rng]
    omega

set_option maxHeartbeats 4000000 in
set_option maxRecDepth 100000 in
theorem begins_3_1 (s : ByteArray) (hs : s.size = 1) (hn : szOf (bt s 0) = 3) (w : World) : Calls Try.prog 43 #[.string s] w fun e w' => e = .returned (.tuple #[.int .i64 3, .bool (begOk s 3 1)]) ∧ Below w.heap.size w w' := by
  have ixn := ix2
  have HN := Aside0.mk hn
  clear hn
  have hb0 := bt_lo s 0
  have hB0 := bt_hi s 0
  have hx0 : ∀ h : 0 < s.size, ((s[0]'h).toNat : Int) = bt s 0 := bt_at s 0
  obtain ⟨f0, Ef0⟩ : ∃ x : Int, x = bt s 0 % 16 := ⟨_, rfl⟩
  have hand0 : Go.bits .and .u8 (bt s 0) 15 = f0 := by rw [Ef0]; exact u8_and15 _ hb0 (by omega)
  have F0 : 0 ≤ f0 := by omega
  have G0 : f0 < 16 := by omega
  have HF0 := Aside0.mk Ef0
  clear Ef0
  obtain ⟨hi1, Eh1⟩ : ∃ x : Int, x = f0 * 64 + 63 := ⟨_, rfl⟩
  have hoh1 : Go.bits .or .i32 (f0 * 64) 63 = hi1 := by rw [Eh1]; exact i32_or6 _ _ (by omega) (by omega) (by omega) (by omega) (by omega)
  have HL1 : 0 ≤ hi1 := by omega
  have HM1 : hi1 < 1024 := by omega
  have HE1 := Aside0.mk Eh1
  clear Eh1
  obtain ⟨hi2, Eh2⟩ : ∃ x : Int, x = hi1 * 64 + 63 := ⟨_, rfl⟩
  have hoh2 : Go.bits .or .i32 (hi1 * 64) 63 = hi2 := by rw [Eh2]; exact i32_or6 _ _ (by omega) (by omega) (by omega) (by omega) (by omega)
  have HL2 : 0 ≤ hi2 := by omega
  have HM2 : hi2 < 65536 := by omega
  have HE2 := Aside0.mk Eh2
  clear Eh2
  go_enter Try.func43, Try.ntmps43
  go_wp2_with (first | (go_at_call 50; refine (sizeOf_is _ _ (by omega) HN.out _).mono ?_; rintro e w1 ⟨rfl, hb1⟩) | (go_at_call 39; refine (classes_any _).mono ?_; rintro e w2 ⟨rfl, hb2⟩))
  go_quiet (fail)
  go_wp2
  refine wp_loop_rounds 3 ?_
  repeat any_goals (rw [rounds_succ]; go_wp2; all_goals (try (go_quiet (fail); go_wp2)))
  all_goals (try (go_quiet (fail); go_wp2))
  all_goals
    go_ret2
    refine ⟨ret_ib ?_, by repeat (first | exact below_step hb1 hb2 | apply below_alloc | apply pw_below_drewN | apply below_drew1)⟩
    have QHF0 := HF0.out
    have QHE1 := HE1.out
    have QHE2 := HE2.out
    clear ixn hand0  hoh1 hoh2
    try simp only [bne_iff_ne, ne_eq, bne_eq_false_iff_eq] at *
    rw [Bool.eq_iff_iff]
    simp [begOk, tailsOk, valOf, ldM, mnOf, mxOf, rng]
    omega

set_option maxHeartbeats 4000000 in
set_option maxRecDepth 100000 in
theorem begins_3_2 (s : ByteArray) (hs : s.size = 2) (hn : szOf (bt s 0) = 3) (w : World) : Calls Try.prog 43 #[.string s] w fun e w' => e = .returned (.tuple #[.int .i64 3, .bool (begOk s 3 2)]) ∧ Below w.heap.size w w' := by
  have ixn := ix2
  have HN := Aside0.mk hn
  clear hn
  have hb0 := bt_lo s 0
  have hB0 := bt_hi s 0
  have hx0 : ∀ h : 0 < s.size, ((s[0]'h).toNat : Int) = bt s 0 := bt_at s 0
  have hb1 := bt_lo s 1
  have hB1 := bt_hi s 1
  have hx1 : ∀ h : 1 < s.size, ((s[1]'h).toNat : Int) = bt s 1 := bt_at s 1
  obtain ⟨f0, Ef0⟩ : ∃ x : Int, x = bt s 0 % 16 := ⟨_, rfl⟩
  have hand0 : Go.bits .and .u8 (bt s 0) 15 = f0 := by rw [Ef0]; exact u8_and15 _ hb0 (by omega)
  have F0 : 0 ≤ f0 := by omega
  have G0 : f0 < 16 := by omega
  have HF0 := Aside0.mk Ef0
  clear Ef0
  obtain ⟨c1, Ec1⟩ : ∃ x : Int, x = bt s 1 % 64 := ⟨_, rfl⟩
  have hand1 : Go.bits .and .u8 (bt s 1) 63 = c1 := by rw [Ec1]; exact u8_and63 _ hb1 (by omega)
  have C1 : 0 ≤ c1 := by omega
  have D1 : c1 < 64 := by omega
  have HC1 := Aside0.mk Ec1
  clear Ec1
  obtain ⟨v1, Ev1⟩ : ∃ x : Int, x = f0 * 64 + c1 := ⟨_, rfl⟩
  have hor1 : Go.bits .or .i32 (f0 * 64) c1 = v1 := by rw [Ev1]; exact i32_or6 _ _ (by omega) (by omega) (by omega) C1 D1
  have V1 : 0 ≤ v1 := by omega
  have W1 : v1 < 1024 := by omega
  have HV1 := Aside0.mk Ev1
  clear Ev1
  obtain ⟨hi2, Eh2⟩ : ∃ x : Int, x = v1 * 64 + 63 := ⟨_, rfl⟩
  have hoh2 : Go.bits .or .i32 (v1 * 64) 63 = hi2 := by rw [Eh2]; exact i32_or6 _ _ (by omega) (by omega) (by omega) (by omega) (by omega)
  have HL2 : 0 ≤ hi2 := by omega
  have HM2 : hi2 < 65536 := by omega
  have HE2 := Aside0.mk Eh2
  clear Eh2
  go_enter Try.func43, Try.ntmps43
  go_wp2_with (first | (go_at_call 50; refine (sizeOf_is _ _ (by omega) HN.out _).mono ?_; rintro e w1 ⟨rfl, hb1⟩) | (go_at_call 39; refine (classes_any _).mono ?_; rintro e w2 ⟨rfl, hb2⟩))
  go_quiet (fail)
  go_wp2
  refine wp_loop_rounds 3 ?_
  repeat any_goals (rw [rounds_succ]; go_wp2; all_goals (try (go_quiet (fail); go_wp2)))
  all_goals (try (go_quiet (fail); go_wp2))
  all_goals
    go_ret2
    refine ⟨ret_ib ?_, by repeat (first | exact below_step hb1 hb2 | apply below_alloc | apply pw_below_drewN | apply below_drew1)⟩
    have QHF0 := HF0.out
    have QHC1 := HC1.out
    have QHV1 := HV1.out
    have QHE2 := HE2.out
    clear ixn hand0 hand1 hor1 hoh2
    try simp only [bne_iff_ne, ne_eq, bne_eq_false_iff_eq] at *
    rw [Bool.eq_iff_iff]
    simp [begOk, tailsOk, valOf, ldM, mnOf, mxOf, rng]
    omega

set_option maxHeartbeats 4000000 in
set_option maxRecDepth 100000 in
theorem begins_3_3 (s : ByteArray) (hs : s.size = 3) (hn : szOf (bt s 0) = 3) (w : World) : Calls Try.prog 43 #[.string s] w fun e w' => e = .returned (.tuple #[.int .i64 3, .bool (begOk s 3 3)]) ∧ Below w.heap.size w w' := by
  have ixn := ix2
  have HN := Aside0.mk hn
  clear hn
  have hb0 := bt_lo s 0
  have hB0 := bt_hi s 0
  have hx0 : ∀ h : 0 < s.size, ((s[0]'h).toNat : Int) = bt s 0 := bt_at s 0
  have hb1 := bt_lo s 1
  have hB1 := bt_hi s 1
  have hx1 : ∀ h : 1 < s.size, ((s[1]'h).toNat : Int) = bt s 1 := bt_at s 1
  have hb2 := bt_lo s 2
  have hB2 := bt_hi s 2
  have hx2 : ∀ h : 2 < s.size, ((s[2]'h).toNat : Int) = bt s 2 := bt_at s 2
  obtain ⟨f0, Ef0⟩ : ∃ x : Int, x = bt s 0 % 16 := ⟨_, rfl⟩
  have hand0 : Go.bits .and .u8 (bt s 0) 15 = f0 := by rw [Ef0]; exact u8_and15 _ hb0 (by omega)
  have F0 : 0 ≤ f0 := by omega
  have G0 : f0 < 16 := by omega
  have HF0 := Aside0.mk Ef0
  clear Ef0
  obtain ⟨c1, Ec1⟩ : ∃ x : Int, x = bt s 1 % 64 := ⟨_, rfl⟩
  have hand1 : Go.bits .and .u8 (bt s 1) 63 = c1 := by rw [Ec1]; exact u8_and63 _ hb1 (by omega)
  have C1 : 0 ≤ c1 := by omega
  have D1 : c1 < 64 := by omega
  have HC1 := Aside0.mk Ec1
  clear Ec1
  obtain ⟨v1, Ev1⟩ : ∃ x : Int, x = f0 * 64 + c1 := ⟨_, rfl⟩
  have hor1 : Go.bits .or .i32 (f0 * 64) c1 = v1 := by rw [Ev1]; exact i32_or6 _ _ (by omega) (by omega) (by omega) C1 D1
  have V1 : 0 ≤ v1 := by omega
  have W1 : v1 < 1024 := by omega
  have HV1 := Aside0.mk Ev1
  clear Ev1
  obtain ⟨c2, Ec2⟩ : ∃ x : Int, x = bt s 2 % 64 := ⟨_, rfl⟩
  have hand2 : Go.bits .and .u8 (bt s 2) 63 = c2 := by rw [Ec2]; exact u8_and63 _ hb2 (by omega)
  have C2 : 0 ≤ c2 := by omega
  have D2 : c2 < 64 := by omega
  have HC2 := Aside0.mk Ec2
  clear Ec2
  obtain ⟨v2, Ev2⟩ : ∃ x : Int, x = v1 * 64 + c2 := ⟨_, rfl⟩
  have hor2 : Go.bits .or .i32 (v1 * 64) c2 = v2 := by rw [Ev2]; exact i32_or6 _ _ (by omega) (by omega) (by omega) C2 D2
  have V2 : 0 ≤ v2 := by omega
  have W2 : v2 < 65536 := by omega
  have HV2 := Aside0.mk Ev2
  clear Ev2
  go_enter Try.func43, Try.ntmps43
  go_wp2_with (first | (go_at_call 50; refine (sizeOf_is _ _ (by omega) HN.out _).mono ?_; rintro e w1 ⟨rfl, hb1⟩) | (go_at_call 39; refine (classes_any _).mono ?_; rintro e w2 ⟨rfl, hb2⟩))
  go_quiet (fail)
  go_wp2
  refine wp_loop_rounds 3 ?_
  repeat any_goals (rw [rounds_succ]; go_wp2; all_goals (try (go_quiet (fail); go_wp2)))
  all_goals (try (go_quiet (fail); go_wp2))
  all_goals
    go_ret2
    refine ⟨ret_ib ?_, by repeat (first | exact below_step hb1 hb2 | apply below_alloc | apply pw_below_drewN | apply below_drew1)⟩
    have QHF0 := HF0.out
    have QHC1 := HC1.out
    have QHV1 := HV1.out
    have QHC2 := HC2.out
    have QHV2 := HV2.out
    clear ixn hand0 hand1 hand2 hor1 hor2 
    try simp only [bne_iff_ne, ne_eq, bne_eq_false_iff_eq] at *
    rw [Bool.eq_iff_iff]
    simp [begOk, tailsOk, valOf, ldM, mnOf, mxOf, rng]
    omega

set_option maxHeartbeats 4000000 in
set_option maxRecDepth 100000 in
theorem begins_4_1 (s : ByteArray) (hs : s.size = 1) (hn : szOf (bt s 0) = 4) (w : World) : Calls Try.prog 43 #[.string s] w fun e w' => e = .returned (.tuple #[.int .i64 4, .bool (begOk s 4 1)]) ∧ Below w.heap.size w w' := by
  have ixn := ix3
  have HN := Aside0.mk hn
  clear hn
  have hb0 := bt_lo s 0
  have hB0 := bt_hi s 0
  have hx0 : ∀ h : 0 < s.size, ((s[0]'h).toNat : Int) = bt s 0 := bt_at s 0
  obtain ⟨f0, Ef0⟩ : ∃ x : Int, x = bt s 0 % 8 := ⟨_, rfl⟩
  have hand0 : Go.bits .and .u8 (bt s 0) 7 = f0 := by rw [Ef0]; exact u8_and7 _ hb0 (by omega)
  have F0 : 0 ≤ f0 := by omega
  have G0 : f0 < 8 := by omega
  have HF0 := Aside0.mk Ef0
  clear Ef0
  obtain ⟨hi1, Eh1⟩ : ∃ x : Int, x = f0 * 64 + 63 := ⟨_, rfl⟩
  have hoh1 : Go.bits .or .i32 (f0 * 64) 63 = hi1 := by rw [Eh1]; exact i32_or6 _ _ (by omega) (by omega) (by omega) (by omega) (by omega)
  have HL1 : 0 ≤ hi1 := by omega
  have HM1 : hi1 < 512 := by omega
  have HE1 := Aside0.mk Eh1
  clear Eh1
  obtain ⟨hi2, Eh2⟩ : ∃ x : Int, x = hi1 * 64 + 63 := ⟨_, rfl⟩
  have hoh2 : Go.bits .or .i32 (hi1 * 64) 63 = hi2 := by rw [Eh2]; exact i32_or6 _ _ (by omega) (by omega) (by omega) (by omega) (by omega)
  have HL2 : 0 ≤ hi2 := by omega
  have HM2 : hi2 < 32768 := by omega
  have HE2 := Aside0.mk Eh2
  clear Eh2
  obtain ⟨hi3, Eh3⟩ : ∃ x : Int, x = hi2 * 64 + 63 := ⟨_, rfl⟩
  have hoh3 : Go.bits .or .i32 (hi2 * 64) 63 = hi3 := by rw [Eh3]; exact i32_or6 _ _ (by omega) (by omega) (by omega) (by omega) (by omega)
  have HL3 : 0 ≤ hi3 := by omega
  have HM3 : hi3 < 2097152 := by omega
  have HE3 := Aside0.mk Eh3
  clear Eh3
  go_enter Try.func43, Try.ntmps43
  go_wp2_with (first | (go_at_call 50; refine (sizeOf_is _ _ (by omega) HN.out _).mono ?_; rintro e w1 ⟨rfl, hb1⟩) | (go_at_call 39; refine (classes_any _).mono ?_; rintro e w2 ⟨rfl, hb2⟩))
  go_quiet (fail)
  go_wp2
  refine wp_loop_rounds 4 ?_
  repeat any_goals (rw [rounds_succ]; go_wp2; all_goals (try (go_quiet (fail); go_wp2)))
  all_goals (try (go_quiet (fail); go_wp2))
  all_goals
    go_ret2
    refine ⟨ret_ib ?_, by repeat (first | exact below_step hb1 hb2 | apply below_alloc | apply pw_below_drewN | apply below_drew1)⟩
    have QHF0 := HF0.out
    have QHE1 := HE1.out
    have QHE2 := HE2.out
    have QHE3 := HE3.out
    clear ixn hand0  hoh1 hoh2 hoh3
    try simp only [bne_iff_ne, ne_eq, bne_eq_false_iff_eq] at *
    rw [Bool.eq_iff_iff]
    simp [begOk, tailsOk, valOf, ldM, mnOf, mxOf, rng]
    omega

set_option maxHeartbeats 4000000 in
set_option maxRecDepth 100000 in
theorem begins_4_2 (s : ByteArray) (hs : s.size = 2) (hn : szOf (bt s 0) = 4) (w : World) : Calls Try.prog 43 #[.string s] w fun e w' => e = .returned (.tuple #[.int .i64 4, .bool (begOk s 4 2)]) ∧ Below w.heap.size w w' := by
  have ixn := ix3
  have HN := Aside0.mk hn
  clear hn
  have hb0 := bt_lo s 0
  have hB0 := bt_hi s 0
  have hx0 : ∀ h : 0 < s.size, ((s[0]'h).toNat : Int) = bt s 0 := bt_at s 0
  have hb1 := bt_lo s 1
  have hB1 := bt_hi s 1
  have hx1 : ∀ h : 1 < s.size, ((s[1]'h).toNat : Int) = bt s 1 := bt_at s 1
  obtain ⟨f0, Ef0⟩ : ∃ x : Int, x = bt s 0 % 8 := ⟨_, rfl⟩
  have hand0 : Go.bits .and .u8 (bt s 0) 7 = f0 := by rw [Ef0]; exact u8_and7 _ hb0 (by omega)
  have F0 : 0 ≤ f0 := by omega
  have G0 : f0 < 8 := by omega
  have HF0 := Aside0.mk Ef0
  clear Ef0
  obtain ⟨c1, Ec1⟩ : ∃ x : Int, x = bt s 1 % 64 := ⟨_, rfl⟩
  have hand1 : Go.bits .and .u8 (bt s 1) 63 = c1 := by rw [Ec1]; exact u8_and63 _ hb1 (by omega)
  have C1 : 0 ≤ c1 := by omega
  have D1 : c1 < 64 := by omega
  have HC1 := Aside0.mk Ec1
  clear Ec1
  obtain ⟨v1, Ev1⟩ : ∃ x : Int, x = f0 * 64 + c1 := ⟨_, rfl⟩
  have hor1 : Go.bits .or .i32 (f0 * 64) c1 = v1 := by rw [Ev1]; exact i32_or6 _ _ (by omega) (by omega) (by omega) C1 D1
  have V1 : 0 ≤ v1 := by omega
  have W1 : v1 < 512 := by omega
  have HV1 := Aside0.mk Ev1
  clear Ev1
  obtain ⟨hi2, Eh2⟩ : ∃ x : Int, x = v1 * 64 + 63 := ⟨_, rfl⟩
  have hoh2 : Go.bits .or .i32 (v1 * 64) 63 = hi2 := by rw [Eh2]; exact i32_or6 _ _ (by omega) (by omega) (by omega) (by omega) (by omega)
  have HL2 : 0 ≤ hi2 := by omega
  have HM2 : hi2 < 32768 := by omega
  have HE2 := Aside0.mk Eh2
  clear Eh2
  obtain ⟨hi3, Eh3⟩ : ∃ x : Int, x = hi2 * 64 + 63 := ⟨_, rfl⟩
  have hoh3 : Go.bits .or .i32 (hi2 * 64) 63 = hi3 := by rw [Eh3]; exact i32_or6 _ _ (by omega) (by omega) (by omega) (by omega) (by omega)
  have HL3 : 0 ≤ hi3 := by omega
  have HM3 : hi3 < 2097152 := by omega
  have HE3 := Aside0.mk Eh3
  clear Eh3
  go_enter Try.func43, Try.ntmps43
  go_wp2_with (first | (go_at_call 50; refine (sizeOf_is _ _ (by omega) HN.out _).mono ?_; rintro e w1 ⟨rfl, hb1⟩) | (go_at_call 39; refine (classes_any _).mono ?_; rintro e w2 ⟨rfl, hb2⟩))
  go_quiet (fail)
  go_wp2
  refine wp_loop_rounds 4 ?_
  repeat any_goals (rw [rounds_succ]; go_wp2; all_goals (try (go_quiet (fail); go_wp2)))
  all_goals (try (go_quiet (fail); go_wp2))
  all_goals
    go_ret2
    refine ⟨ret_ib ?_, by repeat (first | exact below_step hb1 hb2 | apply below_alloc | apply pw_below_drewN | apply below_drew1)⟩
    have QHF0 := HF0.out
    have QHC1 := HC1.out
    have QHV1 := HV1.out
    have QHE2 := HE2.out
    have QHE3 := HE3.out
    clear ixn hand0 hand1 hor1 hoh2 hoh3
    try simp only [bne_iff_ne, ne_eq, bne_eq_false_iff_eq] at *
    rw [Bool.eq_iff_iff]
    simp [begOk, tailsOk, valOf, ldM, mnOf, mxOf, rng]
    omega

set_option maxHeartbeats 4000000 in
set_option maxRecDepth 100000 in
theorem begins_4_3 (s : ByteArray) (hs : s.size = 3) (hn : szOf (bt s 0) = 4) (w : World) : Calls Try.prog 43 #[.string s] w fun e w' => e = .returned (.tuple #[.int .i64 4, .bool (begOk s 4 3)]) ∧ Below w.heap.size w w' := by
  have ixn := ix3
  have HN := Aside0.mk hn
  clear hn
  have hb0 := bt_lo s 0
  have hB0 := bt_hi s 0
  have hx0 : ∀ h : 0 < s.size, ((s[0]'h).toNat : Int) = bt s 0 := bt_at s 0
  have hb1 := bt_lo s 1
  have hB1 := bt_hi s 1
  have hx1 : ∀ h : 1 < s.size, ((s[1]'h).toNat : Int) = bt s 1 := bt_at s 1
  have hb2 := bt_lo s 2
  have hB2 := bt_hi s 2
  have hx2 : ∀ h : 2 < s.size, ((s[2]'h).toNat : Int) = bt s 2 := bt_at s 2
  obtain ⟨f0, Ef0⟩ : ∃ x : Int, x = bt s 0 % 8 := ⟨_, rfl⟩
  have hand0 : Go.bits .and .u8 (bt s 0) 7 = f0 := by rw [Ef0]; exact u8_and7 _ hb0 (by omega)
  have F0 : 0 ≤ f0 := by omega
  have G0 : f0 < 8 := by omega
  have HF0 := Aside0.mk Ef0
  clear Ef0
  obtain ⟨c1, Ec1⟩ : ∃ x : Int, x = bt s 1 % 64 := ⟨_, rfl⟩
  have hand1 : Go.bits .and .u8 (bt s 1) 63 = c1 := by rw [Ec1]; exact u8_and63 _ hb1 (by omega)
  have C1 : 0 ≤ c1 := by omega
  have D1 : c1 < 64 := by omega
  have HC1 := Aside0.mk Ec1
  clear Ec1
  obtain ⟨v1, Ev1⟩ : ∃ x : Int, x = f0 * 64 + c1 := ⟨_, rfl⟩
  have hor1 : Go.bits .or .i32 (f0 * 64) c1 = v1 := by rw [Ev1]; exact i32_or6 _ _ (by omega) (by omega) (by omega) C1 D1
  have V1 : 0 ≤ v1 := by omega
  have W1 : v1 < 512 := by omega
  have HV1 := Aside0.mk Ev1
  clear Ev1
  obtain ⟨c2, Ec2⟩ : ∃ x : Int, x = bt s 2 % 64 := ⟨_, rfl⟩
  have hand2 : Go.bits .and .u8 (bt s 2) 63 = c2 := by rw [Ec2]; exact u8_and63 _ hb2 (by omega)
  have C2 : 0 ≤ c2 := by omega
  have D2 : c2 < 64 := by omega
  have HC2 := Aside0.mk Ec2
  clear Ec2
  obtain ⟨v2, Ev2⟩ : ∃ x : Int, x = v1 * 64 + c2 := ⟨_, rfl⟩
  have hor2 : Go.bits .or .i32 (v1 * 64) c2 = v2 := by rw [Ev2]; exact i32_or6 _ _ (by omega) (by omega) (by omega) C2 D2
  have V2 : 0 ≤ v2 := by omega
  have W2 : v2 < 32768 := by omega
  have HV2 := Aside0.mk Ev2
  clear Ev2
  obtain ⟨hi3, Eh3⟩ : ∃ x : Int, x = v2 * 64 + 63 := ⟨_, rfl⟩
  have hoh3 : Go.bits .or .i32 (v2 * 64) 63 = hi3 := by rw [Eh3]; exact i32_or6 _ _ (by omega) (by omega) (by omega) (by omega) (by omega)
  have HL3 : 0 ≤ hi3 := by omega
  have HM3 : hi3 < 2097152 := by omega
  have HE3 := Aside0.mk Eh3
  clear Eh3
  go_enter Try.func43, Try.ntmps43
  go_wp2_with (first | (go_at_call 50; refine (sizeOf_is _ _ (by omega) HN.out _).mono ?_; rintro e w1 ⟨rfl, hb1⟩) | (go_at_call 39; refine (classes_any _).mono ?_; rintro e w2 ⟨rfl, hb2⟩))
  go_quiet (fail)
  go_wp2
  refine wp_loop_rounds 4 ?_
  repeat any_goals (rw [rounds_succ]; go_wp2; all_goals (try (go_quiet (fail); go_wp2)))
  all_goals (try (go_quiet (fail); go_wp2))
  all_goals
    go_ret2
    refine ⟨ret_ib ?_, by repeat (first | exact below_step hb1 hb2 | apply below_alloc | apply pw_below_drewN | apply below_drew1)⟩
    have QHF0 := HF0.out
    have QHC1 := HC1.out
    have QHV1 := HV1.out
    have QHC2 := HC2.out
    have QHV2 := HV2.out
    have QHE3 := HE3.out
    clear ixn hand0 hand1 hand2 hor1 hor2 hoh3
    try simp only [bne_iff_ne, ne_eq, bne_eq_false_iff_eq] at *
    rw [Bool.eq_iff_iff]
    simp [begOk, tailsOk, valOf, ldM, mnOf, mxOf, rng]
    omega

set_option maxHeartbeats 4000000 in
set_option maxRecDepth 100000 in
theorem begins_4_4 (s : ByteArray) (hs : s.size = 4) (hn : szOf (bt s 0) = 4) (w : World) : Calls Try.prog 43 #[.string s] w fun e w' => e = .returned (.tuple #[.int .i64 4, .bool (begOk s 4 4)]) ∧ Below w.heap.size w w' := by
  have ixn := ix3
  have HN := Aside0.mk hn
  clear hn
  have hb0 := bt_lo s 0
  have hB0 := bt_hi s 0
  have hx0 : ∀ h : 0 < s.size, ((s[0]'h).toNat : Int) = bt s 0 := bt_at s 0
  have hb1 := bt_lo s 1
  have hB1 := bt_hi s 1
  have hx1 : ∀ h : 1 < s.size, ((s[1]'h).toNat : Int) = bt s 1 := bt_at s 1
  have hb2 := bt_lo s 2
  have hB2 := bt_hi s 2
  have hx2 : ∀ h : 2 < s.size, ((s[2]'h).toNat : Int) = bt s 2 := bt_at s 2
  have hb3 := bt_lo s 3
  have hB3 := bt_hi s 3
  have hx3 : ∀ h : 3 < s.size, ((s[3]'h).toNat : Int) = bt s 3 := bt_at s 3
  obtain ⟨f0, Ef0⟩ : ∃ x : Int, x = bt s 0 % 8 := ⟨_, rfl⟩
  have hand0 : Go.bits .and .u8 (bt s 0) 7 = f0 := by rw [Ef0]; exact u8_and7 _ hb0 (by omega)
  have F0 : 0 ≤ f0 := by omega
  have G0 : f0 < 8 := by omega
  have HF0 := Aside0.mk Ef0
  clear Ef0
  obtain ⟨c1, Ec1⟩ : ∃ x : Int, x = bt s 1 % 64 := ⟨_, rfl⟩
  have hand1 : Go.bits .and .u8 (bt s 1) 63 = c1 := by rw [Ec1]; exact u8_and63 _ hb1 (by omega)
  have C1 : 0 ≤ c1 := by omega
  have D1 : c1 < 64 := by omega
  have HC1 := Aside0.mk Ec1
  clear Ec1
  obtain ⟨v1, Ev1⟩ : ∃ x : Int, x = f0 * 64 + c1 := ⟨_, rfl⟩
  have hor1 : Go.bits .or .i32 (f0 * 64) c1 = v1 := by rw [Ev1]; exact i32_or6 _ _ (by omega) (by omega) (by omega) C1 D1
  have V1 : 0 ≤ v1 := by omega
  have W1 : v1 < 512 := by omega
  have HV1 := Aside0.mk Ev1
  clear Ev1
  obtain ⟨c2, Ec2⟩ : ∃ x : Int, x = bt s 2 % 64 := ⟨_, rfl⟩
  have hand2 : Go.bits .and .u8 (bt s 2) 63 = c2 := by rw [Ec2]; exact u8_and63 _ hb2 (by omega)
  have C2 : 0 ≤ c2 := by omega
  have D2 : c2 < 64 := by omega
  have HC2 := Aside0.mk Ec2
  clear Ec2
  obtain ⟨v2, Ev2⟩ : ∃ x : Int, x = v1 * 64 + c2 := ⟨_, rfl⟩
  have hor2 : Go.bits .or .i32 (v1 * 64) c2 = v2 := by rw [Ev2]; exact i32_or6 _ _ (by omega) (by omega) (by omega) C2 D2
  have V2 : 0 ≤ v2 := by omega
  have W2 : v2 < 32768 := by omega
  have HV2 := Aside0.mk Ev2
  clear Ev2
  obtain ⟨c3, Ec3⟩ : ∃ x : Int, x = bt s 3 % 64 := ⟨_, rfl⟩
  have hand3 : Go.bits .and .u8 (bt s 3) 63 = c3 := by rw [Ec3]; exact u8_and63 _ hb3 (by omega)
  have C3 : 0 ≤ c3 := by omega
  have D3 : c3 < 64 := by omega
  have HC3 := Aside0.mk Ec3
  clear Ec3
  obtain ⟨v3, Ev3⟩ : ∃ x : Int, x = v2 * 64 + c3 := ⟨_, rfl⟩
  have hor3 : Go.bits .or .i32 (v2 * 64) c3 = v3 := by rw [Ev3]; exact i32_or6 _ _ (by omega) (by omega) (by omega) C3 D3
  have V3 : 0 ≤ v3 := by omega
  have W3 : v3 < 2097152 := by omega
  have HV3 := Aside0.mk Ev3
  clear Ev3
  go_enter Try.func43, Try.ntmps43
  go_wp2_with (first | (go_at_call 50; refine (sizeOf_is _ _ (by omega) HN.out _).mono ?_; rintro e w1 ⟨rfl, hb1⟩) | (go_at_call 39; refine (classes_any _).mono ?_; rintro e w2 ⟨rfl, hb2⟩))
  go_quiet (fail)
  go_wp2
  refine wp_loop_rounds 4 ?_
  repeat any_goals (rw [rounds_succ]; go_wp2; all_goals (try (go_quiet (fail); go_wp2)))
  all_goals (try (go_quiet (fail); go_wp2))
  all_goals
    go_ret2
    refine ⟨ret_ib ?_, by repeat (first | exact below_step hb1 hb2 | apply below_alloc | apply pw_below_drewN | apply below_drew1)⟩
    have QHF0 := HF0.out
    have QHC1 := HC1.out
    have QHV1 := HV1.out
    have QHC2 := HC2.out
    have QHV2 := HV2.out
    have QHC3 := HC3.out
    have QHV3 := HV3.out
    clear ixn hand0 hand1 hand2 hand3 hor1 hor2 hor3 
    try simp only [bne_iff_ne, ne_eq, bne_eq_false_iff_eq] at *
    rw [Bool.eq_iff_iff]
    simp [begOk, tailsOk, valOf, ldM, mnOf, mxOf, rng]
    omega

set_option maxHeartbeats 1000000 in
set_option maxRecDepth 100000 in
theorem begins_0 (s : ByteArray) (hs : 0 < s.size) (hn : szOf (bt s 0) = 0) (w : World) : Calls Try.prog 43 #[.string s] w fun e w' => e = .returned (.tuple #[.int .i64 0, .bool false]) ∧ Below w.heap.size w w' := by
  have HN := Aside0.mk hn
  clear hn
  have hx0 : ∀ h : 0 < s.size, ((s[0]'h).toNat : Int) = bt s 0 := bt_at s 0
  have hb0 := bt_lo s 0
  go_enter Try.func43, Try.ntmps43
  go_wp2_with (first | (go_at_call 50; refine (sizeOf_is _ _ (by omega) HN.out _).mono ?_; rintro e w1 ⟨rfl, hb1⟩) | (go_at_call 39; refine (classes_any _).mono ?_; rintro e w2 ⟨rfl, hb2⟩))
  go_ret2
  exact ⟨rfl, hb1⟩
set_option maxHeartbeats 1000000 in
set_option maxRecDepth 100000 in
theorem begins_long (s : ByteArray) (n : Nat) (hs : n < s.size) (h1 : 1 ≤ n) (h4 : n ≤ 4) (hn : szOf (bt s 0) = n) (w : World) : Calls Try.prog 43 #[.string s] w fun e w' => e = .returned (.tuple #[.int .i64 n, .bool false]) ∧ Below w.heap.size w w' := by
  have HN := Aside0.mk hn
  clear hn
  have hx0 : ∀ h : 0 < s.size, ((s[0]'h).toNat : Int) = bt s 0 := bt_at s 0
  have hb0 := bt_lo s 0
  have hp : 0 < s.size := by omega
  have hz : ((n : Int) == 0) = false := by rw [beq_eq_false_iff_ne]; omega
  have hd : decide (n < s.size) = true := by simpa using hs
  go_enter Try.func43, Try.ntmps43
  go_wp2_with (first | (go_at_call 50; refine (sizeOf_is _ _ (by omega) HN.out _).mono ?_; rintro e w1 ⟨rfl, hb1⟩) | (go_at_call 39; refine (classes_any _).mono ?_; rintro e w2 ⟨rfl, hb2⟩))
  go_ret2
  exact ⟨rfl, hb1⟩

/-- What begins answers: the size, and whether the bytes begin an encoding. -/
def begP (s : ByteArray) : Int × Bool :=
  let n := (szOf (bt s 0)).toNat
  (n, if n = 0 ∨ n < s.size then false else begOk s n s.size)
theorem szOf_cases (b : Int) : szOf b = 0 ∨ szOf b = 1 ∨ szOf b = 2 ∨ szOf b = 3 ∨ szOf b = 4 := by
  unfold szOf
  repeat' split
  all_goals simp
theorem begins_any (s : ByteArray) (hs : 0 < s.size) (w : World) : Calls Try.prog 43 #[.string s] w fun e w' => e = .returned (.tuple #[.int .i64 (begP s).1, .bool (begP s).2]) ∧ Below w.heap.size w w' := by
  by_cases h0 : szOf (bt s 0) = 0
  · have e : begP s = (0, false) := by simp [begP, h0]
    rw [e]; exact begins_0 s hs h0 w
  · obtain ⟨n, hn⟩ : ∃ n : Nat, szOf (bt s 0) = n := by
      rcases szOf_cases (bt s 0) with h | h | h | h | h
      · exact absurd h h0
      · exact ⟨1, h⟩
      · exact ⟨2, h⟩
      · exact ⟨3, h⟩
      · exact ⟨4, h⟩
    have hc := szOf_cases (bt s 0)
    have h1 : 1 ≤ n := by omega
    have h4 : n ≤ 4 := by omega
    by_cases hl : n < s.size
    · have e : begP s = ((n : Int), false) := by simp [begP, hn, hl]
      rw [e]; exact begins_long s n hl h1 h4 hn w
    · have e : begP s = ((n : Int), begOk s n s.size) := by
        have : ¬ n = 0 := by omega
        simp [begP, hn, hl, this]
      rw [e]
      clear e
      have hL : s.size ≤ n := by omega
      generalize hq : s.size = L at *
      have hcases : (n = 1 ∧ L = 1) ∨ (n = 2 ∧ L = 1) ∨ (n = 2 ∧ L = 2) ∨ (n = 3 ∧ L = 1) ∨ (n = 3 ∧ L = 2) ∨ (n = 3 ∧ L = 3) ∨ (n = 4 ∧ L = 1) ∨ (n = 4 ∧ L = 2) ∨ (n = 4 ∧ L = 3) ∨ (n = 4 ∧ L = 4) := by omega
      rcases hcases with ⟨rfl, rfl⟩ | ⟨rfl, rfl⟩ | ⟨rfl, rfl⟩ | ⟨rfl, rfl⟩ | ⟨rfl, rfl⟩ | ⟨rfl, rfl⟩ | ⟨rfl, rfl⟩ | ⟨rfl, rfl⟩ | ⟨rfl, rfl⟩ | ⟨rfl, rfl⟩
      · exact begins_1_1 s hq hn w
      · exact begins_2_1 s hq hn w
      · exact begins_2_2 s hq hn w
      · exact begins_3_1 s hq hn w
      · exact begins_3_2 s hq hn w
      · exact begins_3_3 s hq hn w
      · exact begins_4_1 s hq hn w
      · exact begins_4_2 s hq hn w
      · exact begins_4_3 s hq hn w
      · exact begins_4_4 s hq hn w
#print axioms begins_any
end Go.Proofs.Ytpjiidcnbceffaa.UA
