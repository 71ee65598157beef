/- The reference's Begins as one plain function. Condition: the string is not empty, and there are 20 rounds. -/
import Derived.Test.YtpjiidcnbceffaaQx2
namespace Go.Proofs.Ytpjiidcnbceffaa.UA
open Go Go.RowKit Go.Proofs.YtpjiidcnbceffaaW.PrintWords Go.Proofs.YtpjiidcnbceffaaW.PrintLast Go.Proofs.YtpjiidcnbceffaaW.PrintMore Go.Proofs.Ytpjiidcnbceffaa.Q
set_option linter.unusedVariables false
set_option linter.unusedSimpArgs false

theorem w64 (x : Int) (h : -9223372036854775808 ≤ x ∧ x ≤ 9223372036854775807) : wrap64 x = x := by unfold wrap64; omega

/-- The reference's first byte. -/
def leadP (c : Int) : Int × Int :=
  if c < 128 then (1, c) else if c < 192 then (0, 0) else if c < 224 then (2, c - 192) else if c < 240 then (3, c - 224) else if c < 248 then (4, c - 240) else (0, 0)
theorem lead_eq (c : Int) (h0 : 0 ≤ c) (h1 : c ≤ 255) (k : Nat) (hk : 3 ≤ k) : bulletinref03_lead.f k c = some (leadP c) := by
  obtain ⟨k, rfl⟩ : ∃ m, k = m + 3 := ⟨k - 3, by omega⟩
  have e1 := w64 c (by omega)
  unfold bulletinref03_lead.f leadP
  by_cases h : c < 128
  · rw [if_pos h, if_pos h, e1]
  rw [if_neg h, if_neg h]
  by_cases h2 : c < 192
  · rw [if_neg (by omega), if_pos h2]
    simp only [bulletinref03_lead.j0]
    rw [if_neg (by decide), if_neg (by omega)]
    simp only [bulletinref03_lead.j1]
    rw [if_neg (by decide), if_neg (by omega)]
  rw [if_pos (by omega), if_neg h2]
  by_cases h3 : c < 224
  · simp only [bulletinref03_lead.j0]
    rw [if_pos (by simpa using h3), if_pos h3, e1, w64 _ (by omega)]
  rw [if_neg h3]
  simp only [bulletinref03_lead.j0]
  rw [if_neg (by simpa using h3), if_pos (by omega)]
  by_cases h4 : c < 240
  · simp only [bulletinref03_lead.j1]
    rw [if_pos (by simpa using h4), if_pos h4, e1, w64 _ (by omega)]
  rw [if_neg h4]
  simp only [bulletinref03_lead.j1]
  rw [if_neg (by simpa using h4), if_pos (by omega)]
  by_cases h5 : c < 248
  · rw [if_pos h5, if_pos h5, e1, w64 _ (by omega)]
  · rw [if_neg h5, if_neg h5]

theorem least_eq (n : Nat) (h1 : 1 ≤ n) (h4 : n ≤ 4) : bulletinref03_least.f n = some (mnOf n) := by
  have : n = 1 ∨ n = 2 ∨ n = 3 ∨ n = 4 := by omega
  rcases this with rfl | rfl | rfl | rfl <;> decide
theorem most_eq (n : Nat) (h1 : 1 ≤ n) (h4 : n ≤ 4) : bulletinref03_most.f n = some (mxOf n) := by
  have : n = 1 ∨ n = 2 ∨ n = 3 ∨ n = 4 := by omega
  rcases this with rfl | rfl | rfl | rfl <;> decide

theorem tailsOk_le (s : ByteArray) : ∀ (m j : Nat), j ≤ m → tailsOk s m = true → tailsOk s j = true := by
  intro m
  induction m with
  | zero => intro j hj h; obtain rfl : j = 0 := by omega
            exact h
  | succ m ih =>
    intro j hj h
    by_cases e : j = m + 1
    · subst e; exact h
    · rw [tailsOk, Bool.and_eq_true] at h
      exact ih j (by omega) h.1
theorem valOf_bd (f0 : Int) (s : ByteArray) (h0 : 0 ≤ f0) (h1 : f0 ≤ 127) : ∀ j : Nat, 0 ≤ valOf f0 s j ∧ valOf f0 s j ≤ 128 * 64 ^ j - 1 := by
  intro j
  induction j with
  | zero => simp [valOf]; omega
  | succ j ih =>
    rw [valOf, Int.pow_succ]
    omega

theorem valOf_small (f0 : Int) (s : ByteArray) (h0 : 0 ≤ f0) (h1 : f0 ≤ 127) (j : Nat) (hj : j ≤ 3) : 0 ≤ valOf f0 s j ∧ valOf f0 s j ≤ 33554431 := by
  have h := valOf_bd f0 s h0 h1 j
  have : j = 0 ∨ j = 1 ∨ j = 2 ∨ j = 3 := by omega
  rcases this with rfl | rfl | rfl | rfl <;> (refine ⟨h.1, Int.le_trans h.2 (by decide)⟩)
/-- The tails, one after the other. -/
theorem begins_l0 (s : ByteArray) (n : Nat) (f0 : Int) (hf0 : 0 ≤ f0) (hf1 : f0 ≤ 127) (hs : s.size ≤ 4) (d : Nat) : ∀ (i : Nat), 1 ≤ i → i + d = s.size → tailsOk s (i - 1) = true → ∀ k : Nat,
    bulletinref03_Begins.l0 (k + d + 1) s n (valOf f0 s (i - 1)) i = if tailsOk s (s.size - 1) = true then bulletinref03_Begins.l1 k n (valOf f0 s (s.size - 1)) (valOf f0 s (s.size - 1)) (valOf f0 s (s.size - 1)) s.size else some (false, 0, 0) := by
  induction d with
  | zero =>
    intro i hi hd ht k
    obtain rfl : i = s.size := by omega
    rw [if_pos ht]
    rw [bulletinref03_Begins.l0]
    rw [if_neg (by omega)]
  | succ d ih =>
    intro i hi hd ht k
    obtain ⟨j, rfl⟩ : ∃ j, i = j + 1 := ⟨i - 1, by omega⟩
    have hb := bt_lo s (j + 1 : Nat)
    have hB := bt_hi s (j + 1 : Nat)
    have hv := valOf_small f0 s hf0 hf1 j (by omega)
    rw [show k + (d + 1) + 1 = (k + d + 1) + 1 from rfl]
    rw [bulletinref03_Begins.l0]
    rw [if_pos (by omega), if_pos (by omega)]
    by_cases htail : bt s (j + 1 : Nat) / 64 = 2
    · rw [if_neg (by omega), if_neg (by omega)]
      have e : wrap64 (wrap64 (wrap64 (64 * valOf f0 s (j + 1 - 1)) + wrap64 (bt s (j + 1 : Nat))) - 128) = valOf f0 s (j + 1) := by
        simp only [Nat.add_sub_cancel]
        rw [w64 (64 * _) (by omega), w64 (bt _ _) (by omega), w64 (_ + _) (by omega), w64 _ (by omega), valOf]
        have : bt s ((j : Int) + 1) = bt s (j + 1 : Nat) := by simp
        rw [this]; omega
      have e2 : wrap64 (((j + 1 : Nat) : Int) + 1) = ((j + 1 + 1 : Nat) : Int) := by rw [w64 _ (by omega)]; omega
      rw [e, e2]
      have := ih (j + 1 + 1) (by omega) (by omega) (by
        simp only [Nat.add_sub_cancel] at ht ⊢
        rw [tailsOk, ht, Bool.true_and, decide_eq_true_iff]
        simpa using htail) k
      simpa using this
    · have hf : tailsOk s (s.size - 1) = false := by
        cases hq : tailsOk s (s.size - 1) with
        | false => rfl
        | true =>
          have := tailsOk_le s (s.size - 1) (j + 1) (by omega) hq
          rw [tailsOk, Bool.and_eq_true, decide_eq_true_iff] at this
          exact absurd (by simpa using this.2) htail
      rw [hf]
      by_cases h1 : bt s (j + 1 : Nat) < 128
      · rw [if_pos h1]; rfl
      · rw [if_neg h1, if_pos (by omega)]; rfl

theorem fin_eq {α : Type} (a b : Int) (F T : α) : (if a ≥ 55296 then (if b ≤ 57343 then F else (if a > b then F else T)) else (if a > b then F else T)) = if rng a b = true then T else F := by
  unfold rng
  by_cases c1 : 55296 ≤ a
  · rw [if_pos (by omega)]
    by_cases c2 : b ≤ 57343
    · rw [if_pos c2, if_neg (by simp [c1, c2])]
    · rw [if_neg c2]
      by_cases c3 : a ≤ b
      · rw [if_neg (by omega), if_pos (by simp [c2, c3])]
      · rw [if_pos (by omega), if_neg (by simp [c3])]
  · rw [if_neg (by omega)]
    by_cases c3 : a ≤ b
    · rw [if_neg (by omega), if_pos (by simp [c1, c3])]
    · rw [if_pos (by omega), if_neg (by simp [c3])]

/-- The range that is left, byte by byte. -/
theorem begins_l1 (n : Nat) (h1 : 1 ≤ n) (h4 : n ≤ 4) (v : Int) (d : Nat) : ∀ (i : Nat) (lo hi : Int), i + d = n → 0 ≤ lo → lo ≤ hi → hi < 128 * 64 ^ (i - 1) → 1 ≤ i → ∀ k : Nat,
    bulletinref03_Begins.l1 (k + d + 1) n v lo hi i = if rng (mx (lo * 64 ^ d) (mnOf n)) (mn (hi * 64 ^ d + (64 ^ d - 1)) (mxOf n)) = true then some (true, (n : Int), v) else some (false, 0, 0) := by
  induction d with
  | zero =>
    intro i lo hi hd hlo hlh hhi hi1 k
    obtain rfl : i = n := by omega
    rw [bulletinref03_Begins.l1]
    rw [if_neg (by omega), least_eq i h1 h4, most_eq i h1 h4]
    simp only [Option.bind_some, Int.pow_zero, Int.mul_one, Int.sub_self, Int.add_zero]
    exact fin_eq _ _ _ _
  | succ d ih =>
    intro i lo hi hd hlo hlh hhi hi1 k
    obtain ⟨j, rfl⟩ : ∃ j, i = j + 1 := ⟨i - 1, by omega⟩
    rw [Nat.add_sub_cancel] at hhi
    have hhi2 : 64 * hi + 63 < 128 * 64 ^ (j + 1 + 1 - 1) := by
      rw [Nat.add_sub_cancel, Int.pow_succ]; omega
    have hsm : hi < 524288 := by
      have : j = 0 ∨ j = 1 ∨ j = 2 := by omega
      rcases this with rfl | rfl | rfl <;> (refine Int.lt_of_lt_of_le hhi (by decide))
    clear hhi
    rw [show k + (d + 1) + 1 = (k + d + 1) + 1 from rfl]
    rw [bulletinref03_Begins.l1]
    rw [if_pos (by omega)]
    have e : wrap64 (((j + 1 : Nat) : Int) + 1) = ((j + 1 + 1 : Nat) : Int) := by rw [w64 _ (by omega)]; omega
    rw [w64 (64 * lo) (by omega), w64 (64 * hi) (by omega), w64 (64 * hi + 63) (by omega), e]
    rw [ih (j + 1 + 1) (64 * lo) (64 * hi + 63) (by omega) (by omega) (by omega) hhi2 (by omega) k]
    have e1 : 64 * lo * 64 ^ d = lo * 64 ^ (d + 1) := by rw [Int.pow_succ, Int.mul_comm 64 lo, Int.mul_assoc, Int.mul_comm 64]
    have e2 : (64 * hi + 63) * 64 ^ d + (64 ^ d - 1) = hi * 64 ^ (d + 1) + (64 ^ (d + 1) - 1) := by
      rw [Int.pow_succ, Int.add_mul, Int.mul_comm 64 hi, Int.mul_assoc, Int.mul_comm 64]
      omega
    rw [e1, e2]

/-- The reference's Begins. -/
def refB (s : ByteArray) : Bool × Int × Int :=
  let n := (leadP (bt s 0)).1.toNat
  let v := valOf (leadP (bt s 0)).2 s (s.size - 1)
  let p : Int := 64 ^ (n - s.size)
  if n = 0 ∨ n < s.size then (false, 0, 0)
  else if tailsOk s (s.size - 1) = true ∧ rng (mx (v * p) (mnOf n)) (mn (v * p + (p - 1)) (mxOf n)) = true then (true, n, v) else (false, 0, 0)

set_option maxHeartbeats 1000000 in
theorem begins_eq (s : ByteArray) (hs : 0 < s.size) (k : Nat) (hk : 20 ≤ k) : bulletinref03_Begins.f k s = some (refB s) := by
  have hb := bt_lo s 0
  have hB := bt_hi s 0
  obtain ⟨n, hn⟩ : ∃ n : Nat, (leadP (bt s 0)).1 = n := by
    unfold leadP
    repeat' split
    · exact ⟨1, rfl⟩
    · exact ⟨0, rfl⟩
    · exact ⟨2, rfl⟩
    · exact ⟨3, rfl⟩
    · exact ⟨4, rfl⟩
    · exact ⟨0, rfl⟩
  have hv0 : 0 ≤ (leadP (bt s 0)).2 ∧ (leadP (bt s 0)).2 ≤ 127 ∧ n ≤ 4 := by
    revert hn
    unfold leadP
    repeat' split
    all_goals (simp only; omega)
  unfold bulletinref03_Begins.f refB
  rw [if_pos (by omega), lead_eq _ hb hB k (by omega)]
  simp only [Option.bind_some, hn, Int.toNat_natCast]
  by_cases h0 : n = 0
  · subst h0
    rw [if_pos (by simp), if_pos (Or.inl rfl)]
    obtain ⟨k, rfl⟩ : ∃ m, k = m + 1 := ⟨k - 1, by omega⟩
    simp [bulletinref03_Begins.j0]
  · rw [if_neg (by omega)]
    by_cases hl : n < s.size
    · rw [if_pos (Or.inr hl)]
      obtain ⟨k, rfl⟩ : ∃ m, k = m + 1 := ⟨k - 1, by omega⟩
      simp only [bulletinref03_Begins.j0]
      rw [if_pos (by simp; omega)]
    · rw [if_neg (by simp [h0, hl])]
      have hd : decide ((s.size : Int) > n) = false := by simp; omega
      rw [hd]
      obtain ⟨m, rfl⟩ : ∃ m, k = ((m + (n - s.size) + 1) + (s.size - 1) + 1) + 1 := ⟨k - (n - s.size) - (s.size - 1) - 3, by omega⟩
      simp only [bulletinref03_Begins.j0]
      rw [if_neg (by decide)]
      have h := begins_l0 s n (leadP (bt s 0)).2 hv0.1 hv0.2.1 (by omega) (s.size - 1) 1 (Nat.le_refl _) (by omega) rfl (m + (n - s.size) + 1)
      simp only [Nat.sub_self, valOf] at h
      rw [show ((1 : Nat) : Int) = 1 from rfl] at h
      rw [h]
      have hvb := valOf_bd (leadP (bt s 0)).2 s hv0.1 hv0.2.1 (s.size - 1)
      by_cases ht : tailsOk s (s.size - 1) = true
      · rw [if_pos ht, begins_l1 n (by omega) hv0.2.2 _ (n - s.size) s.size _ _ (by omega) hvb.1 (Int.le_refl _) (by have := hvb.2; omega) (by omega) m]
        by_cases hr : rng (mx (valOf (leadP (bt s 0)).2 s (s.size - 1) * 64 ^ (n - s.size)) (mnOf n)) (mn (valOf (leadP (bt s 0)).2 s (s.size - 1) * 64 ^ (n - s.size) + (64 ^ (n - s.size) - 1)) (mxOf n)) = true
        · rw [if_pos hr, if_pos ⟨ht, hr⟩]
        · rw [if_neg hr, if_neg (fun h => hr h.2)]
      · rw [if_neg ht, if_neg (fun h => ht h.1)]
#print axioms begins_eq
end Go.Proofs.Ytpjiidcnbceffaa.UA
