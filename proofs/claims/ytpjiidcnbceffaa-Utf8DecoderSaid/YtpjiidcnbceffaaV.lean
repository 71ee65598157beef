/- The reference's First answers as utf8.first does. Condition: the string is not empty, and there are 20 rounds. -/
import Derived.Test.YtpjiidcnbceffaaU
namespace Go.Proofs.Ytpjiidcnbceffaa.UA
open Go Go.RowKit Go.Proofs.YtpjiidcnbceffaaW.PrintWords Go.Proofs.YtpjiidcnbceffaaW.PrintLast Go.Proofs.YtpjiidcnbceffaaW.PrintMore Go.Proofs.Ytpjiidcnbceffaa.Q
set_option linter.unusedVariables false
set_option linter.unusedSimpArgs false

/-- What begins and the reference's Begins both come to. -/
def begR (s : ByteArray) : Bool × Int × Int := if (begP s).2 = true then (true, (begP s).1, valOf (bt s 0 % ldM (szOf (bt s 0)).toNat) s (s.size - 1)) else (false, 0, 0)

theorem rng_false {lo hi : Int} (h : hi < lo) : rng lo hi = false := by simp [rng]; omega

set_option maxHeartbeats 1000000 in
theorem refB_same (s : ByteArray) (hs : 0 < s.size) (n : Nat) (h1 : 1 ≤ n) (h4 : n ≤ 4) (hz : szOf (bt s 0) = n) (hl : leadP (bt s 0) = ((n : Int), bt s 0 % ldM n)) : refB s = begR s := by
  unfold refB begR begP begOk
  simp only [hz, hl, Int.toNat_natCast]
  by_cases h : n = 0 ∨ n < s.size
  · rw [if_pos h, if_pos h]; rfl
  · rw [if_neg h, if_neg h]
    by_cases ht : tailsOk s (s.size - 1) = true
    · simp only [ht, Bool.true_and, true_and]; rfl
    · simp only [ht, Bool.false_and, false_and, if_false]; rfl

set_option maxHeartbeats 1000000 in
theorem refB_none (s : ByteArray) (hs : 0 < s.size) (hz : szOf (bt s 0) = 0) : refB s = begR s := by
  have hb := bt_lo s 0
  have hB := bt_hi s 0
  have e : begR s = (false, 0, 0) := by simp [begR, begP, hz]
  rw [e]
  have hc : 128 ≤ bt s 0 := by
    rcases Int.lt_or_le (bt s 0) 128 with h | h
    · unfold szOf at hz; rw [if_pos (by omega)] at hz; omega
    · exact h
  by_cases h1 : bt s 0 < 192
  · have hl : leadP (bt s 0) = (0, 0) := by unfold leadP; rw [if_neg (by omega), if_pos h1]
    simp [refB, hl]
  by_cases h2 : bt s 0 < 194
  · have hl : leadP (bt s 0) = (2, bt s 0 - 192) := by unfold leadP; rw [if_neg (by omega), if_neg (by omega), if_pos (by omega)]
    simp only [refB, hl]
    rw [show (2 : Int).toNat = 2 from rfl]
    by_cases h : 2 < s.size
    · rw [if_pos (Or.inr h)]
    · rw [if_neg (by omega)]
      have hr : rng (mx (valOf (bt s 0 - 192) s (s.size - 1) * 64 ^ (2 - s.size)) (mnOf 2)) (mn (valOf (bt s 0 - 192) s (s.size - 1) * 64 ^ (2 - s.size) + (64 ^ (2 - s.size) - 1)) (mxOf 2)) = false := by
        have hcs : s.size = 1 ∨ s.size = 2 := by omega
        apply rng_false
        rcases hcs with h | h <;> rw [h] <;> simp [valOf, mx, mn, mnOf, mxOf]
        · omega
        · have := bt_lo s 1; have := bt_hi s 1; omega
      rw [if_neg (by rw [hr]; simp)]
  by_cases h3 : bt s 0 < 245
  · exfalso
    unfold szOf at hz
    rw [if_neg (by omega), if_neg (by omega)] at hz
    split at hz
    · omega
    · split at hz
      · omega
      · rw [if_pos (by omega)] at hz; omega
  by_cases h5 : bt s 0 < 248
  · have hl : leadP (bt s 0) = (4, bt s 0 - 240) := by unfold leadP; rw [if_neg (by omega), if_neg (by omega), if_neg (by omega), if_neg (by omega), if_pos (by omega)]
    simp only [refB, hl]
    rw [show (4 : Int).toNat = 4 from rfl]
    by_cases h : 4 < s.size
    · rw [if_pos (Or.inr h)]
    · rw [if_neg (by omega)]
      have hr : rng (mx (valOf (bt s 0 - 240) s (s.size - 1) * 64 ^ (4 - s.size)) (mnOf 4)) (mn (valOf (bt s 0 - 240) s (s.size - 1) * 64 ^ (4 - s.size) + (64 ^ (4 - s.size) - 1)) (mxOf 4)) = false := by
        have hcs : s.size = 1 ∨ s.size = 2 ∨ s.size = 3 ∨ s.size = 4 := by omega
        apply rng_false
        have a1 := bt_lo s 1; have a2 := bt_lo s 2; have a3 := bt_lo s 3
        rcases hcs with h | h | h | h <;> rw [h] <;> simp [valOf, mx, mn, mnOf, mxOf]
        all_goals omega
      rw [if_neg (by rw [hr]; simp)]
  · have hl : leadP (bt s 0) = (0, 0) := by unfold leadP; rw [if_neg (by omega), if_neg (by omega), if_neg (by omega), if_neg (by omega), if_neg (by omega)]
    simp [refB, hl]

theorem szOf_lead (c : Int) (h0 : 0 ≤ c) (n : Nat) (h1 : 1 ≤ n) (hz : szOf c = n) : leadP c = ((n : Int), c % ldM n) := by
  unfold szOf at hz
  unfold leadP
  split at hz
  · obtain rfl : n = 1 := by omega
    rw [if_pos (by omega)]; simp [ldM]; omega
  split at hz
  · omega
  split at hz
  · obtain rfl : n = 2 := by omega
    rw [if_neg (by omega), if_neg (by omega), if_pos (by omega)]; simp [ldM]; omega
  split at hz
  · obtain rfl : n = 3 := by omega
    rw [if_neg (by omega), if_neg (by omega), if_neg (by omega), if_pos (by omega)]; simp [ldM]; omega
  split at hz
  · obtain rfl : n = 4 := by omega
    rw [if_neg (by omega), if_neg (by omega), if_neg (by omega), if_neg (by omega), if_pos (by omega)]; simp [ldM]; omega
  · omega

theorem szOf_nat (b : Int) : ∃ n : Nat, szOf b = n ∧ n ≤ 4 := by
  rcases szOf_cases b with h | h | h | h | h
  · exact ⟨0, h, by omega⟩
  · exact ⟨1, h, by omega⟩
  · exact ⟨2, h, by omega⟩
  · exact ⟨3, h, by omega⟩
  · exact ⟨4, h, by omega⟩

theorem begins_same (s : ByteArray) (hs : 0 < s.size) (k : Nat) (hk : 20 ≤ k) : bulletinref03_Begins.f k s = some (begR s) := by
  rw [begins_eq s hs k hk]
  obtain ⟨n, hz, h4⟩ := szOf_nat (bt s 0)
  by_cases h0 : n = 0
  · subst h0; rw [refB_none s hs hz]
  · rw [refB_same s hs n (by omega) h4 hz (szOf_lead _ (bt_lo s 0) n (by omega) hz)]

/-- One byte that begins something. -/
theorem beg1 (s : ByteArray) (hs : s.size = 1) (n : Nat) (h1 : 1 ≤ n) (h4 : n ≤ 4) (hz : szOf (bt s 0) = n) : begOk s n 1 = true := by
  have hb := bt_lo s 0
  have hc : (n = 1 ∧ bt s 0 ≤ 127) ∨ (n = 2 ∧ 194 ≤ bt s 0 ∧ bt s 0 ≤ 223) ∨ (n = 3 ∧ 224 ≤ bt s 0 ∧ bt s 0 ≤ 239) ∨ (n = 4 ∧ 240 ≤ bt s 0 ∧ bt s 0 ≤ 244) := by
    unfold szOf at hz
    repeat' split at hz
    all_goals omega
  rcases hc with ⟨rfl, h⟩ | ⟨rfl, h, h'⟩ | ⟨rfl, h, h'⟩ | ⟨rfl, h, h'⟩ <;> simp [begOk, tailsOk, valOf, ldM, mnOf, mxOf, rng] <;> omega

theorem valOf_extract (f0 : Int) (s : ByteArray) (n : Nat) (hn : n ≤ s.size) : ∀ j : Nat, j < n → valOf f0 (s.extract 0 n) j = valOf f0 s j := by
  intro j
  induction j with
  | zero => intro _; rfl
  | succ j ih =>
    intro hj
    rw [valOf, valOf, ih (by omega)]
    have := bt_extract s n (j + 1) hj hn
    have e : ((j + 1 : Nat) : Int) = (j : Int) + 1 := by omega
    rw [e] at this
    rw [this]

set_option maxHeartbeats 1000000 in
theorem first_same (s : ByteArray) (hs : 0 < s.size) (k : Nat) (hk : 20 ≤ k) : bulletinref03_First.f k s = some (fstP s) := by
  obtain ⟨n, hz, h4⟩ := szOf_nat (bt s 0)
  have hs1 : (s.extract 0 1).size = 1 := by simp; omega
  have hx1 : bt (s.extract 0 1) 0 = bt s 0 := bt_extract s 1 0 (by omega) (by omega)
  unfold bulletinref03_First.f
  rw [if_pos (by omega), if_pos (by omega), begins_same _ (by omega) k hk]
  simp only [Option.bind_some]
  by_cases h0 : n = 0
  · subst h0
    have e1 : begR (s.extract 0 1) = (false, 0, 0) := by simp [begR, begP, hx1, hz]
    have e2 : fstP s = (0, 0, 6) := by simp [fstP, hz]
    rw [e1, e2]; rfl
  · have e1 : begR (s.extract 0 1) = (true, (n : Int), valOf (bt s 0 % ldM n) (s.extract 0 1) 0) := by
      have hb : (begP (s.extract 0 1)) = ((n : Int), true) := by
        simp only [begP, hx1, hz, Int.toNat_natCast]
        rw [if_neg (by rw [hs1]; omega), hs1, beg1 _ hs1 n (by omega) h4 (by rw [hx1]; exact hz)]
      simp only [begR, hb, hx1, hz, if_true, Int.toNat_natCast, hs1, Nat.sub_self]
    rw [e1]
    simp only [if_true]
    by_cases hl : s.size < n
    · rw [if_neg (by omega), begins_same s hs k hk]
      simp only [Option.bind_some]
      have e2 : fstP s = (0, 0, if (begP s).2 = true then 23 else 3) := by
        simp only [fstP, hz, Int.toNat_natCast]; rw [if_neg h0, if_pos hl]; split <;> rfl
      rw [e2]
      unfold begR
      split <;> simp
    · have hsn : (s.extract 0 n).size = n := by simp; omega
      have hx : bt (s.extract 0 n) 0 = bt s 0 := bt_extract s n 0 (by omega) (by omega)
      rw [if_pos (by omega), if_pos (by omega), if_pos (by omega), Int.toNat_natCast, begins_same _ (by omega) k hk]
      simp only [Option.bind_some]
      cases hb : (begP (s.extract 0 n)).2 with
      | false =>
        have e2 : fstP s = (0, 0, 3) := by
          simp only [fstP, hz, Int.toNat_natCast]; rw [if_neg h0, if_neg hl, hb]; rfl
        rw [e2]; simp [begR, hb]
      | true =>
        have e2 : fstP s = (valOf (bt s 0 % ldM n) s (n - 1), (n : Int), 0) := by
          simp only [fstP, hz, Int.toNat_natCast]; rw [if_neg h0, if_neg hl, hb]; rfl
        rw [e2]
        have h1 : (begP (s.extract 0 n)).1 = n := by simp [begP, hx, hz]
        simp only [begR, hb, if_true, hx, hz, Int.toNat_natCast, hsn]
        rw [valOf_extract _ s n (by omega) (n - 1) (by omega)]
#print axioms first_same
end Go.Proofs.Ytpjiidcnbceffaa.UA
