/- What is decoded is encoded as the bytes that were decoded, and the other way round. Conditions: a code point; a string that is not empty. -/
import Derived.Test.YtpjiidcnbceffaaX
namespace Go.Proofs.Ytpjiidcnbceffaa.UA
open Go Go.RowKit Go.Proofs.YtpjiidcnbceffaaW.PrintWords Go.Proofs.YtpjiidcnbceffaaW.PrintLast Go.Proofs.YtpjiidcnbceffaaW.PrintMore Go.Proofs.Ytpjiidcnbceffaa.Q
set_option linter.unusedVariables false
set_option linter.unusedSimpArgs false

theorem bt_get (s : ByteArray) (i : Nat) (h : i < s.size) : bt s i = ((s[i]'h).toNat : Int) := by
  unfold bt; rw [dif_pos (by simpa using h)]; simp
theorem ba_ext {a b : ByteArray} (h : a.size = b.size) (h2 : ∀ i : Nat, i < a.size → bt a i = bt b i) : a = b := by
  apply ByteArray.ext
  apply Array.ext
  · exact h
  · intro i h1 h3
    have := h2 i h1
    rw [bt_get a i h1, bt_get b i h3] at this
    have e : (a[i]'h1).toNat = (b[i]'h3).toNat := by omega
    exact UInt8.toNat_inj.1 e
theorem bt_app_left (a b : ByteArray) (i : Nat) (h : i < a.size) : bt (a ++ b) i = bt a i := by
  rw [bt_get (a ++ b) i (by simp only [ByteArray.size_append]; omega), bt_get a i h, ByteArray.getElem_append_left h]
theorem bt_app_right (a b : ByteArray) (i : Nat) (h1 : a.size ≤ i) (h : i < a.size + b.size) : bt (a ++ b) i = bt b (i - a.size : Nat) := by
  rw [bt_get (a ++ b) i (by simp only [ByteArray.size_append]; omega), bt_get b _ (by omega), ByteArray.getElem_append_right h1]
theorem bt_nums (l : List Int) (hl : ∀ x ∈ l, 0 ≤ x ∧ x ≤ 255) (i : Nat) (h : i < l.length) : bt (strOfNums l) i = l[i] := by
  have hs : i < (strOfNums l).size := by rw [strOfNums_size]; exact h
  rw [bt_get _ i hs]
  have hx := hl l[i] (List.getElem_mem h)
  have e : (strOfNums l)[i]'hs = UInt8.ofNat (l[i]).toNat := by
    show (strOfNums l).data[i]'_ = _
    simp [strOfNums]
  rw [e]
  simp
  omega

theorem encN_cases (r : Int) (hr : isCp r = true) :
    (r ≤ 127 ∧ encN r = [r]) ∨ (128 ≤ r ∧ r ≤ 2047 ∧ encN r = [192 + r / 64, 128 + r % 64]) ∨ (2048 ≤ r ∧ r ≤ 65535 ∧ encN r = [224 + r / 64 / 64, 128 + r / 64 % 64, 128 + r % 64]) ∨ (65536 ≤ r ∧ encN r = [240 + r / 64 / 64 / 64, 128 + r / 64 / 64 % 64, 128 + r / 64 % 64, 128 + r % 64]) := by
  unfold encN
  by_cases h1 : r ≤ 127
  · exact Or.inl ⟨h1, if_pos h1⟩
  rw [if_neg h1]
  by_cases h2 : r ≤ 2047
  · exact Or.inr (Or.inl ⟨by omega, h2, if_pos h2⟩)
  rw [if_neg h2]
  by_cases h3 : r ≤ 65535
  · exact Or.inr (Or.inr (Or.inl ⟨by omega, h3, if_pos h3⟩))
  · exact Or.inr (Or.inr (Or.inr ⟨by omega, if_neg h3⟩))
theorem isCp_iff (r : Int) : isCp r = true ↔ 0 ≤ r ∧ r ≤ 1114111 ∧ (r < 55296 ∨ 57343 < r) := by
  simp [isCp]; omega
theorem encN_byte (r : Int) (hr : isCp r = true) : ∀ x ∈ encN r, 0 ≤ x ∧ x ≤ 255 := by
  have h := (isCp_iff r).1 hr
  rcases encN_cases r hr with ⟨_, e⟩ | ⟨_, _, e⟩ | ⟨_, _, e⟩ | ⟨_, e⟩ <;> rw [e] <;> intro x hx <;> simp at hx <;> omega

theorem begOk_is (s : ByteArray) (n : Nat) (hs : s.size = n) (h1 : 1 ≤ n) (hz : szOf (bt s 0) = n) (h : begOk s n n = true) : begP s = ((n : Int), true) := by
  simp only [begP, hz, Int.toNat_natCast]
  rw [if_neg (by omega), hs, h]

/-- A string that begins with an encoding. -/
theorem fst_enc (r : Int) (hr : isCp r = true) (s : ByteArray) (hl : (encN r).length ≤ s.size) (hb : ∀ i : Nat, (h : i < (encN r).length) → bt s i = (encN r)[i]) : fstP s = (r, ((encN r).length : Int), 0) := by
  have hc := (isCp_iff r).1 hr
  have key : ∀ n : Nat, (encN r).length = n → 1 ≤ n → szOf (bt s 0) = n → begOk (s.extract 0 n) n n = true → valOf (bt s 0 % ldM n) s (n - 1) = r → fstP s = (r, ((encN r).length : Int), 0) := by
    intro n hn h1 hz hk hv
    have hsn : (s.extract 0 n).size = n := by simp; omega
    have hx : bt (s.extract 0 n) 0 = bt s 0 := bt_extract s n 0 (by omega) (by omega)
    have hB := begOk_is (s.extract 0 n) n hsn h1 (by rw [hx]; exact hz) hk
    simp only [fstP, hz, Int.toNat_natCast]
    rw [if_neg (by omega), if_neg (by omega), hB, if_pos rfl, hv, hn]
  rcases encN_cases r hr with ⟨hr1, e⟩ | ⟨hr1, hr2, e⟩ | ⟨hr1, hr2, e⟩ | ⟨hr1, e⟩
  · have hl' : (encN r).length = 1 := by rw [e]; rfl
    have b0 := hb 0 (by omega)
    simp only [e, List.getElem_cons_zero] at b0
    have b0 : bt s 0 = r := b0
    have x0 := bt_extract s 1 0 (by omega) (by omega)
    have x0 : bt (s.extract 0 1) 0 = bt s 0 := x0
    refine key 1 hl' (by omega) ?_ ?_ ?_
    · rw [b0]; unfold szOf; rw [if_pos hr1]; rfl
    · simp [begOk, tailsOk, valOf, ldM, mnOf, mxOf, rng]; omega
    · simp [valOf, ldM]; omega
  · have hl' : (encN r).length = 2 := by rw [e]; rfl
    have b0 := hb 0 (by omega)
    have b1 := hb 1 (by omega)
    simp only [e, List.getElem_cons_zero, List.getElem_cons_succ] at b0 b1
    have b0 : bt s 0 = 192 + r / 64 := b0
    have b1 : bt s 1 = 128 + r % 64 := b1
    have x0 : bt (s.extract 0 2) 0 = bt s 0 := bt_extract s 2 0 (by omega) (by omega)
    have x1 : bt (s.extract 0 2) 1 = bt s 1 := bt_extract s 2 1 (by omega) (by omega)
    refine key 2 hl' (by omega) ?_ ?_ ?_
    · rw [b0]; unfold szOf; rw [if_neg (by omega), if_neg (by omega), if_pos (by omega)]; rfl
    · simp [begOk, tailsOk, valOf, ldM, mnOf, mxOf, rng]; omega
    · simp [valOf, ldM]; omega
  · have hl' : (encN r).length = 3 := by rw [e]; rfl
    have b0 := hb 0 (by omega)
    have b1 := hb 1 (by omega)
    have b2 := hb 2 (by omega)
    simp only [e, List.getElem_cons_zero, List.getElem_cons_succ] at b0 b1 b2
    have b0 : bt s 0 = 224 + r / 64 / 64 := b0
    have b1 : bt s 1 = 128 + r / 64 % 64 := b1
    have b2 : bt s 2 = 128 + r % 64 := b2
    have x0 : bt (s.extract 0 3) 0 = bt s 0 := bt_extract s 3 0 (by omega) (by omega)
    have x1 : bt (s.extract 0 3) 1 = bt s 1 := bt_extract s 3 1 (by omega) (by omega)
    have x2 : bt (s.extract 0 3) 2 = bt s 2 := bt_extract s 3 2 (by omega) (by omega)
    refine key 3 hl' (by omega) ?_ ?_ ?_
    · rw [b0]; unfold szOf; rw [if_neg (by omega), if_neg (by omega), if_neg (by omega), if_pos (by omega)]; rfl
    · simp [begOk, tailsOk, valOf, ldM, mnOf, mxOf, rng]; omega
    · simp [valOf, ldM]; omega
  · have hl' : (encN r).length = 4 := by rw [e]; rfl
    have b0 := hb 0 (by omega)
    have b1 := hb 1 (by omega)
    have b2 := hb 2 (by omega)
    have b3 := hb 3 (by omega)
    simp only [e, List.getElem_cons_zero, List.getElem_cons_succ] at b0 b1 b2 b3
    have b0 : bt s 0 = 240 + r / 64 / 64 / 64 := b0
    have b1 : bt s 1 = 128 + r / 64 / 64 % 64 := b1
    have b2 : bt s 2 = 128 + r / 64 % 64 := b2
    have b3 : bt s 3 = 128 + r % 64 := b3
    have x0 : bt (s.extract 0 4) 0 = bt s 0 := bt_extract s 4 0 (by omega) (by omega)
    have x1 : bt (s.extract 0 4) 1 = bt s 1 := bt_extract s 4 1 (by omega) (by omega)
    have x2 : bt (s.extract 0 4) 2 = bt s 2 := bt_extract s 4 2 (by omega) (by omega)
    have x3 : bt (s.extract 0 4) 3 = bt s 3 := bt_extract s 4 3 (by omega) (by omega)
    refine key 4 hl' (by omega) ?_ ?_ ?_
    · rw [b0]; unfold szOf; rw [if_neg (by omega), if_neg (by omega), if_neg (by omega), if_neg (by omega), if_pos (by omega)]; rfl
    · simp [begOk, tailsOk, valOf, ldM, mnOf, mxOf, rng]; omega
    · simp [valOf, ldM]; omega

theorem szOf_inv1 (b : Int) (hz : szOf b = 1) : b ≤ 127 := by
  unfold szOf at hz
  repeat' split at hz
  all_goals omega
theorem szOf_inv2 (b : Int) (hz : szOf b = 2) : 194 ≤ b ∧ b ≤ 223 := by
  unfold szOf at hz
  repeat' split at hz
  all_goals omega
theorem szOf_inv3 (b : Int) (hz : szOf b = 3) : 224 ≤ b ∧ b ≤ 239 := by
  unfold szOf at hz
  repeat' split at hz
  all_goals omega
theorem szOf_inv4 (b : Int) (hz : szOf b = 4) : 240 ≤ b ∧ b ≤ 244 := by
  unfold szOf at hz
  repeat' split at hz
  all_goals omega
/-- What first takes off is an encoding. -/
theorem fst_dec (s : ByteArray) (r n : Int) (h : fstP s = (r, n, 0)) : isCp r = true ∧ n = ((encN r).length : Int) ∧ (encN r).length ≤ s.size ∧ ∀ i : Nat, (hi : i < (encN r).length) → bt s i = (encN r)[i] := by
  obtain ⟨m, hz, h4⟩ := szOf_nat (bt s 0)
  simp only [fstP, hz, Int.toNat_natCast] at h
  by_cases h0 : m = 0
  · rw [if_pos h0] at h; simp at h
  rw [if_neg h0] at h
  by_cases hl : s.size < m
  · rw [if_pos hl] at h; split at h <;> simp at h
  rw [if_neg hl] at h
  by_cases hb : (begP (s.extract 0 m)).2 = true
  · rw [if_pos hb] at h
    simp only [Prod.mk.injEq, and_true] at h
    obtain ⟨hr, hn⟩ := h
    have hsn : (s.extract 0 m).size = m := by simp; omega
    have x0 : bt (s.extract 0 m) 0 = bt s 0 := bt_extract s m 0 (by omega) (by omega)
    simp only [begP, x0, hz, Int.toNat_natCast, hsn] at hb
    rw [if_neg (by omega)] at hb
    have B0 := bt_lo s 0
    have B1 := bt_lo s 1
    have B2 := bt_lo s 2
    have B3 := bt_lo s 3
    have U1 := bt_hi s 1
    have U2 := bt_hi s 2
    have U3 := bt_hi s 3
    have hcs : m = 1 ∨ m = 2 ∨ m = 3 ∨ m = 4 := by omega
    rcases hcs with rfl | rfl | rfl | rfl
    · have z := szOf_inv1 _ hz
      simp [valOf, ldM] at hr
      have hr' : r = bt s 0 := by omega
      have e : encN r = [r] := by unfold encN; rw [if_pos (by omega)]
      refine ⟨(isCp_iff r).2 (by omega), by rw [e, ← hn]; rfl, by rw [e]; simp; omega, ?_⟩
      intro i hi
      rw [e] at hi
      obtain rfl : i = 0 := by simpa using hi
      simp only [e, List.getElem_cons_zero]; exact hr'.symm
    · have z := szOf_inv2 _ hz
      have x1 : bt (s.extract 0 2) 1 = bt s 1 := bt_extract s 2 1 (by omega) (by omega)
      simp [begOk, tailsOk, valOf, ldM, mnOf, mxOf, rng, x0, x1] at hb
      simp [valOf, ldM] at hr
      have e : encN r = [192 + r / 64, 128 + r % 64] := by unfold encN; rw [if_neg (by omega), if_pos (by omega)]
      refine ⟨(isCp_iff r).2 (by omega), by rw [e, ← hn]; rfl, by rw [e]; simp; omega, ?_⟩
      intro i hi
      rw [e] at hi
      have : i = 0 ∨ i = 1 := by simp at hi; omega
      rcases this with rfl | rfl
      · simp only [e, List.getElem_cons_zero]; show bt s 0 = _; omega
      · simp only [e, List.getElem_cons_zero, List.getElem_cons_succ]; show bt s 1 = _; omega
    · have z := szOf_inv3 _ hz
      have x1 : bt (s.extract 0 3) 1 = bt s 1 := bt_extract s 3 1 (by omega) (by omega)
      have x2 : bt (s.extract 0 3) 2 = bt s 2 := bt_extract s 3 2 (by omega) (by omega)
      simp [begOk, tailsOk, valOf, ldM, mnOf, mxOf, rng, x0, x1, x2] at hb
      simp [valOf, ldM] at hr
      have e : encN r = [224 + r / 64 / 64, 128 + r / 64 % 64, 128 + r % 64] := by unfold encN; rw [if_neg (by omega), if_neg (by omega), if_pos (by omega)]
      refine ⟨(isCp_iff r).2 (by omega), by rw [e, ← hn]; rfl, by rw [e]; simp; omega, ?_⟩
      intro i hi
      rw [e] at hi
      have : i = 0 ∨ i = 1 ∨ i = 2 := by simp at hi; omega
      rcases this with rfl | rfl | rfl
      · simp only [e, List.getElem_cons_zero]; show bt s 0 = _; omega
      · simp only [e, List.getElem_cons_zero, List.getElem_cons_succ]; show bt s 1 = _; omega
      · simp only [e, List.getElem_cons_zero, List.getElem_cons_succ]; show bt s 2 = _; omega
    · have z := szOf_inv4 _ hz
      have x1 : bt (s.extract 0 4) 1 = bt s 1 := bt_extract s 4 1 (by omega) (by omega)
      have x2 : bt (s.extract 0 4) 2 = bt s 2 := bt_extract s 4 2 (by omega) (by omega)
      have x3 : bt (s.extract 0 4) 3 = bt s 3 := bt_extract s 4 3 (by omega) (by omega)
      simp [begOk, tailsOk, valOf, ldM, mnOf, mxOf, rng, x0, x1, x2, x3] at hb
      simp [valOf, ldM] at hr
      have e : encN r = [240 + r / 64 / 64 / 64, 128 + r / 64 / 64 % 64, 128 + r / 64 % 64, 128 + r % 64] := by unfold encN; rw [if_neg (by omega), if_neg (by omega), if_neg (by omega)]
      refine ⟨(isCp_iff r).2 (by omega), by rw [e, ← hn]; rfl, by rw [e]; simp; omega, ?_⟩
      intro i hi
      rw [e] at hi
      have : i = 0 ∨ i = 1 ∨ i = 2 ∨ i = 3 := by simp at hi; omega
      rcases this with rfl | rfl | rfl | rfl
      · simp only [e, List.getElem_cons_zero]; show bt s 0 = _; omega
      · simp only [e, List.getElem_cons_zero, List.getElem_cons_succ]; show bt s 1 = _; omega
      · simp only [e, List.getElem_cons_zero, List.getElem_cons_succ]; show bt s 2 = _; omega
      · simp only [e, List.getElem_cons_zero, List.getElem_cons_succ]; show bt s 3 = _; omega
  · rw [if_neg hb] at h; simp at h

/-- The bytes that first takes off, as a string. -/
theorem fst_bytes (s : ByteArray) (r n : Int) (h : fstP s = (r, n, 0)) : strOfNums (encN r) = s.extract 0 n.toNat := by
  obtain ⟨hr, hn, hl, hb⟩ := fst_dec s r n h
  subst hn
  rw [Int.toNat_natCast]
  apply ba_ext
  · rw [strOfNums_size]; simp; omega
  · intro i hi
    rw [strOfNums_size] at hi
    rw [bt_nums _ (encN_byte r hr) i hi, bt_extract s _ i hi hl, hb i hi]
end Go.Proofs.Ytpjiidcnbceffaa.UA
