/- For any string Decode agrees with the reference, and the encoding of what it returns is the beginning of the string. No condition. -/
import Derived.Test.YtpjiidcnbceffaaQx3
import Derived.Test.YtpjiidcnbceffaaY
namespace Go.Proofs.Ytpjiidcnbceffaa.Pure
open Go.RowKit Go.Proofs.Ytpjiidcnbceffaa.Q Go.Proofs.YtpjiidcnbceffaaW.PrintWords Go.Proofs.YtpjiidcnbceffaaW.PrintLast Go.Proofs.Ytpjiidcnbceffaa.UA
set_option linter.unusedVariables false
set_option linter.unusedSimpArgs false

theorem pos_of_toList (s : ByteArray) (h : ¬ s.toList = []) : 0 < s.size := by
  rw [ByteArray.toList_eq] at h
  rcases Nat.eq_zero_or_pos s.size with h0 | h0
  · exact absurd (by rw [ByteArray.size_eq_zero_iff.1 h0]; rfl) h
  · exact h0

/-- The first eight bytes tell. -/
theorem fst_eight (s : ByteArray) (hs : 0 < s.size) : fstP (s.extract 0 (min s.size 8)) = fstP s := by
  by_cases h8 : s.size ≤ 8
  · rw [Nat.min_eq_left h8]
    congr 1
    apply ByteArray.ext
    simp
  · rw [Nat.min_eq_right (by omega)]
    obtain ⟨n, hz, h4⟩ := szOf_nat (bt s 0)
    have hx : bt (s.extract 0 8) 0 = bt s 0 := bt_extract s 8 0 (by omega) (by omega)
    have hsz : (s.extract 0 8).size = 8 := by simp; omega
    have he : (s.extract 0 8).extract 0 n = s.extract 0 n := by
      rw [ByteArray.extract_extract]; congr 1; omega
    simp only [fstP, hx, hz, Int.toNat_natCast, he, hsz]
    by_cases h0 : n = 0
    · rw [if_pos h0, if_pos h0]
    · have a1 : ¬ 8 < n := by omega
      have a2 : ¬ s.size < n := by omega
      simp only [if_neg h0, if_neg a1, if_neg a2]
      by_cases hb : (begP (s.extract 0 n)).2 = true
      · rw [if_pos hb, if_pos hb, valOf_extract _ s 8 (by omega) (n - 1) (by omega)]
      · rw [if_neg hb, if_neg hb]

theorem fst_range (s : ByteArray) : 0 ≤ (fstP s).1 ∧ (fstP s).1 ≤ 33554431 := by
  obtain ⟨n, hz, h4⟩ := szOf_nat (bt s 0)
  have hb := bt_lo s 0
  unfold fstP
  simp only [hz, Int.toNat_natCast]
  repeat' split
  all_goals simp only
  all_goals first
    | (refine valOf_small _ s ?_ ?_ (n - 1) (by omega) <;> (unfold ldM; repeat' split) <;> omega)
    | omega

theorem Utf8Decode : bulletinlaw03_Utf8Decode.Pure := by
  intro s hsz
  refine ⟨500, ?_⟩
  unfold bulletinlaw03_Utf8Decode.f
  rw [known_eq 500 (by omega)]
  simp only [Option.bind_some, if_true]
  unfold utf8_Decode.f
  by_cases he : s.toList = []
  · rw [if_pos he]
    simp only [Option.bind_some]
    rw [if_pos he]; rfl
  · have hs := pos_of_toList s he
    rw [if_neg he]
    have h0 : utf8_first.f s = some (fstP s) := by unfold utf8_first.f; rw [if_pos hs]
    rw [h0]
    simp only [Option.bind_some]
    rw [if_neg he]
    have e : mn (s.size : Int) 8 = ((min s.size 8 : Nat) : Int) := by unfold mn; split <;> omega
    rw [e, if_pos (by omega), if_pos (by omega), Int.toNat_natCast, first_same _ (by simp; omega) 500 (by omega), fst_eight s hs]
    simp only [Option.bind_some]
    have hr := fst_range s
    rw [w64 _ (by omega), if_pos rfl]
    simp only [if_true]
    obtain ⟨r, n, er, hf⟩ : ∃ r n er, fstP s = (r, n, er) := ⟨_, _, _, rfl⟩
    rw [hf]
    simp only
    by_cases h1 : er = 0
    · subst h1
      obtain ⟨hc, hn, hl, hb⟩ := fst_dec s r n hf
      have hx := fst_bytes s r n hf
      unfold utf8_Encode.f
      rw [if_pos hc]
      simp only [Option.bind_some, if_true]
      rw [if_pos (by omega), if_pos (by omega), hx]
      simp
    · have : ∃ x, utf8_Encode.f r = some x := by
        unfold utf8_Encode.f; split <;> exact ⟨_, rfl⟩
      obtain ⟨x, hx⟩ := this
      rw [hx]
      simp only [Option.bind_some]
      rw [if_neg h1]

end Go.Proofs.Ytpjiidcnbceffaa.Pure
