/- A beginning of a valid string: Check finds no error but a last code point that is cut short; what remains is valid. No condition. -/
import Derived.Test.YtpjiidcnbceffaaH
namespace Go.Proofs.Ytpjiidcnbceffaa.UA
open Go Go.RowKit Go.Proofs.YtpjiidcnbceffaaW.PrintWords Go.Proofs.YtpjiidcnbceffaaW.PrintLast Go.Proofs.YtpjiidcnbceffaaW.PrintMore Go.Proofs.Ytpjiidcnbceffaa.Q
set_option linter.unusedVariables false
set_option linter.unusedSimpArgs false

theorem fst_part (r : Int) (hr : isCp r = true) (s : ByteArray) (h1 : 1 ≤ s.size) (hl : s.size < (encN r).length) (hb : ∀ i : Nat, (h : i < (encN r).length) → i < s.size → bt s i = (encN r)[i]) : (fstP s).2.2 = 23 := by
  have hc := (isCp_iff r).1 hr
  have key : ∀ n L : Nat, s.size = L → L < n → 1 ≤ L → szOf (bt s 0) = n → begOk s n L = true → (fstP s).2.2 = 23 := by
    intro n L hL hn hL1 hz hk
    have hB : (begP s).2 = true := by
      simp only [begP, hz, Int.toNat_natCast]
      rw [if_neg (by omega), hL, hk]
    simp only [fstP, hz, Int.toNat_natCast]
    rw [if_neg (by omega), if_pos (by omega), if_pos hB]
  have b0 := hb 0 (by omega) (by omega)
  rcases encN_cases r hr with ⟨hr1, e⟩ | ⟨hr1, hr2, e⟩ | ⟨hr1, hr2, e⟩ | ⟨hr1, e⟩
  · have hl' : (encN r).length = 1 := by rw [e]; rfl
    omega
  · have hl' : (encN r).length = 2 := by rw [e]; rfl
    simp only [e, List.getElem_cons_zero] at b0
    have b0 : bt s 0 = 192 + r / 64 := b0
    refine key 2 1 (by omega) (by omega) (by omega) ?_ ?_
    · rw [b0]; unfold szOf; rw [if_neg (by omega), if_neg (by omega), if_pos (by omega)]; rfl
    · simp [begOk, tailsOk, valOf, ldM, mnOf, mxOf, rng]; omega
  · have hl' : (encN r).length = 3 := by rw [e]; rfl
    simp only [e, List.getElem_cons_zero] at b0
    have b0 : bt s 0 = 224 + r / 64 / 64 := b0
    have hz : szOf (bt s 0) = 3 := by rw [b0]; unfold szOf; rw [if_neg (by omega), if_neg (by omega), if_neg (by omega), if_pos (by omega)]
    by_cases h2 : s.size = 1
    · refine key 3 1 h2 (by omega) (by omega) hz ?_
      simp [begOk, tailsOk, valOf, ldM, mnOf, mxOf, rng]; omega
    · have b1 := hb 1 (by omega) (by omega)
      simp only [e, List.getElem_cons_zero, List.getElem_cons_succ] at b1
      have b1 : bt s 1 = 128 + r / 64 % 64 := b1
      refine key 3 2 (by omega) (by omega) (by omega) hz ?_
      simp [begOk, tailsOk, valOf, ldM, mnOf, mxOf, rng]; omega
  · have hl' : (encN r).length = 4 := by rw [e]; rfl
    simp only [e, List.getElem_cons_zero] at b0
    have b0 : bt s 0 = 240 + r / 64 / 64 / 64 := b0
    have hz : szOf (bt s 0) = 4 := by rw [b0]; unfold szOf; rw [if_neg (by omega), if_neg (by omega), if_neg (by omega), if_neg (by omega), if_pos (by omega)]
    by_cases h2 : s.size = 1
    · refine key 4 1 h2 (by omega) (by omega) hz ?_
      simp [begOk, tailsOk, valOf, ldM, mnOf, mxOf, rng]; omega
    · have b1 := hb 1 (by omega) (by omega)
      simp only [e, List.getElem_cons_zero, List.getElem_cons_succ] at b1
      have b1 : bt s 1 = 128 + r / 64 / 64 % 64 := b1
      by_cases h3 : s.size = 2
      · refine key 4 2 h3 (by omega) (by omega) hz ?_
        simp [begOk, tailsOk, valOf, ldM, mnOf, mxOf, rng]; omega
      · have b2 := hb 2 (by omega) (by omega)
        simp only [e, List.getElem_cons_zero, List.getElem_cons_succ] at b2
        have b2 : bt s 2 = 128 + r / 64 % 64 := b2
        refine key 4 3 (by omega) (by omega) (by omega) hz ?_
        simp [begOk, tailsOk, valOf, ldM, mnOf, mxOf, rng]; omega

/-- A beginning 'v' of a valid string, from an offset on. -/
theorem part_go (v t : ByteArray) (f : Nat) : ∀ (at_ : Nat) (l : List Int), v.size - at_ < f → at_ ≤ v.size → IsV (v.extract at_ v.size ++ t) l →
    ((chkGo v f at_).2 = 0 ∧ ∃ m, IsV t m) ∨ ((chkGo v f at_).2 = 23 ∧ ∃ n : Nat, (chkGo v f at_).1 = n ∧ n ≤ v.size ∧ ∃ m, IsV (v.extract n v.size ++ t) m) := by
  induction f with
  | zero => intro at_ l h; omega
  | succ f ih =>
    intro at_ l hf hle hv
    rw [chkGo]
    by_cases hlt : at_ < v.size
    · rw [if_pos hlt]
      have hpz : (v.extract at_ v.size).size = v.size - at_ := by simp
      obtain ⟨r, m, t', hr, ht', hst, rfl⟩ := isV_nonempty hv (by rw [ByteArray.size_append]; omega)
      have hsz := congrArg ByteArray.size hst
      rw [ByteArray.size_append, ByteArray.size_append, strOfNums_size] at hsz
      have hbt : ∀ i : Nat, (h : i < (encN r).length) → i < (v.extract at_ v.size).size → bt (v.extract at_ v.size) i = (encN r)[i] := by
        intro i hi hi2
        rw [← bt_app_left _ t i hi2, hst, bt_app_left _ t' i (by rw [strOfNums_size]; exact hi), bt_nums _ (encN_byte r hr) i hi]
      by_cases hk : (encN r).length ≤ (v.extract at_ v.size).size
      · have hfe := fst_enc r hr (v.extract at_ v.size) hk (fun i hi => hbt i hi (by omega))
        rw [hfe]
        simp only [if_true, Int.toNat_natCast]
        obtain ⟨hc, hn, hl2, hsp, _⟩ := suffix_split v at_ r _ hfe hlt
        have hel := encN_len r hr
        refine ih (at_ + (encN r).length) m (by omega) hl2 ?_
        rw [hsp, ByteArray.append_assoc] at hst
        have h3 := congrArg (fun x : ByteArray => x.extract (encN r).length x.size) hst
        have h3 : (strOfNums (encN r) ++ (v.extract (at_ + (encN r).length) v.size ++ t)).extract (encN r).length (strOfNums (encN r) ++ (v.extract (at_ + (encN r).length) v.size ++ t)).size = (strOfNums (encN r) ++ t').extract (encN r).length (strOfNums (encN r) ++ t').size := h3
        rw [ByteArray.extract_append_eq_right (by rw [strOfNums_size]) (by rw [ByteArray.size_append]), ByteArray.extract_append_eq_right (by rw [strOfNums_size]) (by rw [ByteArray.size_append])] at h3
        rw [h3]; exact ht'
      · have h23 := fst_part r hr (v.extract at_ v.size) (by omega) (by omega) hbt
        rw [if_neg (by rw [h23]; decide), h23]
        exact .inr ⟨rfl, at_, rfl, hle, _, hv⟩
    · rw [if_neg hlt]
      rw [suffix_nil v at_ (by omega), ByteArray.empty_append] at hv
      exact .inl ⟨rfl, l, hv⟩
theorem part_chk (v t : ByteArray) (l : List Int) (h : IsV (v ++ t) l) :
    ((chkP v).2 = 0 ∧ ∃ m, IsV t m) ∨ ((chkP v).2 = 23 ∧ ∃ n : Nat, (chkP v).1 = n ∧ n ≤ v.size ∧ ∃ m, IsV (v.extract n v.size ++ t) m) :=
  part_go v t (v.size + 1) 0 l (by omega) (by omega) (by rw [extract_all]; exact h)
end Go.Proofs.Ytpjiidcnbceffaa.UA
