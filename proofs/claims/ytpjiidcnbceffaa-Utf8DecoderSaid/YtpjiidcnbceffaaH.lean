/- The pairs of a string beside the reference's All; the plain answers of Count, Offset and Printable. Condition: at most 1000000 bytes. -/
import Derived.Test.YtpjiidcnbceffaaZ
import Derived.Test.YtpjiidcnbceffaaK
namespace Go.Proofs.Ytpjiidcnbceffaa.UA
open Go Go.RowKit Go.Proofs.YtpjiidcnbceffaaW.PrintWords Go.Proofs.YtpjiidcnbceffaaW.PrintLast Go.Proofs.YtpjiidcnbceffaaW.PrintMore Go.Proofs.Ytpjiidcnbceffaa.Q
set_option linter.unusedVariables false
set_option linter.unusedSimpArgs false

def rns (l : List (Nat × Int)) : List Int := l.map (·.2)
theorem all_pr (s : ByteArray) (f : Nat) : ∀ (at_ : Nat) (rs os : List Int), allGo s f at_ rs os = (rs ++ rns (prGo s f at_), os ++ offs (prGo s f at_), chkGo s f at_) := by
  induction f with
  | zero => intro at_ rs os; simp [allGo, prGo, chkGo, rns, offs]
  | succ f ih =>
    intro at_ rs os
    rw [allGo, prGo, chkGo]
    by_cases hlt : at_ < s.size
    · rw [if_pos hlt, if_pos hlt, if_pos hlt]
      by_cases h0 : (fstP (s.extract at_ s.size)).2.2 = 0
      · rw [if_pos h0, if_pos h0, if_pos h0, ih]
        simp [rns, offs]
      · rw [if_neg h0, if_neg h0, if_neg h0]; simp [rns, offs]
    · rw [if_neg hlt, if_neg hlt, if_neg hlt]; simp [rns, offs]
theorem allP_pr (s : ByteArray) : allP s = (rns (prP s), offs (prP s), chkP s) := by
  unfold allP prP chkP
  rw [all_pr]; simp
theorem rns_len (s : ByteArray) : (rns (prP s)).length = (prP s).length := List.length_map _

/-- The offsets grow, lie below the size, and begin at 'at_'. -/
theorem offs_grow (s : ByteArray) (f : Nat) : ∀ at_ : Nat, at_ ≤ s.size → (∀ x ∈ offs (prGo s f at_), (at_ : Int) ≤ x ∧ x < s.size) ∧ (offs (prGo s f at_)).Pairwise (· < ·) := by
  induction f with
  | zero => intro at_ _; simp [prGo, offs]
  | succ f ih =>
    intro at_ hle
    rw [prGo]
    by_cases hlt : at_ < s.size
    · rw [if_pos hlt]
      by_cases h0 : (fstP (s.extract at_ s.size)).2.2 = 0
      · obtain ⟨m, hm, h1, _, h2⟩ := fst_step s at_ hlt h0
        rw [if_pos h0, hm, Int.toNat_natCast]
        obtain ⟨ha, hb⟩ := ih (at_ + m) h2
        constructor
        · intro x hx
          simp only [offs, List.map_cons, List.mem_cons] at hx
          rcases hx with rfl | hx
          · omega
          · have := ha x hx; omega
        · simp only [offs, List.map_cons, List.pairwise_cons]
          exact ⟨fun x hx => by have := ha x hx; omega, hb⟩
      · rw [if_neg h0]; simp [offs]
    · rw [if_neg hlt]; simp [offs]
/-- All offsets and the size: they grow. -/
def offA (s : ByteArray) : List Int := offs (prP s) ++ [(s.size : Int)]
theorem offA_grow (s : ByteArray) : (offA s).Pairwise (· < ·) ∧ ∀ x ∈ offA s, 0 ≤ x ∧ x ≤ s.size := by
  obtain ⟨ha, hb⟩ := offs_grow s (s.size + 1) 0 (by omega)
  unfold offA prP
  constructor
  · rw [List.pairwise_append]
    exact ⟨hb, by simp, fun x hx y hy => by simp at hy; subst hy; exact (ha x hx).2⟩
  · intro x hx
    rw [List.mem_append] at hx
    rcases hx with hx | hx
    · have := ha x hx; omega
    · simp at hx; omega
theorem offA_len (s : ByteArray) : (offA s).length = (prP s).length + 1 := by simp [offA, offs]
theorem offA_small (s : ByteArray) : (offA s).length ≤ s.size + 1 := by rw [offA_len]; have := prP_len s; omega
/-- The first offset is 0, where all is valid. -/
theorem offA_zero (s : ByteArray) (h : (chkP s).2 = 0) : (offA s).head? = some 0 := by
  unfold offA prP
  rw [prGo]
  by_cases hlt : 0 < s.size
  · rw [if_pos hlt]
    have h0 : (fstP (s.extract 0 s.size)).2.2 = 0 := by
      unfold chkP at h
      rw [chkGo, if_pos hlt] at h
      by_cases h0 : (fstP (s.extract 0 s.size)).2.2 = 0
      · exact h0
      · rw [if_neg h0] at h; exact absurd h h0
    rw [if_pos h0]; simp [offs]
  · rw [if_neg hlt]
    show [(s.size : Int)].head? = some 0
    rw [show (s.size : Int) = 0 by omega]; rfl
theorem offsets_eq (s : ByteArray) (hs : s.size ≤ 1000000) : utf8_offsets.f s = if (chkP s).2 = 0 then some (offA s, 0) else some ([], (chkP s).2) := by
  unfold utf8_offsets.f; rw [if_pos hs]; rfl
theorem printable_eq (s : ByteArray) (hs : s.size ≤ 1000000) : utf8_Printable.f s = some (prtB s) := by unfold utf8_Printable.f; rw [if_pos hs]
theorem control_eq (r : Int) : bulletinref03_Control.f r = some (ctl r) := by
  unfold bulletinref03_Control.f ctl
  by_cases h1 : r < 32
  · rw [if_pos h1]; simp; omega
  rw [if_neg h1]
  by_cases h2 : r ≥ 127
  · rw [if_pos h2]
    by_cases h3 : r ≤ 159
    · rw [if_pos h3]; simp; omega
    rw [if_neg h3]
    by_cases h4 : r = 8232
    · rw [if_pos h4]; simp [h4]
    rw [if_neg h4]
    by_cases h5 : r = 8233
    · simp [h5]
    · have e1 : ¬ r ≤ 31 := by omega
      simp [h4, h5, h3, e1]
  · have e1 : ¬ r ≤ 31 := by omega
    have e2 : ¬ 127 ≤ r := by omega
    have e3 : r ≠ 8232 := by omega
    have e4 : r ≠ 8233 := by omega
    rw [if_neg h2, if_neg (by omega)]
    simp [e1, e2, e3, e4]

/-- A valid string's pairs: its code points. -/
theorem pr_valid (s : ByteArray) (f : Nat) : ∀ (at_ : Nat) (l : List Int), s.size - at_ < f → at_ ≤ s.size → IsV (s.extract at_ s.size) l → rns (prGo s f at_) = l := by
  induction f with
  | zero => intro at_ l h; omega
  | succ f ih =>
    intro at_ l hf hle hv
    rw [prGo]
    by_cases hlt : at_ < s.size
    · rw [if_pos hlt]
      have hpos : 0 < (s.extract at_ s.size).size := by simp; omega
      obtain ⟨r', m, t, hr', ht, hst, rfl⟩ := isV_nonempty hv hpos
      have h2 := fst_cons r' hr' t
      rw [← hst] at h2
      obtain ⟨hc, hn, hl, hsp, _⟩ := suffix_split s at_ r' _ h2 hlt
      have hel := encN_len r' hc
      rw [h2]
      simp only [if_true, Int.toNat_natCast]
      rw [hsp] at hst
      have h3 := congrArg (fun x : ByteArray => x.extract (encN r').length x.size) hst
      have h3 : (strOfNums (encN r') ++ s.extract (at_ + (encN r').length) s.size).extract (encN r').length (strOfNums (encN r') ++ s.extract (at_ + (encN r').length) s.size).size = (strOfNums (encN r') ++ t).extract (encN r').length (strOfNums (encN r') ++ t).size := h3
      rw [ByteArray.extract_append_eq_right (by rw [strOfNums_size]) (by rw [ByteArray.size_append]), ByteArray.extract_append_eq_right (by rw [strOfNums_size]) (by rw [ByteArray.size_append])] at h3
      have := ih (at_ + (encN r').length) m (by omega) hl (by rw [h3]; exact ht)
      show r' :: rns _ = r' :: m
      rw [this]
    · rw [suffix_nil s at_ (by omega)] at hv
      rw [if_neg hlt]
      generalize he : ByteArray.empty = z at hv
      cases hv with
      | nil => rfl
      | cons r l t hr ht =>
        have := congrArg ByteArray.size he
        rw [ByteArray.size_append, strOfNums_size] at this
        have := (encN_len r hr).1
        simp at *
        omega
theorem prP_valid (s : ByteArray) (l : List Int) (h : IsV s l) : rns (prP s) = l := by
  unfold prP
  exact pr_valid s (s.size + 1) 0 l (by omega) (by omega) (by rw [extract_all]; exact h)
end Go.Proofs.Ytpjiidcnbceffaa.UA
