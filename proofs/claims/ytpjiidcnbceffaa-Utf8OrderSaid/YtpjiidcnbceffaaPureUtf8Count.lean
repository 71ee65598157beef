/- For any string of up to 300 bytes and any index Count and Offset answer as the reference has them. No condition. -/
import Derived.Test.YtpjiidcnbceffaaTx2
import Derived.Test.YtpjiidcnbceffaaH
namespace Go.Proofs.Ytpjiidcnbceffaa.Pure
open Go.RowKit Go.Proofs.Ytpjiidcnbceffaa.T Go.Proofs.Ytpjiidcnbceffaa.Q Go.Proofs.YtpjiidcnbceffaaW.PrintWords Go.Proofs.YtpjiidcnbceffaaW.PrintLast Go.Proofs.Ytpjiidcnbceffaa.UA
set_option linter.unusedVariables false
set_option linter.unusedSimpArgs false

theorem count_eq (s : ByteArray) (hs : s.size ≤ 1000000) : utf8_Count.f s = if (chkP s).2 = 0 then some (((prP s).length : Int), 0) else some (0, (chkP s).2) := by
  unfold utf8_Count.f
  rw [offsets_eq s hs]
  have hp := prP_len s
  have ho := offA_len s
  by_cases h : (chkP s).2 = 0
  · rw [if_pos h, if_pos h]
    simp only [Option.bind_some, if_true]
    rw [w64 _ (by omega), ho]
    congr 2; omega
  · rw [if_neg h, if_neg h]
    simp only [Option.bind_some]
    rw [if_neg h]

theorem offset_eq (s : ByteArray) (hs : s.size ≤ 1000000) (i : Int) : utf8_Offset.f s i = if (chkP s).2 = 0 then (if i < 0 ∨ i > (prP s).length then some (0, 2) else some (rd (offA s) i, 0)) else some (0, (chkP s).2) := by
  unfold utf8_Offset.f
  rw [offsets_eq s hs]
  have hp := prP_len s
  have ho := offA_len s
  by_cases h : (chkP s).2 = 0
  · rw [if_pos h, if_pos h]
    simp only [Option.bind_some, if_true]
    by_cases h1 : i < 0
    · rw [if_pos h1, if_pos (Or.inl h1)]
    rw [if_neg h1]
    by_cases h2 : i ≥ ((offA s).length : Int)
    · rw [if_pos h2, if_pos (Or.inr (by omega))]
    rw [if_neg h2, if_pos (by omega), if_pos (by omega), if_neg (by omega)]
  · rw [if_neg h, if_neg h]
    simp only [Option.bind_some]
    rw [if_neg h]

theorem Utf8Count : bulletinlaw03_Utf8Count.Pure := by
  intro s i _ _
  refine ⟨500, ?_⟩
  unfold bulletinlaw03_Utf8Count.f
  have h1 := short_eq s 300
  have h2 := short_size s 300
  generalize s.extract 0 (min s.size 300) = t at h1 h2
  rw [show ((300 : Nat) : Int) = 300 from rfl] at h1
  rw [h1]
  simp only [Option.bind_some]
  rw [all_eq t (by omega) 500 (by omega), allP_pr]
  simp only [Option.bind_some]
  rw [count_eq t (by omega), offset_eq t (by omega)]
  have hl := prP_len t
  have hr := rns_len t
  have hol : (offs (prP t)).length = (prP t).length := offs_len _
  by_cases h : (chkP t).2 = 0
  · rw [if_pos h, if_pos h]
    simp only [Option.bind_some]
    by_cases hi : i < 0 ∨ i > (prP t).length
    · rw [if_pos hi]
      simp only [Option.bind_some]
      rw [known_eq 500 (by omega)]
      simp only [Option.bind_some, if_true]
      rw [bulletinlaw03_Utf8Count.j0, if_neg (by simp [h]), if_pos h, if_pos (by omega)]
      by_cases h1 : i < 0
      · rw [if_pos h1, bulletinlaw03_Utf8Count.j1, if_pos rfl, if_pos rfl]; rfl
      · rw [if_neg h1, bulletinlaw03_Utf8Count.j1, if_pos (decide_eq_true (by omega)), if_pos rfl]; rfl
    · rw [if_neg hi]
      simp only [Option.bind_some]
      rw [known_eq 500 (by omega)]
      simp only [Option.bind_some, if_true]
      rw [bulletinlaw03_Utf8Count.j0, if_neg (by simp [h]), if_pos h, if_pos (by omega)]
      rw [if_neg (by omega), bulletinlaw03_Utf8Count.j1, if_neg (by simp; omega)]
      by_cases h3 : i < (prP t).length
      · rw [if_pos h3, if_pos (by omega), if_pos (by omega), if_pos (by
          unfold offA rd
          rw [List.getD_eq_getElem?_getD, List.getD_eq_getElem?_getD, List.getElem?_append_left (by omega)])]; rfl
      · rw [if_neg h3, if_pos (by
          unfold offA rd
          rw [List.getD_eq_getElem?_getD, List.getElem?_append_right (by omega), show i.toNat - (offs (prP t)).length = 0 by omega]; rfl)]; rfl
  · rw [if_neg h, if_neg h]
    simp only [Option.bind_some]
    rw [known_eq 500 (by omega)]
    simp only [Option.bind_some, if_true]
    rw [bulletinlaw03_Utf8Count.j0, if_neg (by simp), if_neg h, if_pos rfl, if_pos rfl]
    simp
end Go.Proofs.Ytpjiidcnbceffaa.Pure
