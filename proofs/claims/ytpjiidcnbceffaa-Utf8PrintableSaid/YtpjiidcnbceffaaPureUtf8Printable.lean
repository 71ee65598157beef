/- For any string of up to 300 bytes Printable says whether it is valid and holds no control character, as the reference has it. No condition. -/
import Derived.Test.YtpjiidcnbceffaaTx2
import Derived.Test.YtpjiidcnbceffaaH
namespace Go.Proofs.Ytpjiidcnbceffaa.Pure
open Go.RowKit Go.Proofs.Ytpjiidcnbceffaa.T Go.Proofs.Ytpjiidcnbceffaa.Q Go.Proofs.YtpjiidcnbceffaaW.PrintWords Go.Proofs.YtpjiidcnbceffaaW.PrintLast Go.Proofs.Ytpjiidcnbceffaa.UA
set_option linter.unusedVariables false
set_option linter.unusedSimpArgs false

theorem printable_loop (s : ByteArray) (hs : s.size ≤ 1000000) (l : List Int) (hl : l.length ≤ 1000000) (n : Nat) : ∀ (i : Nat) (b : Bool) (k : Nat), l.length - i = n → i ≤ l.length → n + 40 ≤ k → prtB s = (b && (l.drop i).all (fun r => !ctl r)) →
    bulletinlaw03_Utf8Printable.l0 k s l b i = some true := by
  induction n with
  | zero =>
    intro i b k hn hi hk hb
    obtain ⟨k, rfl⟩ : ∃ m, k = m + 1 := ⟨k - 1, by omega⟩
    rw [bulletinlaw03_Utf8Printable.l0, if_neg (by omega), known_eq k (by omega)]
    simp only [Option.bind_some, if_true]
    rw [printable_eq s hs]
    simp only [Option.bind_some]
    rw [List.drop_eq_nil_of_le (by omega)] at hb
    simp at hb
    rw [hb]; simp
  | succ n ih =>
    intro i b k hn hi hk hb
    obtain ⟨k, rfl⟩ : ∃ m, k = m + 1 := ⟨k - 1, by omega⟩
    have hlt : i < l.length := by omega
    rw [List.drop_eq_getElem_cons hlt, List.all_cons] at hb
    rw [bulletinlaw03_Utf8Printable.l0, if_pos (by omega)]
    rw [w64 _ (by omega)]
    cases b with
    | true =>
      rw [if_pos rfl, if_pos (by omega)]
      rw [control_eq]
      simp only [Option.bind_some]
      have e : rd l (i : Int) = l[i] := by simp [rd, List.getD_eq_getElem?_getD, hlt]
      rw [e]
      have := ih (i + 1) (!ctl l[i]) k (by omega) (by omega) (by omega) (by rw [hb]; simp)
      simpa using this
    | false =>
      rw [if_neg (by simp)]
      have := ih (i + 1) false k (by omega) (by omega) (by omega) (by rw [hb]; simp)
      simpa using this

theorem Utf8Printable : bulletinlaw03_Utf8Printable.Pure := by
  intro s _
  refine ⟨500, ?_⟩
  unfold bulletinlaw03_Utf8Printable.f
  have h1 := short_eq s 300
  have h2 := short_size s 300
  generalize s.extract 0 (min s.size 300) = t at h1 h2
  rw [show ((300 : Nat) : Int) = 300 from rfl] at h1
  rw [h1]
  simp only [Option.bind_some]
  rw [all_eq t (by omega) 500 (by omega), allP_pr]
  simp only [Option.bind_some]
  have hl := prP_len t
  have hr := rns_len t
  have h := printable_loop t (by omega) (rns (prP t)) (by omega) (rns (prP t)).length 0 ((chkP t).2 == 0) 500 (by omega) (by omega) (by omega) (by
    unfold prtB
    simp only [List.drop_zero]
    congr 1
    unfold rns
    rw [List.all_map]; rfl)
  simpa using h
end Go.Proofs.Ytpjiidcnbceffaa.Pure
