/- For any string of up to 400 bytes Check returns the offset and the kind of the first error as the reference has them, and Valid agrees. No condition. -/
import Derived.Test.YtpjiidcnbceffaaQx2
import Derived.Test.YtpjiidcnbceffaaX
namespace Go.Proofs.Ytpjiidcnbceffaa.Pure
open Go.RowKit Go.Proofs.Ytpjiidcnbceffaa.Q Go.Proofs.YtpjiidcnbceffaaW.PrintWords Go.Proofs.YtpjiidcnbceffaaW.PrintLast Go.Proofs.Ytpjiidcnbceffaa.UA
set_option linter.unusedVariables false
set_option linter.unusedSimpArgs false

theorem Utf8Check : bulletinlaw03_Utf8Check.Pure := by
  intro s _
  refine ⟨500, ?_⟩
  unfold bulletinlaw03_Utf8Check.f
  have h1 := short_eq s 400
  have h2 := short_size s 400
  generalize s.extract 0 (min s.size 400) = t at h1 h2
  rw [show ((400 : Nat) : Int) = 400 from rfl] at h1
  rw [h1]
  simp only [Option.bind_some]
  rw [all_eq t (by omega) 500 (by omega)]
  simp only [Option.bind_some]
  rw [check_eq t (by omega) 500 (by omega)]
  simp only [Option.bind_some]
  rw [known_eq 500 (by omega)]
  simp only [Option.bind_some, if_true]
  rw [chkP_all, if_pos rfl, if_pos rfl, valid_eq t (by omega) 500 (by omega), chkP_all]
  simp

end Go.Proofs.Ytpjiidcnbceffaa.Pure
