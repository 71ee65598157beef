/- The law's small and known. No condition. -/
import Derived.Test.YtbhibodgbgndbaaU
namespace Go.Proofs.Ytbhibodgbgndbaa.B
open Go Go.RowKit Go.Proofs Go.Proofs.YtbhibodgbgndbaaW.PrintWords Go.Proofs.YtbhibodgbgndbaaW.PrintLast Go.Proofs.YtbhibodgbgndbaaW.PrintMore
set_option linter.unusedVariables false
set_option linter.unusedSimpArgs false

def smallB (l : List OpV) : Bool := l.all (fun o => decide (o.ids.length ≤ 20)) && decide (l.length ≤ 40)
theorem drop_at' {α : Type} {es : List α} {i : Nat} {e : α} (h : es[i]? = some e) : es.drop i = e :: es.drop (i + 1) := by
  obtain ⟨hi, rfl⟩ := List.getElem?_eq_some_iff.1 h
  exact List.drop_eq_getElem_cons hi
set_option maxHeartbeats 4000000 in
set_option maxRecDepth 100000 in
theorem small_is (A : Option Addr) (C : Nat) (l : List OpV) (hl : l.length ≤ maxLen) (w : World) (h : OpsAt w A l) :
    Calls Try.prog 11 #[.slice A l.length C] w fun e w' => e = .returned (.bool (smallB l)) ∧ w' = w := by
  have hu33 := Try.underlying33
  have HO := Aside0.mk h
  have hm : l.length ≤ 9223372036854775807 := by simpa [maxLen] using hl
  clear h hl
  go_enter Try.func11, Try.ntmps11
  go_wp2
  go_loopw [3] (fun p3 wr => ∃ (i : Nat), p3 = .int .i64 i ∧ Aside0 (i ≤ l.length ∧ smallB l = ((l.drop i).all (fun o => decide (o.ids.length ≤ 20)) && decide (l.length ≤ 40))) ∧ wr = w)
    (fun p3 _ => l.length - (intOf p3).toNat)
  case atStart => exact ⟨0, rfl, ⟨Nat.zero_le _, rfl⟩, rfl⟩
  case round =>
    obtain ⟨i, rfl, HD, rfl⟩ := hrel
    by_cases hi : i < l.length
    · obtain ⟨o, he⟩ : ∃ o, l[i]? = some o := ⟨_, List.getElem?_eq_getElem hi⟩
      obtain ⟨a, rfl, hO⟩ := HO.out i o he
      obtain ⟨A5, C5, hc, _⟩ := hO.ids
      have HEI := Aside0.mk he
      have p1 : (0 : Int) ≤ (i : Int) := by omega
      have p2 : (i : Int) < (l.length : Int) := by omega
      have p3 := wrap_i64 ((i : Int) + 1) (by omega) (by omega)
      clear he hO
      by_cases hs : o.ids.length ≤ 20
      · have hd : decide ((o.ids.length : Int) > 20) = false := decide_eq_false (by omega)
        have HS := Aside0.mk hs
        clear hs
        go_wp2
        go_roundw
        case rel =>
          refine ⟨i + 1, by go_num, ⟨by omega, ?_⟩, trivial⟩
          have h1 := HD.out.2
          rw [drop_at' HEI.out, List.all_cons, decide_eq_true HS.out, Bool.true_and] at h1
          exact h1
        case measure => simp [intOf]; omega
      · have hd : decide ((o.ids.length : Int) > 20) = true := decide_eq_true (by omega)
        have HS := Aside0.mk hs
        clear hs
        go_wp2
        go_ret
        have h1 := HD.out.2
        rw [drop_at' HEI.out, List.all_cons, decide_eq_false HS.out, Bool.false_and, Bool.false_and] at h1
        exact ⟨by rw [h1]; rfl, rfl⟩
    · have hle := HD.out.1
      have h1 := HD.out.2
      rw [List.drop_eq_nil_of_le (by omega)] at h1
      have H1 := Aside0.mk h1
      clear h1
      go_wp2
      go_ret
      exact ⟨by rw [H1.out]; simp; omega, rfl⟩
end Go.Proofs.Ytbhibodgbgndbaa.B
