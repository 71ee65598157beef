/- The reference's All and utf8.Check as plain functions, which agree on the first error; the examples of the document hold. Condition: at most 1000000 bytes. -/
import Derived.Test.YtpjiidcnbceffaaV
namespace Go.Proofs.Ytpjiidcnbceffaa.UA
open Go Go.RowKit Go.Proofs.YtpjiidcnbceffaaW.PrintWords Go.Proofs.YtpjiidcnbceffaaW.PrintLast Go.Proofs.YtpjiidcnbceffaaW.PrintMore Go.Proofs.Ytpjiidcnbceffaa.Q
set_option linter.unusedVariables false
set_option linter.unusedSimpArgs false

/-- The code points and their offsets, from an offset on; the first error. -/
def allGo (s : ByteArray) : Nat → Nat → List Int → List Int → List Int × List Int × Int × Int
  | 0, _, rs, os => (rs, os, 0, 0)
  | f + 1, at_, rs, os =>
    if at_ < s.size then
      (if (fstP (s.extract at_ s.size)).2.2 = 0 then allGo s f (at_ + (fstP (s.extract at_ s.size)).2.1.toNat) (rs ++ [(fstP (s.extract at_ s.size)).1]) (os ++ [(at_ : Int)])
       else (rs, os, (at_ : Int), (fstP (s.extract at_ s.size)).2.2))
    else (rs, os, 0, 0)
def allP (s : ByteArray) : List Int × List Int × Int × Int := allGo s (s.size + 1) 0 [] []

theorem fst_step (s : ByteArray) (at_ : Nat) (hlt : at_ < s.size) (h0 : (fstP (s.extract at_ s.size)).2.2 = 0) :
    ∃ m : Nat, (fstP (s.extract at_ s.size)).2.1 = m ∧ 1 ≤ m ∧ m ≤ 4 ∧ at_ + m ≤ s.size := by
  have h := fstP_size (s.extract at_ s.size) h0
  simp at h
  obtain ⟨m, hm⟩ := Int.eq_ofNat_of_zero_le (fstP_nonneg (s.extract at_ s.size))
  exact ⟨m, hm, by omega, by omega, by omega⟩

set_option maxHeartbeats 1000000 in
theorem all_same (s : ByteArray) (hs : s.size ≤ 1000000) (f : Nat) : ∀ (at_ : Nat) (rs os : List Int), s.size - at_ < f → at_ ≤ s.size → rs.length ≤ at_ → os.length ≤ at_ → ∀ k, f + 20 ≤ k → bulletinref03_All.l0 k s rs os at_ = some (allGo s f at_ rs os) := by
  induction f with
  | zero => intro at_ rs os h; omega
  | succ f ih =>
    intro at_ rs os hf hle hrs hos k hk
    obtain ⟨k, rfl⟩ : ∃ m, k = m + 1 := ⟨k - 1, by omega⟩
    rw [bulletinref03_All.l0, allGo]
    by_cases hlt : at_ < s.size
    · rw [if_pos (by omega), if_pos (by omega), if_pos (by omega), if_pos hlt, Int.toNat_natCast, first_same _ (by simp; omega) k (by omega)]
      simp only [Option.bind_some]
      by_cases h0 : (fstP (s.extract at_ s.size)).2.2 = 0
      · obtain ⟨m, hm, h1, _, h2⟩ := fst_step s at_ hlt h0
        rw [if_pos h0, if_pos h0, if_pos (by omega), if_pos (by omega), hm, Int.toNat_natCast, w64 _ (by omega)]
        rw [← ih (at_ + m) _ _ (by omega) h2 (by simp; omega) (by simp; omega) k (by omega)]
        simp
      · rw [if_neg h0, if_neg h0]
    · rw [if_neg (by omega), if_neg hlt]
theorem all_eq (s : ByteArray) (hs : s.size ≤ 1000000) (k : Nat) (hk : s.size + 21 ≤ k) : bulletinref03_All.f k s = some (allP s) := by
  unfold bulletinref03_All.f allP
  exact all_same s hs (s.size + 1) 0 [] [] (by omega) (by omega) (by simp) (by simp) k (by omega)

/-- The first error, from an offset on. -/
def chkGo (s : ByteArray) : Nat → Nat → Int × Int
  | 0, _ => (0, 0)
  | f + 1, at_ =>
    if at_ < s.size then
      (if (fstP (s.extract at_ s.size)).2.2 = 0 then chkGo s f (at_ + (fstP (s.extract at_ s.size)).2.1.toNat) else ((at_ : Int), (fstP (s.extract at_ s.size)).2.2))
    else (0, 0)
def chkP (s : ByteArray) : Int × Int := chkGo s (s.size + 1) 0
theorem chk_all (s : ByteArray) (f : Nat) : ∀ (at_ : Nat) (rs os : List Int), chkGo s f at_ = (allGo s f at_ rs os).2.2 := by
  induction f with
  | zero => intro at_ rs os; rfl
  | succ f ih =>
    intro at_ rs os
    rw [chkGo, allGo]
    split
    · split
      · exact ih _ _ _
      · rfl
    · rfl
theorem chkP_all (s : ByteArray) : chkP s = (allP s).2.2 := chk_all s _ _ _ _

set_option maxHeartbeats 1000000 in
theorem chk_same (s : ByteArray) (hs : s.size ≤ 1000000) (f : Nat) : ∀ at_ : Nat, s.size - at_ < f → at_ ≤ s.size → ∀ k, f ≤ k → utf8_Check.l0 k s at_ = some (chkGo s f at_) := by
  induction f with
  | zero => intro at_ h; omega
  | succ f ih =>
    intro at_ hf hle k hk
    obtain ⟨k, rfl⟩ : ∃ m, k = m + 1 := ⟨k - 1, by omega⟩
    rw [utf8_Check.l0, chkGo]
    by_cases hlt : at_ < s.size
    · rw [if_pos (by omega), if_pos (by omega), if_pos (by omega), if_pos hlt, Int.toNat_natCast, utf8_first.f, if_pos (by simp; omega)]
      simp only [Option.bind_some]
      by_cases h0 : (fstP (s.extract at_ s.size)).2.2 = 0
      · obtain ⟨m, hm, h1, _, h2⟩ := fst_step s at_ hlt h0
        rw [if_pos h0, if_pos h0, hm, Int.toNat_natCast, w64 _ (by omega)]
        rw [← ih (at_ + m) (by omega) h2 k (by omega)]
        simp
      · rw [if_neg h0, if_neg h0]
    · rw [if_neg (by omega), if_neg hlt]
theorem check_eq (s : ByteArray) (hs : s.size ≤ 1000000) (k : Nat) (hk : s.size + 1 ≤ k) : utf8_Check.f k s = some (chkP s) := by
  unfold utf8_Check.f chkP
  exact chk_same s hs (s.size + 1) 0 (by omega) (by omega) k hk
theorem valid_eq (s : ByteArray) (hs : s.size ≤ 1000000) (k : Nat) (hk : s.size + 1 ≤ k) : utf8_Valid.f k s = some ((chkP s).2 == 0) := by
  unfold utf8_Valid.f
  rw [check_eq s hs k hk]; rfl

theorem short_eq (s : ByteArray) (n : Nat) : bulletinlaw03_short.f s n = some (s.extract 0 (min s.size n)) := by
  unfold bulletinlaw03_short.f
  have e : mn (s.size : Int) n = ((min s.size n : Nat) : Int) := by unfold mn; split <;> omega
  rw [e, if_pos (by omega), if_pos (by omega), Int.toNat_natCast]
theorem short_size (s : ByteArray) (n : Nat) : (s.extract 0 (min s.size n)).size ≤ n := by simp; omega

set_option maxRecDepth 100000 in
theorem known_30 : bulletinlaw03_known.f 30 = some true := by decide +kernel
theorem known_eq (k : Nat) (hk : 30 ≤ k) : bulletinlaw03_known.f k = some true := at_rounds (fun k => bulletinlaw03_known.mono k) hk known_30
#print axioms known_eq
end Go.Proofs.Ytpjiidcnbceffaa.UA
