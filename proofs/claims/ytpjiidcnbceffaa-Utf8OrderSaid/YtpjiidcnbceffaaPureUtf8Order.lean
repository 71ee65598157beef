/- For any two strings of up to 100 bytes that are valid the order of the bytes is the order of the code points, Count adds up over the join, and the join is valid. No condition. -/
import Derived.Test.YtpjiidcnbceffaaPureUtf8Count
import Derived.Test.YtpjiidcnbceffaaTx2
import Derived.Test.YtpjiidcnbceffaaJ
namespace Go.Proofs.Ytpjiidcnbceffaa.Pure
open Go.RowKit Go.Proofs.Ytpjiidcnbceffaa.T Go.Proofs.Ytpjiidcnbceffaa.Q Go.Proofs.YtpjiidcnbceffaaW.PrintWords Go.Proofs.YtpjiidcnbceffaaW.PrintLast Go.Proofs.Ytpjiidcnbceffaa.UA
set_option linter.unusedVariables false
set_option linter.unusedSimpArgs false

theorem rd_of (l : List Int) (i : Nat) (h : i < l.length) : rd l (i : Int) = l[i] := by simp [rd, List.getD_eq_getElem?_getD, h]
theorem order_j4 (s t : ByteArray) (l m : List Int) (hs : IsV s l) (ht : IsV t m) (h1 : s.size ≤ 100) (h2 : t.size ≤ 100) (k : Nat) (hk : 300 ≤ k) (b : Bool) (hb : lexL l m = b) : bulletinlaw03_Utf8Order.j4 k s t b = some true := by
  obtain ⟨k, rfl⟩ : ∃ m, k = m + 1 := ⟨k - 1, by omega⟩
  have hst := hs.append ht
  have z : (s ++ t).size = s.size + t.size := ByteArray.size_append
  have l1 := prP_len s
  have l2 := prP_len t
  have l3 := prP_len (s ++ t)
  have e1 := congrArg List.length (prP_valid s l hs)
  have e2 := congrArg List.length (prP_valid t m ht)
  have e3 := congrArg List.length (prP_valid (s ++ t) (l ++ m) hst)
  rw [rns_len] at e1 e2 e3
  rw [List.length_append] at e3
  rw [bulletinlaw03_Utf8Order.j4, count_eq s (by omega), if_pos ((chk_valid s).2 ⟨_, hs⟩), count_eq t (by omega), if_pos ((chk_valid t).2 ⟨_, ht⟩)]
  simp only [Option.bind_some]
  rw [if_pos (by omega), count_eq _ (by omega), if_pos ((chk_valid _).2 ⟨_, hst⟩)]
  simp only [Option.bind_some]
  rw [valid_order hs ht, hb, if_pos (by simp), if_pos trivial, if_pos trivial, if_pos trivial, w64 _ (by omega), if_pos (by omega), valid_eq _ (by omega) k (by omega), (chk_valid _).2 ⟨_, hst⟩]
  rfl

theorem order_l0 (s t : ByteArray) (l m : List Int) (hs : IsV s l) (ht : IsV t m) (h1 : s.size ≤ 100) (h2 : t.size ≤ 100) (hl : l.length ≤ 100) (hm : m.length ≤ 100) (n : Nat) :
    ∀ (i : Nat) (k : Nat), l.length - i = n → i ≤ l.length → i ≤ m.length → l.take i = m.take i → n + 310 ≤ k →
      bulletinlaw03_Utf8Order.l0 k s t l m (decide ((l.length : Int) < (m.length : Int))) i = some true := by
  induction n with
  | zero =>
    intro i k hn hi hj he hk
    obtain ⟨k, rfl⟩ : ∃ m, k = m + 1 := ⟨k - 1, by omega⟩
    rw [bulletinlaw03_Utf8Order.l0, if_neg (by omega)]
    obtain ⟨k, rfl⟩ : ∃ m, k = m + 1 := ⟨k - 1, by omega⟩
    rw [bulletinlaw03_Utf8Order.j2, if_neg (by omega)]
    obtain ⟨k, rfl⟩ : ∃ m, k = m + 1 := ⟨k - 1, by omega⟩
    rw [bulletinlaw03_Utf8Order.j3, if_neg (by simp)]
    refine order_j4 s t l m hs ht h1 h2 k (by omega) _ ?_
    have hil : i = l.length := by omega
    subst hil
    rw [List.take_length] at he
    have : m = l ++ m.drop l.length := by conv => lhs; rw [← List.take_append_drop l.length m, ← he]
    have h3 := lex_same l [] (m.drop l.length)
    rw [← this, List.append_nil] at h3
    rw [h3]
    cases hd : m.drop l.length with
    | nil => have := congrArg List.length hd; simp at this; simp [lexL]; omega
    | cons a b => have := congrArg List.length hd; simp at this; simp [lexL]; omega
  | succ n ih =>
    intro i k hn hi hj he hk
    obtain ⟨k, rfl⟩ : ∃ m, k = m + 1 := ⟨k - 1, by omega⟩
    have hil : i < l.length := by omega
    rw [bulletinlaw03_Utf8Order.l0, if_pos (by omega)]
    have el : l = l.take i ++ l[i] :: l.drop (i + 1) := by rw [← List.drop_eq_getElem_cons hil, List.take_append_drop]
    by_cases hjm : i < m.length
    · have em : m = l.take i ++ m[i] :: m.drop (i + 1) := by rw [he, ← List.drop_eq_getElem_cons hjm, List.take_append_drop]
      rw [if_pos (by omega), if_pos (by omega), rd_of l i hil, rd_of m i hjm]
      by_cases hx : l[i] = m[i]
      · rw [if_pos hx, w64 _ (by omega)]
        have := ih (i + 1) k (by omega) (by omega) (by omega) (by rw [List.take_add_one, List.take_add_one, he, List.getElem?_eq_getElem hil, List.getElem?_eq_getElem hjm, hx]) (by omega)
        simpa using this
      · rw [if_neg hx]
        obtain ⟨k, rfl⟩ : ∃ m, k = m + 1 := ⟨k - 1, by omega⟩
        rw [bulletinlaw03_Utf8Order.j2, if_pos (by omega)]
        obtain ⟨k, rfl⟩ : ∃ m, k = m + 1 := ⟨k - 1, by omega⟩
        rw [bulletinlaw03_Utf8Order.j3, if_pos (decide_eq_true (by omega)), if_pos (by omega), if_pos (by omega), if_pos (by omega), rd_of l i hil, rd_of m i hjm]
        refine order_j4 s t l m hs ht h1 h2 k (by omega) _ ?_
        generalize l[i] = a at *
        generalize m[i] = b at *
        rw [el, em, lex_same]
        simp [lexL, hx]
    · rw [if_neg (by omega)]
      obtain ⟨k, rfl⟩ : ∃ m, k = m + 1 := ⟨k - 1, by omega⟩
      rw [bulletinlaw03_Utf8Order.j2, if_pos (by omega)]
      obtain ⟨k, rfl⟩ : ∃ m, k = m + 1 := ⟨k - 1, by omega⟩
      rw [bulletinlaw03_Utf8Order.j3, if_neg (by simp; omega)]
      refine order_j4 s t l m hs ht h1 h2 k (by omega) _ ?_
      have hme : m = l.take i := by rw [he, List.take_of_length_le (by omega)]
      have h3 := lex_same (l.take i) (l[i] :: l.drop (i + 1)) []
      rw [← el, List.append_nil, ← hme] at h3
      rw [h3]
      simp [lexL]; omega

theorem Utf8Order : bulletinlaw03_Utf8Order.Pure := by
  intro a b _ _
  refine ⟨900, ?_⟩
  unfold bulletinlaw03_Utf8Order.f
  have h1 := short_eq a 100
  have h2 := short_size a 100
  generalize a.extract 0 (min a.size 100) = s at h1 h2
  have h3 := short_eq b 100
  have h4 := short_size b 100
  generalize b.extract 0 (min b.size 100) = t at h3 h4
  rw [show ((100 : Nat) : Int) = 100 from rfl] at h1 h3
  rw [h1, h3]
  simp only [Option.bind_some]
  rw [known_eq 900 (by omega)]
  simp only [Option.bind_some, if_true]
  rw [valid_eq s (by omega) 900 (by omega)]
  simp only [Option.bind_some]
  by_cases hs : (chkP s).2 = 0
  · rw [if_pos (by simp [hs]), valid_eq t (by omega) 900 (by omega)]
    simp only [Option.bind_some]
    by_cases ht : (chkP t).2 = 0
    · rw [ht]
      rw [bulletinlaw03_Utf8Order.j0, if_neg (by decide), all_eq s (by omega) _ (by omega), allP_pr, all_eq t (by omega) _ (by omega), allP_pr]
      simp only [Option.bind_some]
      obtain ⟨l, hl⟩ := (chk_valid s).1 hs
      obtain ⟨m, hm⟩ := (chk_valid t).1 ht
      have l1 := prP_len s
      have l2 := prP_len t
      have e1 := congrArg List.length (prP_valid s l hl)
      have e2 := congrArg List.length (prP_valid t m hm)
      rw [rns_len] at e1 e2
      rw [prP_valid s l hl, prP_valid t m hm]
      exact order_l0 s t l m hl hm h2 h4 (by omega) (by omega) l.length 0 899 (by omega) (by omega) (by omega) rfl (by omega)
    · rw [show (!((chkP t).2 == 0)) = true by simp [ht]]
      rw [bulletinlaw03_Utf8Order.j0, if_pos rfl, known_eq _ (by omega)]; rfl
  · rw [if_neg (by simp [hs]), bulletinlaw03_Utf8Order.j0, if_pos rfl, known_eq _ (by omega)]; rfl
end Go.Proofs.Ytpjiidcnbceffaa.Pure
