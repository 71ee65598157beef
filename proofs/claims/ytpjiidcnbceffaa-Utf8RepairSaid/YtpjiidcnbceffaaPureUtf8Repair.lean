/- For any string of up to 300 bytes Repair agrees with the reference; the result is valid, repairing it again changes nothing, and valid strings are unchanged. No condition. -/
import Derived.Test.YtpjiidcnbceffaaQx4
import Derived.Test.YtpjiidcnbceffaaZ
namespace Go.Proofs.Ytpjiidcnbceffaa.Pure
open Go Go.RowKit Go.Proofs.Ytpjiidcnbceffaa.Q Go.Proofs.YtpjiidcnbceffaaW.PrintWords Go.Proofs.YtpjiidcnbceffaaW.PrintLast Go.Proofs.Ytpjiidcnbceffaa.UA
set_option linter.unusedVariables false
set_option linter.unusedSimpArgs false

set_option maxRecDepth 100000 in
theorem refEnc_30 : bulletinref03_Encode.f 30 65533 = some [239, 191, 189] := by decide +kernel
theorem refEnc_fffd (k : Nat) (hk : 30 ≤ k) : bulletinref03_Encode.f k 65533 = some [239, 191, 189] := at_rounds (fun k => bulletinref03_Encode.mono 65533 k) hk refEnc_30
theorem replS_eq : strOfNums [239, 191, 189] = replS := by decide

/-- Two bytes that begin something longer: their first byte does. -/
theorem beg_first (s : ByteArray) (at_ j : Nat) (h1 : 1 ≤ j) (hj : at_ + j ≤ s.size) (h : (begP (s.extract at_ (at_ + j))).2 = true) : (begR (s.extract at_ (at_ + 1))).1 = true := by
  have hx : bt (s.extract at_ (at_ + 1)) 0 = bt (s.extract at_ (at_ + j)) 0 := by
    rw [show (0 : Int) = ((0 : Nat) : Int) from rfl, bt_get _ 0 (by simp; omega), bt_get _ 0 (by simp; omega)]
    simp [ByteArray.getElem_extract]
  obtain ⟨n, hz, h4⟩ := szOf_nat (bt (s.extract at_ (at_ + j)) 0)
  have hs1 : (s.extract at_ (at_ + 1)).size = 1 := by simp; omega
  have hn : 1 ≤ n := by
    rcases Nat.eq_zero_or_pos n with h0 | h0
    · subst h0
      simp [begP, hz] at h
    · exact h0
  have hb : (begP (s.extract at_ (at_ + 1))) = ((n : Int), true) := by
    simp only [begP, hx, hz, Int.toNat_natCast]
    rw [if_neg (by rw [hs1]; omega), hs1, beg1 _ hs1 n hn h4 (by rw [hx]; exact hz)]
  simp [begR, hb]

theorem begR_fst (s : ByteArray) : (begR s).1 = (begP s).2 := by
  unfold begR; split
  · rename_i h; rw [h]
  · rename_i h; simp at h; rw [h]
theorem begR_snd (s : ByteArray) (h : (begP s).2 = true) : (begR s).2.1 = (begP s).1 := by unfold begR; rw [if_pos h]

theorem skip_three (s : ByteArray) (at_ : Nat) : skipGo s at_ 4 1 =
    if at_ + 1 < s.size ∧ (begP (s.extract at_ (at_ + 2))).2 = true ∧ 2 < (begP (s.extract at_ (at_ + 2))).1 then
      (if at_ + 2 < s.size ∧ (begP (s.extract at_ (at_ + 3))).2 = true ∧ 3 < (begP (s.extract at_ (at_ + 3))).1 then 3 else 2) else 1 := by
  have h4 : (begP (s.extract at_ (at_ + 4))).1 ≤ 4 := by
    obtain ⟨n, hz, h4⟩ := szOf_nat (bt (s.extract at_ (at_ + 4)) 0)
    simp only [begP, hz, Int.toNat_natCast]; omega
  rw [skipGo]
  by_cases a2 : at_ + 1 < s.size
  · rw [if_pos ⟨by omega, a2⟩]
    by_cases b2 : (begP (s.extract at_ (at_ + 2))).2 = true ∧ 2 < (begP (s.extract at_ (at_ + 2))).1
    · rw [if_neg (by rw [show at_ + 1 + 1 = at_ + 2 from rfl, b2.1]; have := b2.2; simp; omega), if_pos ⟨a2, b2⟩, skipGo]
      by_cases a3 : at_ + 2 < s.size
      · rw [if_pos ⟨by omega, a3⟩]
        by_cases b3 : (begP (s.extract at_ (at_ + 3))).2 = true ∧ 3 < (begP (s.extract at_ (at_ + 3))).1
        · rw [if_neg (by rw [show at_ + (1 + 1) + 1 = at_ + 3 from rfl, b3.1]; have := b3.2; simp; omega), if_pos ⟨a3, b3⟩, skipGo]
          by_cases a4 : at_ + 3 < s.size
          · rw [if_pos ⟨by omega, a4⟩, if_pos (Or.inr (by show (begP (s.extract at_ (at_ + 4))).1 ≤ 4; exact h4))]
          · rw [if_neg (by rw [show at_ + (1 + 1 + 1) = at_ + 3 from rfl]; omega)]
        · rw [if_pos (by
            rw [show at_ + (1 + 1) + 1 = at_ + 3 from rfl]
            cases hb : (begP (s.extract at_ (at_ + 3))).2 with
            | false => exact Or.inl rfl
            | true => refine Or.inr ?_; rw [hb] at b3; simp at b3; simp; omega), if_neg (fun h => b3 h.2)]
      · rw [if_neg (by rw [show at_ + (1 + 1) = at_ + 2 from rfl]; omega), if_neg (fun h => a3 h.1)]
    · rw [if_pos (by
        rw [show at_ + 1 + 1 = at_ + 2 from rfl]
        cases hb : (begP (s.extract at_ (at_ + 2))).2 with
        | false => exact Or.inl rfl
        | true => refine Or.inr ?_; rw [hb] at b2; simp at b2; simp; omega), if_neg (fun h => b2 h.2)]
  · rw [if_neg (by omega), if_neg (fun h => a2 h.1)]

/-- The end of the reference's search. -/
theorem ref_end (s : ByteArray) (hs : s.size ≤ 1000000) (at_ : Nat) (out : ByteArray) (ho : out.size ≤ 3000000) (hlt : at_ < s.size) (k : Nat) (hk : 30 ≤ k) (n : Nat) (j : Int) (h3 : n ≤ 3) (R : ByteArray)
    (hn : 2 ≤ n → (begR (s.extract at_ (at_ + 1))).1 = true) (h1 : 1 ≤ n) (hR : bulletinref03_Repair.l0 k s (out ++ replS) ((at_ + n : Nat) : Int) = some R) :
    bulletinref03_Repair.j2 (k + 1) s out at_ n j false = some R := by
  rw [bulletinref03_Repair.j2, if_neg (by decide), if_pos (by omega)]
  have e : wrap64 ((at_ : Int) + 1) = ((at_ + 1 : Nat) : Int) := by rw [w64 _ (by omega)]; omega
  have en : wrap64 ((at_ : Int) + n) = ((at_ + n : Nat) : Int) := by rw [w64 _ (by omega)]; omega
  rw [e, if_pos (by omega), if_pos (by omega), Int.toNat_natCast, Int.toNat_natCast, begins_same _ (by simp; omega) k (by omega)]
  simp only [Option.bind_some]
  have hz : replS.size = 3 := replS_size
  cases hb : (begR (s.extract at_ (at_ + 1))).1 with
  | true =>
    rw [if_pos rfl, refEnc_fffd k (by omega)]
    simp only [Option.bind_some]
    rw [replS_eq, if_pos (by omega), en]
    exact hR
  | false =>
    have h1n : n = 1 := by
      rcases Nat.lt_or_ge n 2 with h | h
      · omega
      · rw [hn h] at hb; cases hb
    rw [if_neg (by simp), refEnc_fffd k (by omega)]
    simp only [Option.bind_some]
    rw [replS_eq, if_pos (by omega)]
    subst h1n
    exact hR

/-- One length more. -/
theorem ref_round (s : ByteArray) (hs : s.size ≤ 1000000) (at_ : Nat) (out : ByteArray) (k : Nat) (hk : 30 ≤ k) (n j : Nat) (h1 : 1 ≤ j) (h3 : j ≤ 3) (hj : at_ + j ≤ s.size) :
    bulletinref03_Repair.l1 (k + 2) s out at_ n j = bulletinref03_Repair.l1 k s out at_ ((if (begP (s.extract at_ (at_ + j))).2 = true ∧ (j : Int) < (begP (s.extract at_ (at_ + j))).1 ∧ n + 1 = j then j else n : Nat) : Int) ((j + 1 : Nat) : Int) := by
  rw [bulletinref03_Repair.l1, if_pos (by omega)]
  have e : wrap64 ((at_ : Int) + j) = ((at_ + j : Nat) : Int) := by rw [w64 _ (by omega)]; omega
  have e1 : wrap64 ((j : Int) + 1) = ((j + 1 : Nat) : Int) := by rw [w64 _ (by omega)]; omega
  have e2 : wrap64 ((j : Int) - 1) = ((j - 1 : Nat) : Int) := by rw [w64 _ (by omega)]; omega
  rw [e, show decide (((at_ + j : Nat) : Int) ≤ s.size) = true from by simp; omega]
  rw [bulletinref03_Repair.j2, if_pos rfl, e, if_pos (by omega), if_pos (by omega), if_pos (by omega), Int.toNat_natCast, Int.toNat_natCast, begins_same _ (by simp; omega) k (by omega)]
  simp only [Option.bind_some]
  rw [begR_fst, e1, e2]
  by_cases hb : (begP (s.extract at_ (at_ + j))).2 = true
  · rw [if_pos hb, begR_snd _ hb]
    by_cases hc : (j : Int) < (begP (s.extract at_ (at_ + j))).1
    · rw [if_pos hc]
      by_cases hn : n + 1 = j
      · rw [if_pos (by omega), if_pos ⟨hb, hc, hn⟩]
      · rw [if_neg (by omega), if_neg (fun h => hn h.2.2)]
    · rw [if_neg hc, if_neg (fun h => hc h.2.1)]
  · rw [if_neg hb, if_neg (fun h => hb h.1)]

/-- The search is at its end. -/
theorem ref_stop (s : ByteArray) (hs : s.size ≤ 1000000) (at_ : Nat) (out : ByteArray) (k : Nat) (n : Int) (j : Nat) (hj : 3 < j ∨ s.size < at_ + j) (hj4 : j ≤ 4) (hlt : at_ < s.size) :
    bulletinref03_Repair.l1 (k + 1) s out at_ n j = bulletinref03_Repair.j2 k s out at_ n j false := by
  rw [bulletinref03_Repair.l1]
  by_cases h : (j : Int) ≤ 3
  · have e : wrap64 ((at_ : Int) + j) = ((at_ + j : Nat) : Int) := by rw [w64 _ (by omega)]; omega
    rw [if_pos h, e, show decide (((at_ + j : Nat) : Int) ≤ s.size) = false from by simp; omega]
  · rw [if_neg h]

set_option maxHeartbeats 4000000 in
theorem ref_skip (s : ByteArray) (hs : s.size ≤ 1000000) (at_ : Nat) (out : ByteArray) (ho : out.size ≤ 3000000) (hlt : at_ < s.size) (k : Nat) (hk : 60 ≤ k) (R : ByteArray)
    (hR : ∀ j, k ≤ j + 20 → bulletinref03_Repair.l0 j s (out ++ replS) ((at_ + skipGo s at_ 4 1 : Nat) : Int) = some R) :
    bulletinref03_Repair.l1 k s out at_ 1 2 = some R := by
  rw [skip_three] at hR
  rw [show (1 : Int) = ((1 : Nat) : Int) from rfl, show (2 : Int) = ((2 : Nat) : Int) from rfl]
  by_cases a2 : at_ + 1 < s.size
  · obtain ⟨m, rfl⟩ : ∃ m, k = (m + 2) + 2 := ⟨k - 4, by omega⟩
    rw [ref_round s hs at_ out (m + 2) (by omega) 1 2 (by omega) (by omega) (by omega)]
    by_cases b2 : (begP (s.extract at_ (at_ + 2))).2 = true ∧ ((2 : Nat) : Int) < (begP (s.extract at_ (at_ + 2))).1
    · rw [if_pos ⟨b2.1, b2.2, rfl⟩]
      rw [if_pos ⟨a2, b2⟩] at hR
      have hf := beg_first s at_ 2 (by omega) (by omega) b2.1
      by_cases a3 : at_ + 2 < s.size
      · rw [ref_round s hs at_ out m (by omega) 2 3 (by omega) (by omega) (by omega)]
        obtain ⟨q, rfl⟩ : ∃ q, m = (q + 1) + 1 := ⟨m - 2, by omega⟩
        by_cases b3 : (begP (s.extract at_ (at_ + 3))).2 = true ∧ ((3 : Nat) : Int) < (begP (s.extract at_ (at_ + 3))).1
        · rw [if_pos ⟨b3.1, b3.2, rfl⟩]
          rw [if_pos ⟨a3, b3⟩] at hR
          rw [ref_stop s hs at_ out _ _ (3 + 1) (by omega) (by omega) hlt]
          exact ref_end s hs at_ out ho hlt q (by omega) 3 _ (by omega) R (fun _ => hf) (by omega) (hR q (by omega))
        · rw [if_neg (fun h => b3 ⟨h.1, h.2.1⟩)]
          rw [if_neg (fun h => b3 h.2)] at hR
          rw [ref_stop s hs at_ out _ _ (3 + 1) (by omega) (by omega) hlt]
          exact ref_end s hs at_ out ho hlt q (by omega) 2 _ (by omega) R (fun _ => hf) (by omega) (hR q (by omega))
      · rw [if_neg (fun h => a3 h.1)] at hR
        rw [ref_stop s hs at_ out _ _ (2 + 1) (by omega) (by omega) hlt]
        exact ref_end s hs at_ out ho hlt m (by omega) 2 _ (by omega) R (fun _ => hf) (by omega) (hR m (by omega))
    · rw [if_neg (fun h => b2 ⟨h.1, h.2.1⟩)]
      rw [if_neg (fun h => b2 h.2)] at hR
      by_cases a3 : at_ + 2 < s.size
      · rw [ref_round s hs at_ out m (by omega) 1 3 (by omega) (by omega) (by omega), if_neg (by omega)]
        obtain ⟨q, rfl⟩ : ∃ q, m = (q + 1) + 1 := ⟨m - 2, by omega⟩
        rw [ref_stop s hs at_ out _ _ (3 + 1) (by omega) (by omega) hlt]
        exact ref_end s hs at_ out ho hlt q (by omega) 1 _ (by omega) R (fun h => absurd h (by omega)) (by omega) (hR q (by omega))
      · rw [ref_stop s hs at_ out _ _ (2 + 1) (by omega) (by omega) hlt]
        exact ref_end s hs at_ out ho hlt m (by omega) 1 _ (by omega) R (fun h => absurd h (by omega)) (by omega) (hR m (by omega))
  · rw [if_neg (fun h => a2 h.1)] at hR
    obtain ⟨m, rfl⟩ : ∃ m, k = (m + 1) + 1 := ⟨k - 2, by omega⟩
    rw [ref_stop s hs at_ out _ _ 2 (by omega) (by omega) hlt]
    exact ref_end s hs at_ out ho hlt m (by omega) 1 _ (by omega) R (fun h => absurd h (by omega)) (by omega) (hR m (by omega))

/-- The reference's Repair. -/
theorem ref_same (s : ByteArray) (hs : s.size ≤ 900000) (f : Nat) : ∀ (at_ : Nat) (out : ByteArray), s.size - at_ < f → at_ ≤ s.size → out.size ≤ 3 * at_ → ∀ k, 30 * f + 60 ≤ k → bulletinref03_Repair.l0 k s out at_ = some (repGo s f at_ out) := by
  induction f with
  | zero => intro at_ out h; omega
  | succ f ih =>
    intro at_ out hf hle ho k hk
    obtain ⟨k, rfl⟩ : ∃ m, k = m + 1 := ⟨k - 1, by omega⟩
    rw [bulletinref03_Repair.l0, repGo]
    by_cases hlt : at_ < s.size
    · rw [if_pos (by omega), if_pos (by omega), if_pos (by omega), if_pos hlt, Int.toNat_natCast, first_same _ (by simp; omega) k (by omega)]
      simp only [Option.bind_some]
      by_cases h0 : (fstP (s.extract at_ s.size)).2.2 = 0
      · obtain ⟨m, hm, h1, h4, h2⟩ := fst_step s at_ hlt h0
        have e : wrap64 ((at_ : Int) + m) = ((at_ + m : Nat) : Int) := by rw [w64 _ (by omega)]; omega
        have hx : (s.extract at_ (at_ + m)).size = m := by simp; omega
        rw [if_pos h0, if_pos h0, hm, e, if_pos (by omega), if_pos (by omega), Int.toNat_natCast, Int.toNat_natCast, if_pos (by omega)]
        exact ih (at_ + m) _ (by omega) h2 (by rw [ByteArray.size_append, hx]; omega) k (by omega)
      · have hk2 := skipGo_le s at_ 4 1 (by omega) (by omega)
        rw [if_neg h0, if_neg h0]
        refine ref_skip s (by omega) at_ out (by omega) hlt k (by omega) _ (fun j hj => ?_)
        exact ih (at_ + skipGo s at_ 4 1) _ (by omega) (by omega) (by rw [ByteArray.size_append, replS_size]; omega) j (by omega)
    · rw [if_neg (by omega), if_neg hlt]

theorem Utf8Repair : bulletinlaw03_Utf8Repair.Pure := by
  intro s _
  refine ⟨20000, ?_⟩
  unfold bulletinlaw03_Utf8Repair.f
  have h1 := short_eq s 300
  have h2 := short_size s 300
  generalize s.extract 0 (min s.size 300) = t at h1 h2
  rw [show ((300 : Nat) : Int) = 300 from rfl] at h1
  rw [h1]
  obtain ⟨⟨l, hv⟩, hsz, hid⟩ := repP_facts t
  obtain ⟨_, _, hid2⟩ := repP_facts (repP t)
  simp only [Option.bind_some]
  rw [utf8_Repair.f, if_pos (by omega)]
  simp only [Option.bind_some]
  rw [known_eq 20000 (by omega)]
  simp only [Option.bind_some, if_true]
  have hr : bulletinref03_Repair.f 20000 t = some (repP t) := by
    unfold bulletinref03_Repair.f repP
    exact ref_same t (by omega) (t.size + 1) 0 ⟨#[]⟩ (by omega) (by omega) (Nat.le_refl _) 20000 (by omega)
  rw [hr]
  simp only [Option.bind_some]
  simp only [if_true]
  rw [valid_eq (repP t) (by omega) 20000 (by omega), (chk_valid (repP t)).2 ⟨l, hv⟩]
  simp only [Option.bind_some]
  rw [if_pos (by decide), utf8_Repair.f, if_pos (by omega)]
  simp only [Option.bind_some]
  simp only [hid2 l hv, if_true]
  rw [valid_eq t (by omega) 20000 (by omega)]
  simp only [Option.bind_some]
  by_cases hc : (chkP t).2 = 0
  · obtain ⟨m, hm⟩ := (chk_valid t).1 hc
    rw [hc, if_pos (by decide), hid m hm]
    simp
  · rw [if_neg (by simpa using hc)]

end Go.Proofs.Ytpjiidcnbceffaa.Pure
