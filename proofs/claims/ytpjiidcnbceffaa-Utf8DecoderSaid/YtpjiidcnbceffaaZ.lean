/- Valid strings are the concatenations of encodings; Repair answers one, and leaves one as it is. Condition: at most 1000000 bytes. -/
import Derived.Test.YtpjiidcnbceffaaY
namespace Go.Proofs.Ytpjiidcnbceffaa.UA
open Go Go.RowKit Go.Proofs.YtpjiidcnbceffaaW.PrintWords Go.Proofs.YtpjiidcnbceffaaW.PrintLast Go.Proofs.YtpjiidcnbceffaaW.PrintMore Go.Proofs.Ytpjiidcnbceffaa.Q
set_option linter.unusedVariables false
set_option linter.unusedSimpArgs false

/-- A string that is a concatenation of encodings: of these code points. -/
inductive IsV : ByteArray → List Int → Prop
  | nil : IsV ByteArray.empty []
  | cons (r : Int) (l : List Int) (t : ByteArray) (hr : isCp r = true) (ht : IsV t l) : IsV (strOfNums (encN r) ++ t) (r :: l)

theorem IsV.append {a b : ByteArray} {l m : List Int} (ha : IsV a l) (hb : IsV b m) : IsV (a ++ b) (l ++ m) := by
  induction ha with
  | nil => rw [ByteArray.empty_append]; exact hb
  | cons r l t hr ht ih => rw [ByteArray.append_assoc, List.cons_append]; exact IsV.cons r _ _ hr ih
theorem IsV.one (r : Int) (hr : isCp r = true) : IsV (strOfNums (encN r)) [r] := by
  have := IsV.cons r [] ByteArray.empty hr .nil
  rwa [ByteArray.append_empty] at this

theorem encN_len (r : Int) (hr : isCp r = true) : 1 ≤ (encN r).length ∧ (encN r).length ≤ 4 := by
  rcases encN_cases r hr with ⟨_, e⟩ | ⟨_, _, e⟩ | ⟨_, _, e⟩ | ⟨_, e⟩ <;> rw [e] <;> simp

/-- first at a concatenation. -/
theorem fst_cons (r : Int) (hr : isCp r = true) (t : ByteArray) : fstP (strOfNums (encN r) ++ t) = (r, ((encN r).length : Int), 0) := by
  have hl : (strOfNums (encN r)).size = (encN r).length := strOfNums_size _
  exact fst_enc r hr _ (by simp only [ByteArray.size_append]; omega) (fun i hi => by
    rw [bt_app_left _ _ i (by omega), bt_nums _ (encN_byte r hr) i hi])

theorem suffix_split (s : ByteArray) (at_ : Nat) (r n : Int) (h : fstP (s.extract at_ s.size) = (r, n, 0)) (hlt : at_ < s.size) :
    isCp r = true ∧ n = ((encN r).length : Int) ∧ at_ + (encN r).length ≤ s.size ∧ s.extract at_ s.size = strOfNums (encN r) ++ s.extract (at_ + (encN r).length) s.size ∧ s.extract at_ (at_ + (encN r).length) = strOfNums (encN r) := by
  obtain ⟨hc, hn, hl, hb⟩ := fst_dec _ r n h
  have hl2 : at_ + (encN r).length ≤ s.size := by
    have : (s.extract at_ s.size).size = s.size - at_ := by simp
    omega
  have hx := fst_bytes _ r n h
  rw [hn, Int.toNat_natCast, ByteArray.extract_extract, Nat.add_zero, Nat.min_eq_left hl2] at hx
  refine ⟨hc, hn, hl2, ?_, hx.symm⟩
  rw [hx]
  exact ByteArray.extract_eq_extract_append_extract _ (by omega) hl2

theorem suffix_nil (s : ByteArray) (at_ : Nat) (h : s.size ≤ at_) : s.extract at_ s.size = ByteArray.empty := by
  apply ByteArray.size_eq_zero_iff.1; simp; omega

theorem isV_nonempty {s : ByteArray} {l : List Int} (h : IsV s l) (hs : 0 < s.size) : ∃ r m t, isCp r = true ∧ IsV t m ∧ s = strOfNums (encN r) ++ t ∧ l = r :: m := by
  cases h with
  | nil => simp at hs
  | cons r l t hr ht => exact ⟨r, l, t, hr, ht, rfl, rfl⟩

/-- All's answer at a suffix that is valid, and at one that is not. -/
theorem all_valid (s : ByteArray) (f : Nat) : ∀ (at_ : Nat) (rs os : List Int), s.size - at_ < f → at_ ≤ s.size → ((allGo s f at_ rs os).2.2.2 = 0 ↔ ∃ l, IsV (s.extract at_ s.size) l) := by
  induction f with
  | zero => intro at_ rs os h; omega
  | succ f ih =>
    intro at_ rs os hf hle
    rw [allGo]
    by_cases hlt : at_ < s.size
    · rw [if_pos hlt]
      obtain ⟨r, n, e, hfs⟩ : ∃ r n e, fstP (s.extract at_ s.size) = (r, n, e) := ⟨_, _, _, rfl⟩
      rw [hfs]
      simp only
      have hpos : 0 < (s.extract at_ s.size).size := by simp; omega
      by_cases he : e = 0
      · subst he
        obtain ⟨hc, hn, hl, hsp, _⟩ := suffix_split s at_ r n hfs hlt
        have hel := encN_len r hc
        rw [if_pos rfl, hn, Int.toNat_natCast, ih _ _ _ (by omega) hl]
        constructor
        · rintro ⟨l, hv⟩; exact ⟨r :: l, by rw [hsp]; exact IsV.cons r l _ hc hv⟩
        · rintro ⟨l, hv⟩
          obtain ⟨r', m, t, hr', ht, hst, _⟩ := isV_nonempty hv hpos
          have h2 := fst_cons r' hr' t
          rw [← hst, hfs] at h2
          simp only [Prod.mk.injEq, and_true] at h2
          obtain rfl := h2.1
          refine ⟨m, ?_⟩
          rw [hsp] at hst
          have : s.extract (at_ + (encN r).length) s.size = t := by
            have h3 := congrArg (fun x : ByteArray => x.extract (encN r).length x.size) hst
            have h3 : (strOfNums (encN r) ++ s.extract (at_ + (encN r).length) s.size).extract (encN r).length (strOfNums (encN r) ++ s.extract (at_ + (encN r).length) s.size).size = (strOfNums (encN r) ++ t).extract (encN r).length (strOfNums (encN r) ++ t).size := h3
            rw [ByteArray.extract_append_eq_right (by rw [strOfNums_size]) (by rw [ByteArray.size_append]), ByteArray.extract_append_eq_right (by rw [strOfNums_size]) (by rw [ByteArray.size_append])] at h3
            exact h3
          rw [this]; exact ht
      · rw [if_neg he]
        constructor
        · intro h; exact absurd h he
        · rintro ⟨l, hv⟩
          obtain ⟨r', m, t, hr', ht, hst, _⟩ := isV_nonempty hv hpos
          have h2 := fst_cons r' hr' t
          rw [← hst, hfs] at h2
          simp only [Prod.mk.injEq] at h2
          exact absurd h2.2.2 he
    · rw [if_neg hlt, suffix_nil s at_ (by omega)]
      exact ⟨fun _ => ⟨[], IsV.nil⟩, fun _ => rfl⟩

theorem replS_size : replS.size = 3 := by decide
theorem replS_v : IsV replS [65533] := IsV.one 65533 (by decide)

/-- What Repair writes, from an offset on. -/
theorem rep_facts (s : ByteArray) (f : Nat) : ∀ (at_ : Nat) (out : ByteArray), s.size - at_ < f → at_ ≤ s.size →
    ∃ d, repGo s f at_ out = out ++ d ∧ (∃ l, IsV d l) ∧ d.size ≤ 3 * (s.size - at_) ∧ (∀ l, IsV (s.extract at_ s.size) l → d = s.extract at_ s.size) := by
  induction f with
  | zero => intro at_ out h; omega
  | succ f ih =>
    intro at_ out hf hle
    rw [repGo]
    by_cases hlt : at_ < s.size
    · rw [if_pos hlt]
      obtain ⟨r, n, e, hfs⟩ : ∃ r n e, fstP (s.extract at_ s.size) = (r, n, e) := ⟨_, _, _, rfl⟩
      rw [hfs]
      simp only
      have hpos : 0 < (s.extract at_ s.size).size := by simp; omega
      by_cases he : e = 0
      · subst he
        obtain ⟨hc, hn, hl, hsp, hx⟩ := suffix_split s at_ r n hfs hlt
        have hel := encN_len r hc
        rw [if_pos rfl, hn, Int.toNat_natCast, hx]
        obtain ⟨d, hd, ⟨l, hv⟩, hds, hid⟩ := ih (at_ + (encN r).length) (out ++ strOfNums (encN r)) (by omega) hl
        refine ⟨strOfNums (encN r) ++ d, by rw [hd, ByteArray.append_assoc], ⟨r :: l, IsV.cons r l d hc hv⟩, ?_, ?_⟩
        · rw [ByteArray.size_append, strOfNums_size]; omega
        · intro m hm
          rw [hsp] at hm ⊢
          obtain ⟨r', m', t, hr', ht, hst, _⟩ := isV_nonempty hm (by rw [ByteArray.size_append, strOfNums_size]; omega)
          have h2 := fst_cons r hc (s.extract (at_ + (encN r).length) s.size)
          rw [hst, fst_cons r' hr' t] at h2
          simp only [Prod.mk.injEq] at h2
          obtain rfl := h2.1
          have h3 := congrArg (fun x : ByteArray => x.extract (encN r').length x.size) hst
          have h3 : (strOfNums (encN r') ++ s.extract (at_ + (encN r').length) s.size).extract (encN r').length (strOfNums (encN r') ++ s.extract (at_ + (encN r').length) s.size).size = (strOfNums (encN r') ++ t).extract (encN r').length (strOfNums (encN r') ++ t).size := h3
          rw [ByteArray.extract_append_eq_right (by rw [strOfNums_size]) (by rw [ByteArray.size_append]), ByteArray.extract_append_eq_right (by rw [strOfNums_size]) (by rw [ByteArray.size_append])] at h3
          rw [hid m' (by rw [h3]; exact ht)]
      · rw [if_neg he]
        have hk := skipGo_le s at_ 4 1 (by omega) (by omega)
        obtain ⟨d, hd, ⟨l, hv⟩, hds, hid⟩ := ih (at_ + skipGo s at_ 4 1) (out ++ replS) (by omega) (by omega)
        refine ⟨replS ++ d, by rw [hd, ByteArray.append_assoc], ⟨65533 :: l, replS_v.append hv⟩, ?_, ?_⟩
        · rw [ByteArray.size_append, replS_size]; omega
        · intro m hm
          obtain ⟨r', m', t, hr', ht, hst, _⟩ := isV_nonempty hm hpos
          have h2 := fst_cons r' hr' t
          rw [← hst, hfs] at h2
          simp only [Prod.mk.injEq] at h2
          exact absurd h2.2.2 he
    · rw [if_neg hlt]
      exact ⟨ByteArray.empty, by rw [ByteArray.append_empty], ⟨[], IsV.nil⟩, by simp, fun _ _ => (suffix_nil s at_ (by omega)).symm⟩

theorem extract_all (s : ByteArray) : s.extract 0 s.size = s := by apply ByteArray.ext; simp
theorem repP_facts (s : ByteArray) : (∃ l, IsV (repP s) l) ∧ (repP s).size ≤ 3 * s.size ∧ (∀ l, IsV s l → repP s = s) := by
  obtain ⟨d, hd, hv, hs, hid⟩ := rep_facts s (s.size + 1) 0 ⟨#[]⟩ (by omega) (by omega)
  have e : repP s = d := by
    unfold repP; rw [hd]; exact ByteArray.empty_append
  rw [e]
  rw [extract_all] at hid
  exact ⟨hv, by omega, hid⟩
theorem chk_valid (s : ByteArray) : (chkP s).2 = 0 ↔ ∃ l, IsV s l := by
  have h := all_valid s (s.size + 1) 0 [] [] (by omega) (by omega)
  rw [extract_all] at h
  rw [chkP_all]
  exact h
end Go.Proofs.Ytpjiidcnbceffaa.UA
