/- The order of the encodings' bytes is the order of the code points. No condition. -/
import Derived.Test.YtpjiidcnbceffaaH
namespace Go.Proofs.Ytpjiidcnbceffaa.UA
open Go Go.RowKit Go.Proofs.YtpjiidcnbceffaaW.PrintWords Go.Proofs.YtpjiidcnbceffaaW.PrintLast Go.Proofs.YtpjiidcnbceffaaW.PrintMore Go.Proofs.Ytpjiidcnbceffaa.Q
set_option linter.unusedVariables false
set_option linter.unusedSimpArgs false

/-- The order of two rows of numbers. -/
def lexL : List Int → List Int → Bool
  | _, [] => false
  | [], _ :: _ => true
  | a :: x, b :: y => decide (a < b) || (decide (a = b) && lexL x y)
def numsU (l : List Int) : List UInt8 := l.map fun x => UInt8.ofNat x.toNat
theorem less_lex (a b : List Int) (ha : ∀ x ∈ a, 0 ≤ x ∧ x ≤ 255) (hb : ∀ x ∈ b, 0 ≤ x ∧ x ≤ 255) : Op.bytesLess (numsU a) (numsU b) = lexL a b := by
  induction a generalizing b with
  | nil =>
    cases b with
    | nil => rfl
    | cons y b => rfl
  | cons x a ih =>
    cases b with
    | nil => rfl
    | cons y b =>
      have hx := ha x (by simp)
      have hy := hb y (by simp)
      show Op.bytesLess (UInt8.ofNat x.toNat :: numsU a) (UInt8.ofNat y.toNat :: numsU b) = lexL (x :: a) (y :: b)
      rw [Op.bytesLess, lexL, ih b (fun z hz => ha z (by simp [hz])) (fun z hz => hb z (by simp [hz]))]
      congr 1
      · rw [Bool.eq_iff_iff]
        simp [UInt8.lt_iff_toNat_lt]
        omega
      · congr 1
        rw [Bool.eq_iff_iff]
        simp [← UInt8.toNat_inj]
        omega
theorem lex_same (a b c : List Int) : lexL (a ++ b) (a ++ c) = lexL b c := by
  induction a with
  | nil => rfl
  | cons x a ih => simp [lexL, ih]
/-- Two different code points: their encodings differ at a place that lies in both, and lie there as the code points do. -/
def Dif (a b : List Int) : Prop := ∃ (p : List Int) (x y : Int) (a' b' : List Int), a = p ++ x :: a' ∧ b = p ++ y :: b' ∧ x < y
theorem dif_lex {a b : List Int} (h : Dif a b) (c d : List Int) : lexL (a ++ c) (b ++ d) = true ∧ lexL (b ++ d) (a ++ c) = false := by
  obtain ⟨p, x, y, a', b', rfl, rfl, hxy⟩ := h
  simp only [List.append_assoc, lex_same, List.cons_append, lexL]
  have e1 : ¬ y < x := by omega
  have e2 : ¬ y = x := by omega
  exact ⟨by simp [hxy], by simp [e1, e2]⟩
theorem dif1 {x y : Int} (a b : List Int) (h : x < y) : Dif (x :: a) (y :: b) := ⟨[], x, y, a, b, rfl, rfl, h⟩
theorem dif2 {x : Int} {a b : List Int} (h : Dif a b) : Dif (x :: a) (x :: b) := by
  obtain ⟨p, u, v, a', b', rfl, rfl, hxy⟩ := h
  exact ⟨x :: p, u, v, a', b', rfl, rfl, hxy⟩
theorem dif3 {x y : Int} {a b : List Int} (h : x < y ∨ (x = y ∧ Dif a b)) : Dif (x :: a) (y :: b) := by
  rcases h with h | ⟨rfl, h⟩
  · exact dif1 _ _ h
  · exact dif2 h
theorem enc_dif (r q : Int) (hr : isCp r = true) (hq : isCp q = true) (h : r < q) : Dif (encN r) (encN q) := by
  obtain ⟨r0, r1, r2⟩ := (isCp_iff r).1 hr
  obtain ⟨q0, q1, q2⟩ := (isCp_iff q).1 hq
  rcases encN_cases r hr with ⟨hr1, er⟩ | ⟨hr1, hr2, er⟩ | ⟨hr1, hr2, er⟩ | ⟨hr1, er⟩ <;>
  rcases encN_cases q hq with ⟨hq1, eq⟩ | ⟨hq1, hq2, eq⟩ | ⟨hq1, hq2, eq⟩ | ⟨hq1, eq⟩ <;> rw [er, eq] <;>
  first
  | (exfalso; omega)
  | (refine dif1 _ _ ?_; omega)
  | (by_cases c0 : r / 64 < q / 64
     · exact dif1 _ _ (by omega)
     · have e0 : r / 64 = q / 64 := by omega
       rw [e0]; exact dif2 (dif1 _ _ (by omega)))
  | (by_cases c0 : r / 64 / 64 < q / 64 / 64
     · exact dif1 _ _ (by omega)
     · have e0 : r / 64 / 64 = q / 64 / 64 := by omega
       rw [e0]
       by_cases c1 : r / 64 < q / 64
       · exact dif2 (dif1 _ _ (by omega))
       · have e1 : r / 64 = q / 64 := by omega
         rw [e1]; exact dif2 (dif2 (dif1 _ _ (by omega))))
  | (by_cases c0 : r / 64 / 64 / 64 < q / 64 / 64 / 64
     · exact dif1 _ _ (by omega)
     · have e0 : r / 64 / 64 / 64 = q / 64 / 64 / 64 := by omega
       rw [e0]
       by_cases c1 : r / 64 / 64 < q / 64 / 64
       · exact dif2 (dif1 _ _ (by omega))
       · have e1 : r / 64 / 64 = q / 64 / 64 := by omega
         rw [e1]
         by_cases c2 : r / 64 < q / 64
         · exact dif2 (dif2 (dif1 _ _ (by omega)))
         · have e2 : r / 64 = q / 64 := by omega
           rw [e2]; exact dif2 (dif2 (dif2 (dif1 _ _ (by omega)))))

/-- A valid string's bytes as numbers. -/
def encs (l : List Int) : List Int := (l.map encN).flatten
theorem isV_encs {s : ByteArray} {l : List Int} (h : IsV s l) : s.toList = numsU (encs l) ∧ ∀ r ∈ l, isCp r = true := by
  induction h with
  | nil => exact ⟨by decide +kernel, by simp⟩
  | cons r l t hr ht ih =>
    constructor
    · have h1 := ih.1
      rw [ByteArray.toList_eq] at h1 ⊢
      rw [ByteArray.data_append, Array.toList_append, h1, strOfNums_data]
      simp [encs, numsU]
    · intro q hq
      rcases List.mem_cons.1 hq with rfl | hq
      · exact hr
      · exact ih.2 q hq
theorem encs_byte (l : List Int) (hl : ∀ r ∈ l, isCp r = true) : ∀ x ∈ encs l, 0 ≤ x ∧ x ≤ 255 := by
  intro x hx
  simp only [encs, List.mem_flatten, List.mem_map] at hx
  obtain ⟨_, ⟨r, hr, rfl⟩, hx⟩ := hx
  exact encN_byte r (hl r hr) x hx
theorem encs_lex (l m : List Int) (hl : ∀ r ∈ l, isCp r = true) (hm : ∀ r ∈ m, isCp r = true) : lexL (encs l) (encs m) = lexL l m := by
  induction l generalizing m with
  | nil =>
    cases m with
    | nil => rfl
    | cons y m =>
      have h1 := (encN_len y (hm y (by simp))).1
      show lexL [] (encN y ++ encs m) = true
      cases he : encN y with
      | nil => rw [he] at h1; simp at h1
      | cons a b => rfl
  | cons x l ih =>
    cases m with
    | nil => simp [encs, lexL]
    | cons y m =>
      have hx := hl x (by simp)
      have hy := hm y (by simp)
      show lexL (encN x ++ encs l) (encN y ++ encs m) = lexL (x :: l) (y :: m)
      rw [lexL]
      rcases Int.lt_trichotomy x y with h | h | h
      · rw [(dif_lex (enc_dif x y hx hy h) _ _).1]; simp [h]
      · subst h
        rw [lex_same, ih m (fun r hr => hl r (by simp [hr])) (fun r hr => hm r (by simp [hr]))]
        simp
      · rw [(dif_lex (enc_dif y x hy hx h) _ _).2]
        have e1 : ¬ x < y := by omega
        have e2 : ¬ x = y := by omega
        simp [e1, e2]
theorem valid_order {s t : ByteArray} {l m : List Int} (hs : IsV s l) (ht : IsV t m) : Op.bytesLess s.toList t.toList = lexL l m := by
  obtain ⟨es, hl⟩ := isV_encs hs
  obtain ⟨et, hm⟩ := isV_encs ht
  rw [es, et, less_lex _ _ (encs_byte l hl) (encs_byte m hm), encs_lex l m hl hm]
end Go.Proofs.Ytpjiidcnbceffaa.UA
