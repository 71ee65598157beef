/- For any string of up to 300 bytes and any limit Truncate answers the longest whole beginning, as the reference has it. No condition. -/
import Derived.Test.YtpjiidcnbceffaaTx3
import Derived.Test.YtpjiidcnbceffaaH
namespace Go.Proofs.Ytpjiidcnbceffaa.Pure
open Go.RowKit Go.Proofs.Ytpjiidcnbceffaa.T Go.Proofs.Ytpjiidcnbceffaa.Q Go.Proofs.YtpjiidcnbceffaaW.PrintWords Go.Proofs.YtpjiidcnbceffaaW.PrintLast Go.Proofs.Ytpjiidcnbceffaa.UA
set_option linter.unusedVariables false
set_option linter.unusedSimpArgs false

theorem less_eq (a b : Int) : cmp_Less_int.f a b = some (decide (a < b)) := by
  simp [cmp_Less_int.f, cmp_isNaN_int.f]
theorem nan_eq (a : Int) : slices_isNaN_int.f a = some false := by simp [slices_isNaN_int.f]
theorem mid_eq (i j : Nat) (hi : i ≤ 10000000) (hj : j ≤ 10000000) : wrap64 ((IntKind.u64.wrap (wrap64 ((i : Int) + j))) / 2) = (((i + j) / 2 : Nat) : Int) := by
  rw [w64 ((i : Int) + j) (by omega)]
  have : IntKind.u64.wrap ((i : Int) + j) = (i : Int) + j := by
    simp [IntKind.wrap, IntKind.bits, IntKind.signed]; omega
  rw [this, w64 _ (by omega)]; omega
theorem rd_get (l : List Int) (i : Nat) (h : i < l.length) : rd l (i : Int) = l[i] := by simp [rd, List.getD_eq_getElem?_getD, h]

/-- The binary search: the first place whose number is not below x. -/
theorem search_eq (l : List Int) (hl : l.length ≤ 1000000) (hs : l.Pairwise (· < ·)) (x : Int) (n : Nat) : ∀ (i j : Nat) (k : Nat), j - i ≤ n → i ≤ j → j ≤ l.length → n + 2 ≤ k →
    (∀ q : Nat, (h : q < l.length) → q < i → l[q] < x) → (∀ q : Nat, (h : q < l.length) → j ≤ q → x ≤ l[q]) →
    ∃ (p : Nat) (b : Bool), slices_BinarySearch_int_int.l0 k l x (l.length : Int) i j = some ((p : Int), b) ∧ p ≤ l.length ∧ (∀ q : Nat, (h : q < l.length) → q < p → l[q] < x) ∧ (∀ q : Nat, (h : q < l.length) → p ≤ q → x ≤ l[q]) := by
  induction n with
  | zero =>
    intro i j k hn hij hjl hk hlo hhi
    obtain ⟨k, rfl⟩ : ∃ m, k = m + 1 := ⟨k - 1, by omega⟩
    obtain rfl : i = j := by omega
    rw [slices_BinarySearch_int_int.l0, if_neg (by omega)]
    by_cases h : i < l.length
    · rw [if_pos (by omega), if_pos (by omega), if_pos (by omega), nan_eq]
      by_cases hx : rd l i = x
      · rw [if_pos hx]; exact ⟨i, true, rfl, hjl, hlo, hhi⟩
      · rw [if_neg hx]; simp only [Option.bind_some]
        exact ⟨i, false, rfl, hjl, hlo, hhi⟩
    · rw [if_neg (by omega)]; exact ⟨i, false, rfl, hjl, hlo, hhi⟩
  | succ n ih =>
    intro i j k hn hij hjl hk hlo hhi
    by_cases hij2 : i < j
    · obtain ⟨k, rfl⟩ : ∃ m, k = m + 1 := ⟨k - 1, by omega⟩
      have hm : (i + j) / 2 < l.length := by omega
      rw [slices_BinarySearch_int_int.l0, if_pos (by omega), mid_eq i j (by omega) (by omega), if_pos (by omega), if_pos (by omega), less_eq, rd_get l _ hm]
      simp only [Option.bind_some]
      by_cases hc : l[(i + j) / 2] < x
      · rw [if_pos (decide_eq_true hc), w64 _ (by omega)]
        have := ih ((i + j) / 2 + 1) j k (by omega) (by omega) hjl (by omega) (fun q hq hqi => by
          by_cases e : q = (i + j) / 2
          · subst e; exact hc
          · have := List.pairwise_iff_getElem.1 hs q ((i + j) / 2) hq hm (by omega)
            omega) hhi
        simpa using this
      · rw [if_neg (by simpa using hc)]
        have := ih i ((i + j) / 2) k (by omega) (by omega) (by omega) (by omega) hlo (fun q hq hqi => by
          by_cases e : q = (i + j) / 2
          · subst e; omega
          · have := List.pairwise_iff_getElem.1 hs ((i + j) / 2) q hm hq (by omega)
            omega)
        exact this
    · exact ih i j k (by omega) hij hjl (by omega) hlo hhi

/-- The law's own loop: the last number that is no more than the limit. -/
theorem trunc_loop (s : ByteArray) (x : Int) (l : List Int) (hl : l.length ≤ 1000000) (hs : l.Pairwise (· < ·)) (out : ByteArray) (p : Nat) (hp1 : 1 ≤ p) (hp : p ≤ l.length)
    (hlo : ∀ q : Nat, (h : q < l.length) → (q < p ↔ l[q] ≤ x)) (hr : 0 ≤ rd l ((p - 1 : Nat) : Int) ∧ rd l ((p - 1 : Nat) : Int) ≤ s.size) (ho : out = s.extract 0 (rd l ((p - 1 : Nat) : Int)).toNat) (n : Nat) :
    ∀ (i : Nat) (c : Int) (k : Nat), l.length - i = n → i ≤ l.length → n + 2 ≤ k → (p ≤ i → c = rd l ((p - 1 : Nat) : Int)) → bulletinlaw03_Utf8Truncate.l0 k s x l out 0 c i = some true := by
  induction n with
  | zero =>
    intro i c k hn hi hk hc
    obtain ⟨k, rfl⟩ : ∃ m, k = m + 1 := ⟨k - 1, by omega⟩
    have := hc (by omega)
    subst this
    rw [bulletinlaw03_Utf8Truncate.l0, if_neg (by omega), if_pos rfl, if_pos hr.1, if_pos hr.2, ho]
    simp
  | succ n ih =>
    intro i c k hn hi hk hc
    obtain ⟨k, rfl⟩ : ∃ m, k = m + 1 := ⟨k - 1, by omega⟩
    have hil : i < l.length := by omega
    rw [bulletinlaw03_Utf8Truncate.l0, if_pos (by omega), if_pos (by omega), rd_get l i hil, w64 _ (by omega)]
    by_cases h : l[i] ≤ x
    · rw [if_pos h]
      have hip := (hlo i hil).2 h
      have := ih (i + 1) l[i] k (by omega) (by omega) (by omega) (fun e => by
        rw [rd_get l _ (by omega)]
        congr 1; omega)
      simpa using this
    · rw [if_neg h]
      have hip : ¬ i < p := fun e => h ((hlo i hil).1 e)
      have := ih (i + 1) c k (by omega) (by omega) (by omega) (fun e => hc (by omega))
      simpa using this

theorem Utf8Truncate : bulletinlaw03_Utf8Truncate.Pure := by
  intro s x _ hx
  refine ⟨900, ?_⟩
  have hxb : -9223372036854775808 ≤ x ∧ x ≤ 9223372036854775807 := by
    have e1 : IntKind.i64.min = -9223372036854775808 := by decide +kernel
    have e2 : IntKind.i64.max = 9223372036854775807 := by decide +kernel
    simp [Lit.wf] at hx
    omega
  unfold bulletinlaw03_Utf8Truncate.f
  have h1 := short_eq s 300
  have h2 := short_size s 300
  generalize s.extract 0 (min s.size 300) = t at h1 h2
  rw [show ((300 : Nat) : Int) = 300 from rfl] at h1
  rw [h1]
  simp only [Option.bind_some]
  rw [all_eq t (by omega) 900 (by omega), allP_pr]
  simp only [Option.bind_some]
  unfold utf8_Truncate.f
  rw [offsets_eq t (by omega)]
  have hl := prP_len t
  have hr := rns_len t
  have hol : (offs (prP t)).length = (prP t).length := offs_len _
  by_cases h : (chkP t).2 = 0
  · rw [if_pos h]
    simp only [Option.bind_some, if_true]
    by_cases hx0 : x < 0
    · rw [if_pos hx0]
      simp only [Option.bind_some]
      rw [known_eq 900 (by omega)]
      simp only [Option.bind_some, if_true]
      rw [if_pos h, if_pos hx0, if_pos (by decide +kernel)]
      rfl
    · rw [if_neg hx0]
      obtain ⟨hg, hb⟩ := offA_grow t
      have hln := offA_len t
      have hmn : 0 ≤ mn x (t.size : Int) ∧ mn x (t.size : Int) ≤ t.size ∧ ∀ y : Int, y ≤ t.size → (y < mn x (t.size : Int) + 1 ↔ y ≤ x) := by
        unfold mn; split
        · exact ⟨by omega, by omega, fun y hy => by omega⟩
        · exact ⟨by omega, by omega, fun y hy => by omega⟩
      rw [w64 _ (by omega)]
      obtain ⟨p, b, hf, hpl, hlo, hhi⟩ := search_eq (offA t) (by omega) hg (mn x (t.size : Int) + 1) (offA t).length 0 (offA t).length 900 (by omega) (by omega) (by omega) (by omega) (fun q _ h => by omega) (fun q h1 h2 => by omega)
      have hf' : slices_BinarySearch_int_int.f 900 (offA t) (mn x (t.size : Int) + 1) = some ((p : Int), b) := hf
      rw [hf']
      simp only [Option.bind_some]
      have hz : (offA t)[0]'(by omega) = 0 := by
        have := offA_zero t h
        rw [List.head?_eq_getElem?, List.getElem?_eq_getElem (by omega)] at this
        exact Option.some.inj this
      have hp1 : 1 ≤ p := by
        by_cases e : 1 ≤ p
        · exact e
        · have := hhi 0 (by omega) (by omega)
          rw [hz] at this; omega
      have hpm : p - 1 < (offA t).length := by omega
      have hbp := hb _ (List.getElem_mem hpm)
      rw [w64 _ (by omega), show (p : Int) - 1 = ((p - 1 : Nat) : Int) by omega, if_pos (by omega), if_pos (by omega)]
      have hrd : rd (offA t) ((p - 1 : Nat) : Int) = (offA t)[p - 1] := rd_get _ _ hpm
      rw [if_pos (by rw [hrd]; omega), if_pos (by rw [hrd]; omega)]
      simp only [Option.bind_some]
      rw [known_eq 900 (by omega)]
      simp only [Option.bind_some, if_true]
      rw [if_pos h, if_neg hx0, if_pos (by omega)]
      have := trunc_loop t x (offA t) (by omega) hg (t.extract 0 (rd (offA t) ((p - 1 : Nat) : Int)).toNat) p hp1 hpl (fun q hq => by
        have hbq := hb _ (List.getElem_mem hq)
        rw [← hmn.2.2 _ hbq.2]
        constructor
        · intro e; exact hlo q hq e
        · intro e
          by_cases e2 : q < p
          · exact e2
          · have := hhi q hq (by omega); omega) (by rw [hrd]; omega) rfl (offA t).length 0 0 900 (by omega) (by omega) (by omega) (fun e => by omega)
      exact this
  · rw [if_neg h]
    simp only [Option.bind_some]
    rw [if_neg h]
    simp only [Option.bind_some]
    rw [known_eq 900 (by omega)]
    simp only [Option.bind_some, if_true]
    rw [if_neg h, if_pos (by decide +kernel)]
    simp
end Go.Proofs.Ytpjiidcnbceffaa.Pure
