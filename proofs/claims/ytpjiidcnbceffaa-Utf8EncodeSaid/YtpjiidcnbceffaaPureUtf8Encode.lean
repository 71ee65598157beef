/- For any number Encode returns the encoding of the reference if it is a code point and ErrRange otherwise, and Decode is its inverse, whatever follows. No condition. -/
import Derived.Test.YtpjiidcnbceffaaQx3
import Derived.Test.YtpjiidcnbceffaaY
namespace Go.Proofs.Ytpjiidcnbceffaa.Pure
open Go Go.RowKit Go.Proofs.Ytpjiidcnbceffaa.Q Go.Proofs.YtpjiidcnbceffaaW.PrintWords Go.Proofs.YtpjiidcnbceffaaW.PrintLast Go.Proofs.Ytpjiidcnbceffaa.UA
set_option linter.unusedVariables false
set_option linter.unusedSimpArgs false

theorem size_step (r : Int) (i : Nat) (h1 : 1 ≤ i) (h4 : i ≤ 4) (k : Nat) : bulletinref03_Size.l0 (k + 1) r i = if r > mxOf i then bulletinref03_Size.l0 k r ((i + 1 : Nat) : Int) else some (i : Int) := by
  rw [bulletinref03_Size.l0, most_eq i h1 h4]
  simp only [Option.bind_some]
  rw [w64 _ (by omega)]
  rfl
theorem size_eq (r : Int) (h0 : 0 ≤ r) (h1 : r ≤ 1114111) (n : Nat) (hn : n = if r ≤ 127 then 1 else if r ≤ 2047 then 2 else if r ≤ 65535 then 3 else 4) (k : Nat) (hk : 6 ≤ k) : bulletinref03_Size.f k r = some (n : Int) := by
  obtain ⟨k, rfl⟩ : ∃ m, k = m + 6 := ⟨k - 6, by omega⟩
  unfold bulletinref03_Size.f
  have s1 := size_step r 1 (by omega) (by omega) (k + 5)
  have s2 := size_step r 2 (by omega) (by omega) (k + 4)
  have s3 := size_step r 3 (by omega) (by omega) (k + 3)
  have s4 := size_step r 4 (by omega) (by omega) (k + 2)
  have x1 : mxOf 1 = 127 := by decide
  have x2 : mxOf 2 = 2047 := by decide
  have x3 : mxOf 3 = 65535 := by decide
  have x4 : mxOf 4 = 1114111 := by decide
  rw [x1] at s1
  rw [x2] at s2
  rw [x3] at s3
  rw [x4] at s4
  refine Eq.trans s1 ?_
  by_cases h2 : r ≤ 127
  · rw [if_neg (by omega), hn, if_pos h2]
  rw [if_pos (by omega)]
  rw [if_neg h2] at hn
  refine Eq.trans s2 ?_
  by_cases h3 : r ≤ 2047
  · rw [if_neg (by omega), hn, if_pos h3]
  rw [if_pos (by omega)]
  rw [if_neg h3] at hn
  refine Eq.trans s3 ?_
  by_cases h4 : r ≤ 65535
  · rw [if_neg (by omega), hn, if_pos h4]
  rw [if_pos (by omega)]
  rw [if_neg h4] at hn
  refine Eq.trans s4 ?_
  rw [if_neg (by omega), hn]

theorem enc_round (r : Int) (h0 : 0 ≤ r) (h1 : r ≤ 1114111) (n : Nat) (out : List Int) (i : Nat) (hi : i < n) (hn : n ≤ 4) (ho : out.length ≤ 4) (k : Nat) :
    bulletinref03_Encode.l0 (k + 1) r n out i = bulletinref03_Encode.l0 k (r / 64) n ((128 + r % 64) :: out) ((i + 1 : Nat) : Int) := by
  rw [bulletinref03_Encode.l0, if_pos (by omega)]
  simp only [Option.bind_some]
  rw [if_pos (by simp; omega)]
  rw [Int.tmod_eq_emod_of_nonneg h0, Int.tdiv_eq_ediv_of_nonneg h0, w64 (128 + r % 64) (by omega), w64 (r / 64) (by omega), w64 ((i : Int) + 1) (by omega)]
  have e : (128 + r % 64) % 256 = 128 + r % 64 := by omega
  rw [e]
  rfl
theorem enc_last (r : Int) (h0 : 0 ≤ r) (n : Nat) (h2 : 2 ≤ n) (hn : n ≤ 4) (h1 : r ≤ if n = 2 then 31 else 15) (out : List Int) (ho : out.length ≤ 4) (k : Nat) :
    bulletinref03_Encode.l0 (k + 1) r n out n = some (((if n = 2 then 192 else if n = 3 then 224 else 240) + r) :: out) := by
  rw [bulletinref03_Encode.l0, if_neg (by omega)]
  simp only [Option.bind_some]
  rw [if_pos (by omega), if_pos (by simp; omega)]
  have hc : n = 2 ∨ n = 3 ∨ n = 4 := by omega
  rcases hc with rfl | rfl | rfl
  · rw [if_pos rfl] at h1
    rw [show rd [0, 0, 192, 224, 240] ((2 : Nat) : Int) = 192 from by decide, w64 _ (by omega), if_pos (by simp; omega)]
    have e : (192 + r) % 256 = 192 + r := by omega
    rw [e]; simp
  · rw [if_neg (by decide)] at h1
    rw [show rd [0, 0, 192, 224, 240] ((3 : Nat) : Int) = 224 from by decide, w64 _ (by omega), if_pos (by simp; omega)]
    have e : (224 + r) % 256 = 224 + r := by omega
    rw [e]; simp
  · rw [if_neg (by decide)] at h1
    rw [show rd [0, 0, 192, 224, 240] ((4 : Nat) : Int) = 240 from by decide, w64 _ (by omega), if_pos (by simp; omega)]
    have e : (240 + r) % 256 = 240 + r := by omega
    rw [e]; simp

theorem refEnc_eq (r : Int) (hr : isCp r = true) (k : Nat) (hk : 12 ≤ k) : bulletinref03_Encode.f k r = some (encN r) := by
  have hc := (isCp_iff r).1 hr
  unfold bulletinref03_Encode.f
  obtain ⟨k, rfl⟩ : ∃ m, k = m + 12 := ⟨k - 12, by omega⟩
  rcases encN_cases r hr with ⟨hr1, e⟩ | ⟨hr1, hr2, e⟩ | ⟨hr1, hr2, e⟩ | ⟨hr1, e⟩
  · rw [size_eq r (by omega) (by omega) 1 (by rw [if_pos hr1]) _ (by omega)]
    simp only [Option.bind_some]
    rw [if_pos (by decide), e]
    have : r % 256 = r := by omega
    rw [this]
  · rw [size_eq r (by omega) (by omega) 2 (by rw [if_neg (by omega), if_pos hr2]) _ (by omega)]
    simp only [Option.bind_some]
    rw [if_neg (by decide), show (1 : Int) = ((1 : Nat) : Int) from rfl, enc_round r (by omega) (by omega) 2 [] 1 (by omega) (by omega) (by simp)]
    rw [enc_last (r / 64) (by omega) 2 (by omega) (by omega) (by rw [if_pos rfl]; omega) _ (by simp), e]
    rfl
  · rw [size_eq r (by omega) (by omega) 3 (by rw [if_neg (by omega), if_neg (by omega), if_pos hr2]) _ (by omega)]
    simp only [Option.bind_some]
    rw [if_neg (by decide), show (1 : Int) = ((1 : Nat) : Int) from rfl, enc_round r (by omega) (by omega) 3 [] 1 (by omega) (by omega) (by simp)]
    rw [enc_round (r / 64) (by omega) (by omega) 3 _ 2 (by omega) (by omega) (by simp)]
    rw [enc_last (r / 64 / 64) (by omega) 3 (by omega) (by omega) (by rw [if_neg (by decide)]; omega) _ (by simp), e]
    rfl
  · rw [size_eq r (by omega) (by omega) 4 (by rw [if_neg (by omega), if_neg (by omega), if_neg (by omega)]) _ (by omega)]
    simp only [Option.bind_some]
    rw [if_neg (by decide), show (1 : Int) = ((1 : Nat) : Int) from rfl, enc_round r (by omega) (by omega) 4 [] 1 (by omega) (by omega) (by simp)]
    rw [enc_round (r / 64) (by omega) (by omega) 4 _ 2 (by omega) (by omega) (by simp)]
    rw [enc_round (r / 64 / 64) (by omega) (by omega) 4 _ 3 (by omega) (by omega) (by simp)]
    rw [enc_last (r / 64 / 64 / 64) (by omega) 4 (by omega) (by omega) (by rw [if_neg (by decide)]; omega) _ (by simp), e]
    rfl

theorem scalar_eq (r : Int) : bulletinref03_Scalar.f r = some (isCp r) := by
  unfold bulletinref03_Scalar.f
  by_cases h1 : 0 ≤ r
  · rw [if_pos (by omega)]
    by_cases h2 : r ≤ 1114111
    · rw [if_pos h2]
      by_cases h3 : r < 55296
      · rw [if_pos h3, (isCp_iff r).2 (by omega)]
      · rw [if_neg h3]
        by_cases h4 : r > 57343
        · rw [(isCp_iff r).2 (by omega)]; simp [h4]
        · have : isCp r = false := by
            cases h : isCp r with
            | false => rfl
            | true => have := (isCp_iff r).1 h; omega
          rw [this]; simp [h4]
    · rw [if_neg h2]
      have : isCp r = false := by
        cases h : isCp r with
        | false => rfl
        | true => have := (isCp_iff r).1 h; omega
      rw [this]
  · rw [if_neg (by omega)]
    have : isCp r = false := by
      cases h : isCp r with
      | false => rfl
      | true => have := (isCp_iff r).1 h; omega
    rw [this]

theorem Utf8Encode : bulletinlaw03_Utf8Encode.Pure := by
  intro r rest hw hsz
  refine ⟨500, ?_⟩
  have hr : -2147483648 ≤ r ∧ r ≤ 2147483647 := by
    simp [Lit.wf, IntKind.min, IntKind.max, IntKind.bits, IntKind.signed] at hw
    omega
  unfold bulletinlaw03_Utf8Encode.f
  have h1 := short_eq rest 20
  have h2 := short_size rest 20
  generalize rest.extract 0 (min rest.size 20) = t at h1 h2
  rw [show ((20 : Nat) : Int) = 20 from rfl] at h1
  rw [h1]
  simp only [Option.bind_some]
  rw [known_eq 500 (by omega)]
  unfold utf8_Encode.f
  by_cases hc : isCp r = true
  · rw [if_pos hc]
    simp only [Option.bind_some, if_true]
    rw [w64 r (by omega), scalar_eq, hc]
    simp only [Option.bind_some, if_true]
    have hl : (strOfNums (encN r)).size = (encN r).length := strOfNums_size _
    have hlen : 1 ≤ (encN r).length ∧ (encN r).length ≤ 4 := by
      rcases encN_cases r hc with ⟨_, e⟩ | ⟨_, _, e⟩ | ⟨_, _, e⟩ | ⟨_, e⟩ <;> rw [e] <;> simp
    rw [if_pos (by omega)]
    have hd : utf8_Decode.f (strOfNums (encN r) ++ t) = some (r, ((encN r).length : Int), 0) := by
      unfold utf8_Decode.f
      have hs : 0 < (strOfNums (encN r) ++ t).size := by simp only [ByteArray.size_append]; omega
      rw [if_neg (by
        rw [ByteArray.toList_eq]
        intro h
        have : (strOfNums (encN r) ++ t).data.toList.length = 0 := by rw [h]; rfl
        rw [Array.length_toList] at this
        have h3 : (strOfNums (encN r) ++ t).data.size = (strOfNums (encN r) ++ t).size := rfl
        omega)]
      unfold utf8_first.f
      rw [if_pos hs, fst_enc r hc _ (by simp only [ByteArray.size_append]; omega) (fun i hi => by
        rw [bt_app_left _ _ i (by omega), bt_nums _ (encN_byte r hc) i hi])]
      rfl
    rw [hd]
    simp only [Option.bind_some]
    rw [refEnc_eq r hc 500 (by omega)]
    simp [hl]
  · rw [if_neg hc]
    simp only [Option.bind_some, if_true]
    have hf : isCp r = false := by
      cases h : isCp r with
      | false => rfl
      | true => exact absurd h hc
    rw [w64 r (by omega), scalar_eq, hf]
    simp

end Go.Proofs.Ytpjiidcnbceffaa.Pure
