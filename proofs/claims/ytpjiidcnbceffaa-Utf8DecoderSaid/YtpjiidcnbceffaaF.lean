/- The contract of utf8.Repair: what it answers is repP. Condition: at most 1000000 bytes. -/
import Derived.Test.YtpjiidcnbceffaaE
namespace Go.Proofs.Ytpjiidcnbceffaa.UA
open Go Go.RowKit Go.Proofs.YtpjiidcnbceffaaW.PrintWords Go.Proofs.YtpjiidcnbceffaaW.PrintLast Go.Proofs.YtpjiidcnbceffaaW.PrintMore

theorem isBuilder_below {T e : TypeId} {B b : Nat} {bs : List Value} {w w' : World} (h : Lib.IsBuilder T e B b bs w) (hb : Below w.heap.size w w') : Lib.IsBuilder T e B b bs w' := by
  have key : ∀ p, Lib.BuilderAt T e B b p bs w → Lib.BuilderAt T e B b p bs w' := by
    intro p h
    have hlt := h.lt
    obtain ⟨hB, v, hbk, hown, hne⟩ := h
    exact ⟨hB, v, (hb.block b hlt).trans hbk, hown.kept (row := none) (grown_of_below hb none) (by cases hv : v.ownBlock <;> simp), hne⟩
  exact h.elim (fun x => .inl (key _ x)) (fun x => .inr (key _ x))

def replS : ByteArray := strOfNums (encN 65533)
theorem encode_fffd (w : World) : Calls Try.prog 21 #[.int .i32 65533] w fun e w' => e = .returned (.tuple #[.string replS, .int .i64 0]) ∧ Below w.heap.size w w' := by
  have := encode_any 65533 w
  rw [if_pos (by decide), if_pos (by decide)] at this
  exact this

/-- How many bytes an error takes: from n on. -/
def skipGo (s : ByteArray) (at_ : Nat) : Nat → Nat → Nat
  | 0, n => n
  | f + 1, n =>
    if n < 4 ∧ at_ + n < s.size then
      (if (begP (s.extract at_ (at_ + n + 1))).2 = false ∨ (begP (s.extract at_ (at_ + n + 1))).1 ≤ ((n + 1 : Nat) : Int) then n else skipGo s at_ f (n + 1))
    else n
theorem skipGo_le (s : ByteArray) (at_ f n : Nat) (h : n ≤ 4) (hs : at_ + n ≤ s.size) : n ≤ skipGo s at_ f n ∧ skipGo s at_ f n ≤ 4 ∧ at_ + skipGo s at_ f n ≤ s.size := by
  induction f generalizing n with
  | zero => exact ⟨Nat.le_refl _, h, hs⟩
  | succ f ih =>
    rw [skipGo]
    split
    · split
      · exact ⟨Nat.le_refl _, h, hs⟩
      · have := ih (n + 1) (by omega) (by omega); omega
    · exact ⟨Nat.le_refl _, h, hs⟩
/-- What Repair answers, from an offset on, behind what has been written. -/
def repGo (s : ByteArray) : Nat → Nat → ByteArray → ByteArray
  | 0, _, out => out
  | k + 1, at_, out =>
    if at_ < s.size then
      (if (fstP (s.extract at_ s.size)).2.2 = 0 then repGo s k (at_ + (fstP (s.extract at_ s.size)).2.1.toNat) (out ++ s.extract at_ (at_ + (fstP (s.extract at_ s.size)).2.1.toNat))
       else repGo s k (at_ + skipGo s at_ 4 1) (out ++ replS))
    else out
def repP (s : ByteArray) : ByteArray := repGo s (s.size + 1) 0 ⟨#[]⟩

theorem fstP_size (s : ByteArray) : (fstP s).2.2 = 0 → 1 ≤ (fstP s).2.1 ∧ (fstP s).2.1 ≤ s.size ∧ (fstP s).2.1 ≤ 4 := by
  intro h
  have hc := szOf_cases (bt s 0)
  unfold fstP at h ⊢
  simp only at h ⊢
  split at h
  · simp at h
  · split at h
    · split at h <;> simp at h
    · split at h
      · rename_i h1 h2 h3
        rw [if_neg h1, if_neg h2, if_pos h3]
        simp only
        omega
      · simp at h
theorem fstP_nonneg (s : ByteArray) : 0 ≤ (fstP s).2.1 := by
  unfold fstP
  simp only
  repeat' split
  all_goals first | omega | (simp; omega) | simp

theorem first_is (s : ByteArray) (hs : 0 < s.size) (r n e : Int) (h : fstP s = (r, n, e)) (w : World) : Calls Try.prog 37 #[.string s] w fun e_ w' => e_ = .returned (.tuple #[.int .i32 r, .int .i64 n, .int .i64 e]) ∧ Below w.heap.size w w' := by
  have := first_any s hs w
  rw [h] at this; exact this
theorem ret_str {a b : ByteArray} (h : a = b) : Ending.returned (.string a) = .returned (.string b) := by rw [h]
theorem strCells_app (a b : ByteArray) : Lib.strCells (a ++ b) = Lib.strCells a ++ Lib.strCells b := by
  simp [Lib.strCells, ByteArray.data_append]

set_option maxHeartbeats 4000000 in
set_option maxRecDepth 100000 in
theorem repair_any (s : ByteArray) (hs : s.size ≤ 1000000) (w : World) : Calls Try.prog 24 #[.string s] w fun e w' => e = .returned (.string (repP s)) ∧ Below w.heap.size w w' := by
  go_enter Try.func24, Try.ntmps24
  go_wp2_with (first | (go_at_call 21; refine (encode_fffd _).mono ?_; rintro e w1 ⟨rfl, hb1⟩))
  go_loopw [6] (fun v wr => ∃ (kf at_ : Nat) (out : ByteArray), v = .int .i64 at_ ∧ Aside0 (at_ ≤ s.size ∧ s.size - at_ < kf ∧ repGo s kf at_ out = repP s ∧ out.size ≤ 3 * at_) ∧ Aside0 (Lib.IsBuilder 71 5 w.heap.size w.heap.size (Lib.strCells out) wr) ∧ Aside0 (Below w.heap.size w wr)) (fun v _ => s.size - (intOf v).toNat)
  case atStart => exact ⟨s.size + 1, 0, ⟨#[]⟩, rfl, ⟨by omega, by omega, rfl, Nat.le_refl _⟩, ⟨isBuilder_below (Lib.fresh_isBuilder 71 5 w) hb1⟩, ⟨below_step (below_alloc (Below.refl _ _) _) hb1⟩⟩
  case round =>
    obtain ⟨kf, at_, out, rfl, HA, HI, HW⟩ := hrel
    have hle := HA.out.1
    by_cases hlt : at_ < s.size
    · obtain ⟨r, n, e, hf⟩ : ∃ r n e, fstP (s.extract at_ s.size) = (r, n, e) := ⟨_, _, _, rfl⟩
      have hn0 := fstP_nonneg (s.extract at_ s.size)
      rw [hf] at hn0
      obtain ⟨m, hm⟩ := Int.eq_ofNat_of_zero_le hn0
      simp only at hm
      subst hm
      have HF := Aside0.mk hf
      have hpos : 0 < (s.extract at_ s.size).size := by simp; omega
      by_cases he : e = 0
      · subst he
        have hb := fstP_size (s.extract at_ s.size) (by rw [hf])
        rw [hf] at hb
        simp at hb
        have hm1 : 1 ≤ m := by omega
        have hm2 : at_ + m ≤ s.size := by omega
        clear hb hf hn0
        have hs9 : s.size ≤ 9223372036854775807 := by omega
        have hsz : (s.extract at_ (at_ + m)).size = m := by simp; omega
        have hol : (Lib.strCells out).length = out.size := Lib.strCells_length out
        have hob := HA.out.2.2.2
        have c1_ : (Lib.strCells out).length + (s.extract at_ (at_ + m)).size ≤ 140737488355328 := by rw [hol, hsz]; omega
        have hrep : repGo s (kf - 1) (at_ + m) (out ++ s.extract at_ (at_ + m)) = repP s := by
          rw [← HA.out.2.2.1]
          obtain ⟨k, rfl⟩ : ∃ k, kf = k + 1 := ⟨kf - 1, by have := HA.out.2.1; omega⟩
          rw [repGo, if_pos hlt, HF.out]; simp
        have hos : (out ++ s.extract at_ (at_ + m)).size ≤ 3 * (at_ + m) := by simp only [ByteArray.size_append]; rw [hsz]; omega
        have HREP := Aside0.mk hrep
        have HOS := Aside0.mk hos
        clear hsz hol hob hrep hos
        go_wp2_with (first | (go_at_call 37; refine (first_is _ hpos _ _ _ HF.out _).mono ?_; rintro e w2 ⟨rfl, hb2⟩) | (go_at_call 42; refine (writeString_any w.heap.size w.heap.size _ _ _ (isBuilder_below HI.out hb2) c1_ (Nat.le_trans HW.out.size hb2.size)).mono ?_; rintro e w3 ⟨rfl, hB3, hb3⟩))
        go_roundw
        case rel => exact ⟨kf - 1, at_ + m, out ++ s.extract at_ (at_ + m), by go_num, ⟨hm2, by have := HA.out.2.1; omega, HREP.out, HOS.out⟩, ⟨by rw [strCells_app]; exact .inr hB3⟩, ⟨(below_step HW.out hb2).trans hb3⟩⟩
        case measure => simp [intOf]; omega
      · have hez : (e == 0) = false := beq_eq_false_iff_ne.2 he
        have hm1 : 1 ≤ s.size - at_ := by omega
        have hs9 : s.size ≤ 9223372036854775807 := by omega
        have hrz : replS.size = 3 := by decide
        have hol : (Lib.strCells out).length = out.size := Lib.strCells_length out
        have hob := HA.out.2.2.2
        have c1_ : (Lib.strCells out).length + replS.size ≤ 140737488355328 := by rw [hol, hrz]; omega
        obtain ⟨N, hN⟩ : ∃ N, skipGo s at_ 4 1 = N := ⟨_, rfl⟩
        have hNb := skipGo_le s at_ 4 1 (by omega) (by omega)
        rw [hN] at hNb
        have hrep : repGo s (kf - 1) (at_ + N) (out ++ replS) = repP s := by
          rw [← HA.out.2.2.1]
          obtain ⟨k, rfl⟩ : ∃ k, kf = k + 1 := ⟨kf - 1, by have := HA.out.2.1; omega⟩
          rw [repGo, if_pos hlt, HF.out, if_neg he, hN]; rfl
        have hos : (out ++ replS).size ≤ 3 * (at_ + N) := by simp only [ByteArray.size_append]; rw [hrz]; omega
        have HREP := Aside0.mk hrep
        have HOS := Aside0.mk hos
        have HN := Aside0.mk hN
        have HNB := Aside0.mk hNb
        clear hol hob hrep hos hrz hN hNb hf hn0 he
        go_wp2_with (first | (go_at_call 37; refine (first_is _ hpos _ _ _ HF.out _).mono ?_; rintro e w2 ⟨rfl, hb2⟩) | (go_at_call 42; refine (writeString_any w.heap.size w.heap.size _ _ _ (isBuilder_below HI.out hb2) c1_ (Nat.le_trans HW.out.size hb2.size)).mono ?_; rintro e w3 ⟨rfl, hB3, hb3⟩))
        have HI3 : Aside0 (Lib.IsBuilder 71 5 w.heap.size w.heap.size (Lib.strCells (out ++ replS)) w3) := ⟨by rw [strCells_app]; exact .inr hB3⟩
        have HW3 : Aside0 (Below w.heap.size w w3) := ⟨(below_step HW.out hb2).trans hb3⟩
        clear hB3 hb3 hb2 c1_
        obtain ⟨wo, hwo⟩ : ∃ wo : World, wo = wr := ⟨_, rfl⟩
        subst hwo
        go_loopw [10] (fun v wi => ∃ n f : Nat, v = .int .i64 n ∧ Aside0 (1 ≤ n ∧ n ≤ 4 ∧ at_ + n ≤ s.size ∧ skipGo s at_ f n = N ∧ 4 - n < f) ∧ Aside0 (Lib.IsBuilder 71 5 w.heap.size w.heap.size (Lib.strCells (out ++ replS)) wi) ∧ Aside0 (Below w.heap.size w wi)) (fun v _ => 4 - (intOf v).toNat)
        case atStart => exact ⟨1, 4, rfl, ⟨by omega, by omega, by omega, HN.out, by omega⟩, HI3, HW3⟩
        case round =>
          obtain ⟨n, f, rfl, HC, HI4, HW4⟩ := hrel
          have hn1 := HC.out.1
          have hn4 := HC.out.2.1
          have hns := HC.out.2.2.1
          clear HI3 HW3
          by_cases hc : n < 4 ∧ at_ + n < s.size
          · obtain ⟨hc1, hc2⟩ := hc
            obtain ⟨z, b, hzb⟩ : ∃ z b, begP (s.extract at_ (at_ + n + 1)) = (z, b) := ⟨_, _, rfl⟩
            have HZB := Aside0.mk hzb
            have hpz : 0 < (s.extract at_ (at_ + n + 1)).size := by simp; omega
            clear hzb
            by_cases hst : b = false ∨ z ≤ ((n + 1 : Nat) : Int)
            · have hNn : n = N := by
                have h4 := HC.out.2.2.2.1
                obtain ⟨k, rfl⟩ : ∃ k, f = k + 1 := ⟨f - 1, by have := HC.out.2.2.2.2; omega⟩
                rw [skipGo, if_pos ⟨hc1, hc2⟩, HZB.out, if_pos hst] at h4
                exact h4
              subst hNn
              cases b with
              | false =>
                clear hst
                go_wp2_with (first | (go_at_call 43; refine (begins_is _ hpz _ _ HZB.out _).mono ?_; rintro e w5 ⟨rfl, hb5⟩))
                go_roundw
                case rel => exact ⟨kf - 1, at_ + n, out ++ replS, by go_num, ⟨hns, by have := HA.out.2.1; omega, HREP.out, HOS.out⟩, ⟨isBuilder_below HI4.out hb5⟩, ⟨below_step HW4.out hb5⟩⟩
                case measure => simp [intOf]; omega
              | true =>
                have hz1 : z ≤ (n : Int) + 1 := by simpa using hst
                clear hst
                go_wp2_with (first | (go_at_call 43; refine (begins_is _ hpz _ _ HZB.out _).mono ?_; rintro e w5 ⟨rfl, hb5⟩))
                go_roundw
                case rel => exact ⟨kf - 1, at_ + n, out ++ replS, by go_num, ⟨hns, by have := HA.out.2.1; omega, HREP.out, HOS.out⟩, ⟨isBuilder_below HI4.out hb5⟩, ⟨below_step HW4.out hb5⟩⟩
                case measure => simp [intOf]; omega
            · have hbt : b = true := by
                cases b
                · exact absurd (Or.inl rfl) hst
                · rfl
              subst hbt
              have hz1 : (n : Int) + 1 < z := by
                have : ¬ z ≤ ((n + 1 : Nat) : Int) := fun h => hst (Or.inr h)
                omega
              have hnext : Aside0 (skipGo s at_ (f - 1) (n + 1) = N ∧ 4 - (n + 1) < f - 1) := ⟨by
                have h4 := HC.out.2.2.2.1
                have h5 := HC.out.2.2.2.2
                obtain ⟨k, rfl⟩ : ∃ k, f = k + 1 := ⟨f - 1, by omega⟩
                rw [skipGo, if_pos ⟨hc1, hc2⟩, HZB.out, if_neg hst] at h4
                exact ⟨h4, by omega⟩⟩
              clear hst
              go_wp2_with (first | (go_at_call 43; refine (begins_is _ hpz _ _ HZB.out _).mono ?_; rintro e w5 ⟨rfl, hb5⟩))
              go_roundw
              case rel => exact ⟨n + 1, f - 1, by go_num, ⟨by omega, by omega, by omega, hnext.out.1, hnext.out.2⟩, ⟨isBuilder_below HI4.out hb5⟩, ⟨below_step HW4.out hb5⟩⟩
              case measure => simp [intOf]; omega
          · have hNn : n = N := by
              have h4 := HC.out.2.2.2.1
              obtain ⟨k, rfl⟩ : ∃ k, f = k + 1 := ⟨f - 1, by have := HC.out.2.2.2.2; omega⟩
              rw [skipGo, if_neg hc] at h4
              exact h4
            subst hNn
            by_cases hc1 : n < 4
            · have hc2 : s.size ≤ at_ + n := by
                rcases Nat.lt_or_ge (at_ + n) s.size with h | h
                · exact absurd ⟨hc1, h⟩ hc
                · exact h
              clear hc
              go_wp2
              go_roundw
              case rel => exact ⟨kf - 1, at_ + n, out ++ replS, by go_num, ⟨hns, by have := HA.out.2.1; omega, HREP.out, HOS.out⟩, HI4, HW4⟩
              case measure => simp [intOf]; omega
            · clear hc
              go_wp2
              go_roundw
              case rel => exact ⟨kf - 1, at_ + n, out ++ replS, by go_num, ⟨hns, by have := HA.out.2.1; omega, HREP.out, HOS.out⟩, HI4, HW4⟩
              case measure => simp [intOf]; omega
    · have hge : s.size ≤ at_ := by omega
      have hout : Aside0 (out = repP s) := ⟨by
        have h := HA.out.2.2.1
        obtain ⟨k, rfl⟩ : ∃ k, kf = k + 1 := ⟨kf - 1, by have := HA.out.2.1; omega⟩
        rw [repGo, if_neg hlt] at h
        exact h⟩
      clear hlt
      go_wp2_with (first | (go_at_call 44; refine (Try.Builder_String_any w.heap.size w.heap.size out.data.toList _ HI.out HW.out.size).mono ?_; rintro e w5 ⟨rfl, hb5⟩))
      go_ret
      exact ⟨ret_str hout.out, HW.out.trans hb5⟩
#print axioms repair_any
end Go.Proofs.Ytpjiidcnbceffaa.UA
