/- The law Utf8Pieces. Condition: at most 1000000 bytes. -/
import Derived.Test.YtpjiidcnbceffaaN
namespace Go.Proofs.Ytpjiidcnbceffaa.UA
open Go Go.RowKit Go.Shelf Go.Proofs Go.Proofs.YtpjiidcnbceffaaW.PrintWords Go.Proofs.YtpjiidcnbceffaaW.PrintLast Go.Proofs.YtpjiidcnbceffaaW.PrintMore
set_option linter.unusedVariables false
set_option linter.unusedSimpArgs false
attribute [local go_sem] Oper.semAt_some

set_option maxHeartbeats 4000000 in
set_option maxRecDepth 100000 in
theorem pieces_bad (s0 s : ByteArray) (hs0 : s = s0.extract 0 (min s0.size 200)) (hs : s.size ≤ 200) (hv : ((chkP s).2 == 0) = false) (cuts : Value) (w : World) :
    Calls Try.prog 10 #[.string s0, cuts] w fun e w' => e = .returned (.bool true) ∧ Below w.heap.size w w' := by
  have HS := Aside0.mk hs0
  have HV := Aside0.mk hv
  clear hs0 hv
  go_enter Try.func10, Try.ntmps10
  go_wp2_with (first | (go_at_call 14; refine (short_is s0 s 200 HS.out _).mono ?_; rintro e_ w1 ⟨rfl, hb1⟩) | (go_at_call 17; refine (known_is _).mono ?_; rintro e_ w2 ⟨rfl, hb2⟩) | (go_at_call 18; refine (valid_is s (by omega) false HV.out _).mono ?_; rintro e_ w3 ⟨rfl, hb3⟩; have HBB := Aside0.mk ((hb1.trans (hb2.mono hb1.size)).trans (hb3.mono (Nat.le_trans hb1.size hb2.size)))))
  refine bodyPost_ret (results_tmp rfl _ _ _) rfl ⟨rfl, HBB.out.trans (hb2.mono (by have := HBB.out.size; omega))⟩

set_option maxHeartbeats 4000000 in
set_option maxRecDepth 100000 in
theorem pieces_ok (s0 s : ByteArray) (hs0 : s = s0.extract 0 (min s0.size 200)) (hs : s.size ≤ 200) (hv : ((chkP s).2 == 0) = true) (A : Option Addr) (c : Nat) (l : List Int) (hb : ∀ x ∈ l, 0 ≤ x ∧ x ≤ 255) (hlm : l.length ≤ maxLen) (w : World) (hr : Kd.C (Kd.int .u8) w A l.length l) :
    Calls Try.prog 10 #[.string s0, .slice A l.length c] w fun e w' => e = .returned (.bool true) ∧ Below w.heap.size w w' := by
  obtain ⟨vl, hvl⟩ := (chk_valid s).1 (by simpa using hv)
  have HVL := Aside0.mk hvl
  have HS := Aside0.mk hs0
  have HV := Aside0.mk hv
  have HR := Aside0.mk hr
  have HBL := Aside0.mk hb
  clear hs0 hv hr hvl hb
  have kc := fun (W : World) (x : ByteArray) => Lib.run_convert_string_bytes (P := Try.prog) W 9 38 5 x Try.underlying9 Try.underlying38 Try.underlying5
  go_enter Try.func10, Try.ntmps10
  go_wp2_with (first | (go_at_call 14; refine (short_is s0 s 200 HS.out _).mono ?_; rintro e_ w1 ⟨rfl, hb1⟩) | (go_at_call 17; refine (known_is _).mono ?_; rintro e_ w2 ⟨rfl, hb2⟩) | (go_at_call 18; refine (valid_is s (by omega) true HV.out _).mono ?_; rintro e_ w3 ⟨rfl, hb3⟩; have HB3 := Aside0.mk ((hb1.trans (hb2.mono hb1.size)).trans (hb3.mono (Nat.le_trans hb1.size hb2.size)))) | (go_at_call 30; refine (new_is w _ HB3.out).mono ?_; rintro e_ w4 ⟨g, rfl, hI, hB⟩; have HI := Aside0.mk hI; have HB := Aside0.mk hB; clear hI hB HB3))
  go_loopw [6, 7, 8] (fun p6 p7 p8 wr => ∃ (al rest pend : ByteArray) (i : Nat), p6 = .string al ∧ p7 = .string rest ∧ p8 = .int .i64 i ∧ Aside0 (al ++ (pend ++ rest) = s ∧ i ≤ 40 ∧ ∃ m, IsV (pend ++ rest) m) ∧ Aside0 (PP.IsS83 w wr g pend false) ∧ Aside0 (Below w.heap.size w wr))
    (fun _ _ p8 _ => 40 - (intOf p8).toNat)
  case atStart =>
    exact ⟨ByteArray.empty, s, ByteArray.empty, 0, rfl, rfl, rfl, ⟨by rw [ByteArray.empty_append, ByteArray.empty_append], by omega, vl, by rw [ByteArray.empty_append]; exact HVL.out⟩, HI, HB⟩
  case round =>
    obtain ⟨al, rest, pend, i, rfl, rfl, rfl, HA, HI, HB⟩ := hrel
    have hcell := HR.out
    have hle := HA.out.2.1
    by_cases h1 : i < l.length
    · by_cases h2 : i < 40
      · obtain ⟨ad, hA, hx⟩ := Kd.at_int (Kd.C_below HR.out HB.out) (i : Int) (by omega) (by omega)
        subst hA
        rw [Int.toNat_natCast] at hx
        have hq := HBL.out (rd l (i : Int)) (by simp only [rd, Int.toNat_natCast, List.getD_eq_getElem?_getD, List.getElem?_eq_getElem h1]; exact List.getElem_mem h1)
        obtain ⟨q, hq2⟩ := Int.eq_ofNat_of_zero_le hq.1
        rw [hq2] at hx
        have hmin : min (q : Int) (rest.size : Int) = ((min q rest.size : Nat) : Int) := by omega
        obtain ⟨n, hn⟩ : ∃ n, min q rest.size = n := ⟨_, rfl⟩
        rw [hn] at hmin
        have hnl : n ≤ rest.size := by omega
        have hsz := congrArg ByteArray.size HA.out.1
        rw [ByteArray.size_append, ByteArray.size_append] at hsz
        obtain ⟨vm, hvm⟩ := HA.out.2.2
        have hsp : rest.extract 0 n ++ rest.extract n rest.size = rest := by
          have := ByteArray.extract_eq_extract_append_extract (a := rest) (i := 0) (k := rest.size) n (by omega) hnl
          rw [extract_all] at this
          exact this.symm
        obtain ⟨out, pend', hw1, hw2, hw3, _⟩ := write_part pend (rest.extract 0 n) (rest.extract n rest.size) vm (by rw [ByteArray.append_assoc, hsp]; exact hvm)
        have HW1 := Aside0.mk hw1
        have HW2 := Aside0.mk hw2
        have HW3 := Aside0.mk hw3
        have HSP := Aside0.mk hsp
        have HSZ := Aside0.mk hsz
        clear hw1 hw2 hw3 hsp hsz hvm hn hcell
        have h2d : decide ((i : Int) < 40) = true := decide_eq_true (by omega)
        go_wp2_with (first | (go_at_call 31; refine (write_new2 g pend (rest.extract 0 n) n (by simp; omega) _ w _ HI.out HB.out (by have := HSZ.out; simp; omega) (grownCap_ge _ _ _ _) out pend' 0 HW1.out).mono ?_; rintro e_ w5 ⟨rfl, hI5, hB5⟩; have HI5 := Aside0.mk hI5; have HB5 := Aside0.mk hB5; clear hI5 hB5))
        have hos : al.size + out.size ≤ 9223372036854775807 := by have h := congrArg ByteArray.size HW2.out; rw [ByteArray.size_append, ByteArray.size_append] at h; have := HSZ.out; simp at h; omega
        go_quiet (fail)
        go_wp2
        go_roundw
        case rel =>
          exact ⟨al ++ out, rest.extract n rest.size, pend', i + 1, rfl, by first | rfl | simp, by first | rfl | go_num, ⟨by
            rw [ByteArray.append_assoc, ← ByteArray.append_assoc (b := pend'), HW2.out, ByteArray.append_assoc, HSP.out]; exact HA.out.1, by omega, HW3.out⟩, ⟨HI5.out.drewN _⟩, ⟨pw_below_drewN HB5.out _⟩⟩
        case measure => simp [intOf]; omega
      · have h2d : decide ((i : Int) < 40) = false := decide_eq_false (by omega)
        have hsz := congrArg ByteArray.size HA.out.1
        rw [ByteArray.size_append, ByteArray.size_append] at hsz
        obtain ⟨vm, hvm⟩ := HA.out.2.2
        obtain ⟨out, pend', hw1, hw2, _, hw4⟩ := write_part pend rest ByteArray.empty vm (by rw [ByteArray.append_empty]; exact hvm)
        have hp' := hw4 rfl ⟨vm, hvm⟩
        subst hp'
        rw [ByteArray.append_empty] at hw2
        have hao : al ++ out = s := by rw [hw2]; exact HA.out.1
        have hos : al.size + out.size ≤ 9223372036854775807 := by have h := congrArg ByteArray.size hao; rw [ByteArray.size_append] at h; omega
        have HW1 := Aside0.mk hw1
        have HSZ := Aside0.mk hsz
        clear hw1 hw2 hw4 hsz hvm hcell
        go_wp2_with (first | (go_at_call 31; refine (write_new2 g pend rest rest.size rfl _ w _ HI.out HB.out (by have := HSZ.out; omega) (grownCap_ge _ _ _ _) out ByteArray.empty 0 HW1.out).mono ?_; rintro e_ w5 ⟨rfl, hI5, hB5⟩; have HI5 := Aside0.mk hI5; have HB5 := Aside0.mk hB5; clear hI5 hB5) | (go_at_call 32; refine (close_is g ByteArray.empty rfl w _ HI5.out HB5.out).mono ?_; rintro e_ w6 ⟨rfl, hb6⟩))
        refine bodyPost_ret (results_tmp rfl _ _ _) rfl ⟨?_, hb6⟩
        first | rfl | simp
    · have hsz := congrArg ByteArray.size HA.out.1
      rw [ByteArray.size_append, ByteArray.size_append] at hsz
      obtain ⟨vm, hvm⟩ := HA.out.2.2
      obtain ⟨out, pend', hw1, hw2, _, hw4⟩ := write_part pend rest ByteArray.empty vm (by rw [ByteArray.append_empty]; exact hvm)
      have hp' := hw4 rfl ⟨vm, hvm⟩
      subst hp'
      rw [ByteArray.append_empty] at hw2
      have hao : al ++ out = s := by rw [hw2]; exact HA.out.1
      have hos : al.size + out.size ≤ 9223372036854775807 := by have h := congrArg ByteArray.size hao; rw [ByteArray.size_append] at h; omega
      have HW1 := Aside0.mk hw1
      have HSZ := Aside0.mk hsz
      clear hw1 hw2 hw4 hsz hvm hcell
      go_wp2_with (first | (go_at_call 31; refine (write_new2 g pend rest rest.size rfl _ w _ HI.out HB.out (by have := HSZ.out; omega) (grownCap_ge _ _ _ _) out ByteArray.empty 0 HW1.out).mono ?_; rintro e_ w5 ⟨rfl, hI5, hB5⟩; have HI5 := Aside0.mk hI5; have HB5 := Aside0.mk hB5; clear hI5 hB5) | (go_at_call 32; refine (close_is g ByteArray.empty rfl w _ HI5.out HB5.out).mono ?_; rintro e_ w6 ⟨rfl, hb6⟩))
      refine bodyPost_ret (results_tmp rfl _ _ _) rfl ⟨?_, hb6⟩
      first | rfl | simp
def bulletinlaw03_Utf8Pieces.Pure : Prop := True
theorem bulletinlaw03_Utf8Pieces.walk (P : bulletinlaw03_Utf8Pieces.Pure) (a0 : ByteArray) (a1 : Option Addr) (len1 cap1 : Nat) (z1 : List Int) (w : World) (w0 : a0.size ≤ 140737488351232)
    (w1 : (a1 = none ∧ len1 = 0 ∧ cap1 = 0 ∧ z1 = []) ∨ ∃ x, a1 = some x ∧ len1 ≤ cap1 ∧ cap1 ≤ maxLen ∧ z1.length = cap1 ∧ (∀ i, i < z1.length → w.cell? (x.add i) = some (.int .u8 (z1.getD i 0))) ∧ ∀ n ∈ z1, (Lit.int .u8 n).wf = true) (y1 : len1 * 1 ≤ 140737488351232) :
    Calls Try.prog 10 #[.string a0, .slice a1 len1 cap1] w fun e w' => e = .returned (.bool true) ∧ Below w.heap.size w w' := by
  obtain ⟨l1, rfl, hr1, hm1, hw1, hc1⟩ := ReadsInt.ofRowC w1
  have e1 : IntKind.u8.min = 0 := by decide +kernel
  have e2 : IntKind.u8.max = 255 := by decide +kernel
  cases hv : ((chkP (a0.extract 0 (min a0.size 200))).2 == 0) with
  | false => exact pieces_bad a0 _ rfl (short_size a0 200) hv _ w
  | true => exact pieces_ok a0 _ rfl (short_size a0 200) hv a1 cap1 l1 (fun x hx => by have := hw1 x hx; simp [Lit.wf] at this; omega) hm1 w (Kd.C_of_reads (d := (0 : Int)) (h1 := fun _ => rfl) hr1)
end Go.Proofs.Ytpjiidcnbceffaa.UA
namespace Go.Proofs.Ytpjiidcnbceffaa.Pure
/-- No pure part: all lies in the walk. -/
theorem Utf8Pieces : UA.bulletinlaw03_Utf8Pieces.Pure := trivial
end Go.Proofs.Ytpjiidcnbceffaa.Pure
