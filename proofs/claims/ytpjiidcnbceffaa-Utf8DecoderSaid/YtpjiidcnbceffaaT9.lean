/- The law Utf8Decoder. Condition: at most 1000000 bytes. -/
import Derived.Test.YtpjiidcnbceffaaT8
namespace Go.Proofs.Ytpjiidcnbceffaa.UA
open Go Go.RowKit Go.Shelf Go.Proofs Go.Proofs.YtpjiidcnbceffaaW.PrintWords Go.Proofs.YtpjiidcnbceffaaW.PrintLast Go.Proofs.YtpjiidcnbceffaaW.PrintMore
set_option linter.unusedVariables false
set_option linter.unusedSimpArgs false
attribute [local go_sem] Oper.semAt_some

/-- One piece of the argument. -/
structure PieceAt (w : World) (ad : Addr) (A : Option Addr) (L C : Nat) (zs : List Int) : Prop where
  cell : w.cell? ad = some (.slice A L C)
  le : L ≤ C
  nil : A = none → C = 0
  len : L ≤ zs.length
  byte : ∀ z ∈ zs, 0 ≤ z ∧ z ≤ 255
  cells : ∀ a', A = some a' → ∀ j, j < L → w.cell? (a'.add j) = some (.int .u8 (zs.getD j 0))

theorem slice_nil (L C m : Nat) (hm : m ≤ C) (W : World) : (Instr.sliceAt 38 (.slice none L C) none (some (.int .i64 (m : Int))) none).run Try.prog W = .ok (.slice none m C) W := by
  obtain ⟨i0, hi, hz0, hz1, hz2⟩ := info_parts infoU
  have h : (0 : Int) ≤ (m : Int) ∧ (m : Int) ≤ (C : Int) := ⟨Int.natCast_nonneg _, by omega⟩
  simp [Instr.sliceAt, Instr.slice, run_underlying Try.underlying38, Instr.sliceBounds, Instr.sliceBound, asIntOf, sizeOf, typeInfo, hi, h, hm]
theorem write_any2 (g : Nat) (cl : Bool) (p b : ByteArray) (A : Option Addr) (c : Nat) (l : List Int) (nb : Nat) (hnb : l.length = nb) (hl : strOfNums l = b) (w0 w : World) (hI : PP.IsS83 w0 w g p cl) (hB : Below w0.heap.size w0 w) (hr : Kd.C (Kd.int .u8) w A nb l) (hc : nb ≤ c)
    (hf : ∀ ad, A = some ad → 0 < nb → ad.block ≠ g) (hs : p.size + b.size ≤ 1000000) (out rest : ByteArray) (e : Int) (H : decW cl p b = (out, e, rest)) :
    Calls Try.prog 31 #[.pointer (some ⟨g, 0, none⟩), .slice A nb c] w fun e_ w' => e_ = .returned (.tuple #[.string out, .int .i64 e]) ∧ PP.IsS83 w0 w' g rest cl ∧ Below w0.heap.size w0 w' := by
  subst hnb
  exact write_any g cl p b A c l hl w0 w hI hB hr hc hf hs out rest e H
theorem decW_size (cl : Bool) (p b o r : ByteArray) (e : Int) (h : decW cl p b = (o, e, r)) : r.size ≤ p.size + b.size := by
  have hz : (p ++ b).size = p.size + b.size := ByteArray.size_append
  unfold decW at h
  split at h
  · cases h; omega
  · unfold writeP at h
    split at h
    · cases h; first | (simp; done) | (simp; omega)
    · split at h
      · cases h; first | (simp; done) | (simp; omega)
      · cases h; omega

set_option maxHeartbeats 8000000 in
set_option maxRecDepth 100000 in
theorem decoder_law (PA : Option Addr) (n PC : Nat) (CA : Option Addr) (k KC : Nat) (w : World) (hnm : n ≤ maxLen) (hkm : k ≤ maxLen)
    (hp : ∀ i, i < n → ∃ ad, PA = some ad ∧ ∃ A L C zs, PieceAt w (ad.add i) A L C zs)
    (hc : ∀ i, i < k → ∃ ad, CA = some ad ∧ ∃ b, w.cell? (ad.add i) = some (.bool b)) :
    Calls Try.prog 12 #[.slice PA n PC, .slice CA k KC] w fun e w' => e = .returned (.bool true) ∧ Below w.heap.size w w' := by
  have HP := Aside0.mk hp
  have HC := Aside0.mk hc
  clear hp hc
  go_enter Try.func12, Try.ntmps12
  go_wp2_with (first | (go_at_call 31; refine (write_nil _ _).mono ?_; rintro e_ w1 ⟨rfl, rfl⟩) | (go_at_call 17; refine (known_is _).mono ?_; rintro e_ w2 ⟨rfl, hb2⟩) | (go_at_call 34; refine (pending_nil _).mono ?_; rintro e_ w3 ⟨rfl, rfl⟩) | (go_at_call 32; refine (close_nil _).mono ?_; rintro e_ w3 ⟨rfl, rfl⟩) | (go_at_call 30; refine (new_is w _ ((below_alloc (Below.refl _ _) _).trans (hb2.mono (by simp)))).mono ?_; rintro e_ w4 ⟨g, rfl, hI, hB⟩; have HI := Aside0.mk hI; have HB := Aside0.mk hB; clear hI hB hb2))
  go_loopw [9, 10, 11] (fun p9 p10 p11 wr => ∃ (p : ByteArray) (cl : Bool) (i : Nat), p9 = .string p ∧ p10 = .bool cl ∧ p11 = .int .i64 i ∧ Aside0 (p.size ≤ 40 * i ∧ i ≤ 12) ∧ Aside0 (PP.IsS83 w wr g p cl) ∧ Aside0 (Below w.heap.size w wr))
    (fun _ _ p11 _ => 12 - (intOf p11).toNat)
  case atStart =>
    exact ⟨ByteArray.empty, false, 0, rfl, rfl, rfl, ⟨by simp, by omega⟩, HI, HB⟩
  case round =>
    obtain ⟨p, cl, i, rfl, rfl, rfl, HA, HI, HB⟩ := hrel
    have hle := HA.out.2
    by_cases h1 : i < n
    · by_cases h2 : i < 12
      · have h2d : decide ((i : Int) < 12) = true := decide_eq_true (by omega)
        obtain ⟨ad, hA, A, L, C, zs, hP⟩ := HP.out i h1
        subst hA
        have hcw := (HB.out.cell (World.block_lt_of_cell? _ _ hP.cell)).trans hP.cell
        have HPc := Aside0.mk hP
        have hLC := hP.le
        obtain ⟨m, hm⟩ : ∃ m, min L 40 = m := ⟨_, rfl⟩
        have hmin : min (L : Int) 40 = (m : Int) := by omega
        have hmC : m ≤ C := by omega
        have hmL : m ≤ L := by omega
        have hzl : m ≤ zs.length := Nat.le_trans hmL hP.len
        have hm40 : m ≤ 1000 := by omega
        have hi0 : (0 : Int) ≤ (i : Int) := Int.natCast_nonneg _
        have hi1 : (i : Int) < (n : Int) := by omega
        have hm0 : (0 : Int) ≤ (m : Int) := Int.natCast_nonneg _
        have hm1 : (m : Int) ≤ (C : Int) := by omega
        have hnil : A = none → m = 0 := fun e => by have := hP.nil e; omega
        have hxc : ∀ X : World, Below wr.heap.size wr X → ∀ a', A = some a' → ∀ j, j < m → X.cell? (a'.add j) = some (.int .u8 (zs.getD j 0)) := fun X hX a' ha j hj => by
          have h0 := hP.cells a' ha j (by omega)
          have h1 := (HB.out.cell (World.block_lt_of_cell? _ _ h0)).trans h0
          exact (hX.cell (World.block_lt_of_cell? _ _ h1)).trans h1
        have hnw := World.new_ne wr (ad.add i) hcw
        have hbs : (strOfNums (zs.take m)).size = m := by rw [strOfNums_size, List.length_take]; omega
        obtain ⟨out, e, rest, hw⟩ : ∃ out e rest, writeP p (strOfNums (zs.take m)) = (out, e, rest) := ⟨_, _, _, rfl⟩
        have HW := Aside0.mk hw
        clear hP hm hw
        have hreg : ∀ (Kx : Act → World → Prop), True := fun _ => trivial
        have hsplit : (¬ i < k) ∨ ∃ cad cb, CA = some cad ∧ i < k ∧ ∀ X : World, Below w.heap.size w X → X.cell? (cad.add i) = some (.bool cb) := by
          by_cases hk : i < k
          · obtain ⟨cad, hcA, cb, hcc⟩ := HC.out i hk
            exact .inr ⟨cad, cb, hcA, hk, fun X hX => (hX.cell (World.block_lt_of_cell? _ _ hcc)).trans hcc⟩
          · exact .inl hk
        clear hreg
        go_wp2
        cases A with
        | none =>
          have hC0 : C = 0 := HPc.out.nil rfl
          have HM0 : Aside0 (m = 0) := ⟨by omega⟩
          have ks := slice_nil L C m hmC
          clear hC0
          go_region_held3 (fun w' => w'.cell? (ad.add i) = some (.slice none L C))
            (first | go_keep | (obtain ⟨_, _, _, _, _, _, hbel⟩ := hn5; exact (hbel.cell (World.block_lt_of_cell? _ _ hcw)).trans (by assumption)))
            ((refine step_append_new (by rfl) _ _ (by rfl) wr.heap.size wr.heap.size 0 C none zs (by rfl) (by rfl) (fun _ => rfl) (Nat.zero_le _) (by decide) (by first | exact heap_alloc_new _ _ | simp) (Nat.le_refl _) (fun ad h => by cases h) ?_; intro v5 w5 hn5))
          all_goals (
            have hz0 := HM0.out
            subst hz0
            obtain ⟨A5, c5, rfl, hmc, hC5, hfar, hbel⟩ := hn5
            have hbel2 : Below wr.heap.size wr w5 := Below.trans (by repeat (first | exact Below.refl _ _ | apply below_alloc | apply pw_below_drewN | apply below_drew1)) hbel
            have hcv := Kd.C_string (P := Try.prog) (A := A5) (c := c5) Try.underlying38 Try.underlying5 Try.underlying9 hC5
            have HC5 := Aside0.mk hC5
            have HI5 := Aside0.mk (HI.out.below hbel2)
            have HB5 := Aside0.mk (HB.out.trans (hbel2.mono HB.out.size))
            clear hC5 hbel hbel2
            cases cl with
            | true =>
              have H2 : Aside0 (decW true p (strOfNums (zs.take 0)) = (⟨#[]⟩, 10, p)) := ⟨rfl⟩
              rcases hsplit with hk | ⟨cad, cb, rfl, hk, hcx⟩
              · have hkd : decide ((i : Int) < (k : Int)) = false := decide_eq_false (by omega)
                have hkp : ¬ ((i : Int) < (k : Int)) := by omega
                go_wp2_with (first | (go_at_call 35; refine (refwrite_is p (strOfNums (zs.take 0)) (by have := HA.out.1; rw [hbs]; omega) out rest e HW.out _).mono ?_; rintro e_ w6 ⟨rfl, hb6⟩; have HI6 := Aside0.mk (HI5.out.below hb6); have HB6 := Aside0.mk (HB5.out.trans (hb6.mono HB5.out.size)); have HC6 := Aside0.mk (Kd.C_below HC5.out hb6); clear hb6) | (go_at_call 31; refine (write_any2 g _ p (strOfNums (zs.take 0)) A5 c5 (zs.take 0) 0 (by simp) rfl w _ HI6.out HB6.out HC6.out hmc (fun a_ h_ _ => by have := hfar a_ h_; have := HI.out.lt; omega) (by have := HA.out.1; rw [hbs]; omega) _ _ _ H2.out).mono ?_; rintro e_ w7 ⟨rfl, hI7, hB7⟩; (try have hcc7 := HCX.out _ hB7); have HI7 := Aside0.mk hI7; have HB7 := Aside0.mk hB7; clear hI7 hB7) | (go_at_call 34; refine (pending_is g _ _ w _ HI8.out HB8.out).mono ?_; rintro e_ w9 ⟨rfl, rfl⟩) | (go_at_call 34; refine (pending_is g _ _ w _ HI7.out HB7.out).mono ?_; rintro e_ w9 ⟨rfl, rfl⟩) | (go_at_call 32; refine (close_any g _ _ w _ HI7.out HB7.out _ _ H3.out).mono ?_; rintro e_ w8 ⟨rfl, hI8, hB8⟩; have HI8 := Aside0.mk hI8; have HB8 := Aside0.mk hB8; clear hI8 hB8))
                go_roundw
                case rel => exact ⟨_, true, i + 1, rfl, rfl, by go_num, ⟨by have h7 := decW_size _ _ _ _ _ _ H2.out; have h8 := HA.out.1; rw [hbs] at h7; omega, by omega⟩, HI7, HB7⟩
                case measure => simp [intOf]; omega
              · have HCX := Aside0.mk hcx
                clear hcx
                have hkd : decide ((i : Int) < (k : Int)) = true := decide_eq_true (by omega)
                have hkp : (i : Int) < (k : Int) := by omega
                cases cb with
                | false =>
                  go_wp2_with (first | (go_at_call 35; refine (refwrite_is p (strOfNums (zs.take 0)) (by have := HA.out.1; rw [hbs]; omega) out rest e HW.out _).mono ?_; rintro e_ w6 ⟨rfl, hb6⟩; have HI6 := Aside0.mk (HI5.out.below hb6); have HB6 := Aside0.mk (HB5.out.trans (hb6.mono HB5.out.size)); have HC6 := Aside0.mk (Kd.C_below HC5.out hb6); clear hb6) | (go_at_call 31; refine (write_any2 g _ p (strOfNums (zs.take 0)) A5 c5 (zs.take 0) 0 (by simp) rfl w _ HI6.out HB6.out HC6.out hmc (fun a_ h_ _ => by have := hfar a_ h_; have := HI.out.lt; omega) (by have := HA.out.1; rw [hbs]; omega) _ _ _ H2.out).mono ?_; rintro e_ w7 ⟨rfl, hI7, hB7⟩; (try have hcc7 := HCX.out _ hB7); have HI7 := Aside0.mk hI7; have HB7 := Aside0.mk hB7; clear hI7 hB7) | (go_at_call 34; refine (pending_is g _ _ w _ HI8.out HB8.out).mono ?_; rintro e_ w9 ⟨rfl, rfl⟩) | (go_at_call 34; refine (pending_is g _ _ w _ HI7.out HB7.out).mono ?_; rintro e_ w9 ⟨rfl, rfl⟩) | (go_at_call 32; refine (close_any g _ _ w _ HI7.out HB7.out _ _ H3.out).mono ?_; rintro e_ w8 ⟨rfl, hI8, hB8⟩; have HI8 := Aside0.mk hI8; have HB8 := Aside0.mk hB8; clear hI8 hB8))
                  go_roundw
                  case rel => exact ⟨_, true, i + 1, rfl, rfl, by go_num, ⟨by have h7 := decW_size _ _ _ _ _ _ H2.out; have h8 := HA.out.1; rw [hbs] at h7; omega, by omega⟩, HI7, HB7⟩
                  case measure => simp [intOf]; omega
                | true =>
                  have H3 : Aside0 (decC true p = (10, true)) := ⟨rfl⟩
                  go_wp2_with (first | (go_at_call 35; refine (refwrite_is p (strOfNums (zs.take 0)) (by have := HA.out.1; rw [hbs]; omega) out rest e HW.out _).mono ?_; rintro e_ w6 ⟨rfl, hb6⟩; have HI6 := Aside0.mk (HI5.out.below hb6); have HB6 := Aside0.mk (HB5.out.trans (hb6.mono HB5.out.size)); have HC6 := Aside0.mk (Kd.C_below HC5.out hb6); clear hb6) | (go_at_call 31; refine (write_any2 g _ p (strOfNums (zs.take 0)) A5 c5 (zs.take 0) 0 (by simp) rfl w _ HI6.out HB6.out HC6.out hmc (fun a_ h_ _ => by have := hfar a_ h_; have := HI.out.lt; omega) (by have := HA.out.1; rw [hbs]; omega) _ _ _ H2.out).mono ?_; rintro e_ w7 ⟨rfl, hI7, hB7⟩; (try have hcc7 := HCX.out _ hB7); have HI7 := Aside0.mk hI7; have HB7 := Aside0.mk hB7; clear hI7 hB7) | (go_at_call 34; refine (pending_is g _ _ w _ HI8.out HB8.out).mono ?_; rintro e_ w9 ⟨rfl, rfl⟩) | (go_at_call 34; refine (pending_is g _ _ w _ HI7.out HB7.out).mono ?_; rintro e_ w9 ⟨rfl, rfl⟩) | (go_at_call 32; refine (close_any g _ _ w _ HI7.out HB7.out _ _ H3.out).mono ?_; rintro e_ w8 ⟨rfl, hI8, hB8⟩; have HI8 := Aside0.mk hI8; have HB8 := Aside0.mk hB8; clear hI8 hB8))
                  go_roundw
                  case rel => exact ⟨_, true, i + 1, rfl, rfl, by go_num, ⟨by have h7 := decW_size _ _ _ _ _ _ H2.out; have h8 := HA.out.1; rw [hbs] at h7; omega, by omega⟩, HI8, HB8⟩
                  case measure => simp [intOf]; omega
            | false =>
              have H2 : Aside0 (decW false p (strOfNums (zs.take 0)) = (out, e, rest)) := ⟨HW.out⟩
              rcases hsplit with hk | ⟨cad, cb, rfl, hk, hcx⟩
              · have hkd : decide ((i : Int) < (k : Int)) = false := decide_eq_false (by omega)
                have hkp : ¬ ((i : Int) < (k : Int)) := by omega
                go_wp2_with (first | (go_at_call 35; refine (refwrite_is p (strOfNums (zs.take 0)) (by have := HA.out.1; rw [hbs]; omega) out rest e HW.out _).mono ?_; rintro e_ w6 ⟨rfl, hb6⟩; have HI6 := Aside0.mk (HI5.out.below hb6); have HB6 := Aside0.mk (HB5.out.trans (hb6.mono HB5.out.size)); have HC6 := Aside0.mk (Kd.C_below HC5.out hb6); clear hb6) | (go_at_call 31; refine (write_any2 g _ p (strOfNums (zs.take 0)) A5 c5 (zs.take 0) 0 (by simp) rfl w _ HI6.out HB6.out HC6.out hmc (fun a_ h_ _ => by have := hfar a_ h_; have := HI.out.lt; omega) (by have := HA.out.1; rw [hbs]; omega) _ _ _ H2.out).mono ?_; rintro e_ w7 ⟨rfl, hI7, hB7⟩; (try have hcc7 := HCX.out _ hB7); have HI7 := Aside0.mk hI7; have HB7 := Aside0.mk hB7; clear hI7 hB7) | (go_at_call 34; refine (pending_is g _ _ w _ HI8.out HB8.out).mono ?_; rintro e_ w9 ⟨rfl, rfl⟩) | (go_at_call 34; refine (pending_is g _ _ w _ HI7.out HB7.out).mono ?_; rintro e_ w9 ⟨rfl, rfl⟩) | (go_at_call 32; refine (close_any g _ _ w _ HI7.out HB7.out _ _ H3.out).mono ?_; rintro e_ w8 ⟨rfl, hI8, hB8⟩; have HI8 := Aside0.mk hI8; have HB8 := Aside0.mk hB8; clear hI8 hB8))
                go_roundw
                case rel => exact ⟨_, false, i + 1, rfl, rfl, by go_num, ⟨by have h7 := decW_size _ _ _ _ _ _ H2.out; have h8 := HA.out.1; rw [hbs] at h7; omega, by omega⟩, HI7, HB7⟩
                case measure => simp [intOf]; omega
              · have HCX := Aside0.mk hcx
                clear hcx
                have hkd : decide ((i : Int) < (k : Int)) = true := decide_eq_true (by omega)
                have hkp : (i : Int) < (k : Int) := by omega
                cases cb with
                | false =>
                  go_wp2_with (first | (go_at_call 35; refine (refwrite_is p (strOfNums (zs.take 0)) (by have := HA.out.1; rw [hbs]; omega) out rest e HW.out _).mono ?_; rintro e_ w6 ⟨rfl, hb6⟩; have HI6 := Aside0.mk (HI5.out.below hb6); have HB6 := Aside0.mk (HB5.out.trans (hb6.mono HB5.out.size)); have HC6 := Aside0.mk (Kd.C_below HC5.out hb6); clear hb6) | (go_at_call 31; refine (write_any2 g _ p (strOfNums (zs.take 0)) A5 c5 (zs.take 0) 0 (by simp) rfl w _ HI6.out HB6.out HC6.out hmc (fun a_ h_ _ => by have := hfar a_ h_; have := HI.out.lt; omega) (by have := HA.out.1; rw [hbs]; omega) _ _ _ H2.out).mono ?_; rintro e_ w7 ⟨rfl, hI7, hB7⟩; (try have hcc7 := HCX.out _ hB7); have HI7 := Aside0.mk hI7; have HB7 := Aside0.mk hB7; clear hI7 hB7) | (go_at_call 34; refine (pending_is g _ _ w _ HI8.out HB8.out).mono ?_; rintro e_ w9 ⟨rfl, rfl⟩) | (go_at_call 34; refine (pending_is g _ _ w _ HI7.out HB7.out).mono ?_; rintro e_ w9 ⟨rfl, rfl⟩) | (go_at_call 32; refine (close_any g _ _ w _ HI7.out HB7.out _ _ H3.out).mono ?_; rintro e_ w8 ⟨rfl, hI8, hB8⟩; have HI8 := Aside0.mk hI8; have HB8 := Aside0.mk hB8; clear hI8 hB8))
                  go_roundw
                  case rel => exact ⟨_, false, i + 1, rfl, rfl, by go_num, ⟨by have h7 := decW_size _ _ _ _ _ _ H2.out; have h8 := HA.out.1; rw [hbs] at h7; omega, by omega⟩, HI7, HB7⟩
                  case measure => simp [intOf]; omega
                | true =>
                  by_cases hr : rest.toList = ([] : List UInt8)
                  · have H3 : Aside0 (decC false rest = (0, true)) := ⟨by unfold decC; rw [if_neg (by decide), if_pos hr]⟩
                    have c4b0 : (rest.toList == ([] : List UInt8)) = true := beq_iff_eq.mpr hr
                    have c4b1 : (rest.toList != ([] : List UInt8)) = false := bne_eq_false_iff_eq.mpr hr
                    clear hr
                    go_wp2_with (first | (go_at_call 35; refine (refwrite_is p (strOfNums (zs.take 0)) (by have := HA.out.1; rw [hbs]; omega) out rest e HW.out _).mono ?_; rintro e_ w6 ⟨rfl, hb6⟩; have HI6 := Aside0.mk (HI5.out.below hb6); have HB6 := Aside0.mk (HB5.out.trans (hb6.mono HB5.out.size)); have HC6 := Aside0.mk (Kd.C_below HC5.out hb6); clear hb6) | (go_at_call 31; refine (write_any2 g _ p (strOfNums (zs.take 0)) A5 c5 (zs.take 0) 0 (by simp) rfl w _ HI6.out HB6.out HC6.out hmc (fun a_ h_ _ => by have := hfar a_ h_; have := HI.out.lt; omega) (by have := HA.out.1; rw [hbs]; omega) _ _ _ H2.out).mono ?_; rintro e_ w7 ⟨rfl, hI7, hB7⟩; (try have hcc7 := HCX.out _ hB7); have HI7 := Aside0.mk hI7; have HB7 := Aside0.mk hB7; clear hI7 hB7) | (go_at_call 34; refine (pending_is g _ _ w _ HI8.out HB8.out).mono ?_; rintro e_ w9 ⟨rfl, rfl⟩) | (go_at_call 34; refine (pending_is g _ _ w _ HI7.out HB7.out).mono ?_; rintro e_ w9 ⟨rfl, rfl⟩) | (go_at_call 32; refine (close_any g _ _ w _ HI7.out HB7.out _ _ H3.out).mono ?_; rintro e_ w8 ⟨rfl, hI8, hB8⟩; have HI8 := Aside0.mk hI8; have HB8 := Aside0.mk hB8; clear hI8 hB8))
                    go_roundw
                    case rel => exact ⟨_, true, i + 1, rfl, rfl, by go_num, ⟨by have h7 := decW_size _ _ _ _ _ _ H2.out; have h8 := HA.out.1; rw [hbs] at h7; omega, by omega⟩, HI8, HB8⟩
                    case measure => simp [intOf]; omega
                  · have H3 : Aside0 (decC false rest = (23, false)) := ⟨by unfold decC; rw [if_neg (by decide), if_neg hr]⟩
                    have c4b0 : (rest.toList == ([] : List UInt8)) = false := beq_eq_false_iff_ne.mpr hr
                    have c4b1 : (rest.toList != ([] : List UInt8)) = true := bne_iff_ne.mpr hr
                    clear hr
                    go_wp2_with (first | (go_at_call 35; refine (refwrite_is p (strOfNums (zs.take 0)) (by have := HA.out.1; rw [hbs]; omega) out rest e HW.out _).mono ?_; rintro e_ w6 ⟨rfl, hb6⟩; have HI6 := Aside0.mk (HI5.out.below hb6); have HB6 := Aside0.mk (HB5.out.trans (hb6.mono HB5.out.size)); have HC6 := Aside0.mk (Kd.C_below HC5.out hb6); clear hb6) | (go_at_call 31; refine (write_any2 g _ p (strOfNums (zs.take 0)) A5 c5 (zs.take 0) 0 (by simp) rfl w _ HI6.out HB6.out HC6.out hmc (fun a_ h_ _ => by have := hfar a_ h_; have := HI.out.lt; omega) (by have := HA.out.1; rw [hbs]; omega) _ _ _ H2.out).mono ?_; rintro e_ w7 ⟨rfl, hI7, hB7⟩; (try have hcc7 := HCX.out _ hB7); have HI7 := Aside0.mk hI7; have HB7 := Aside0.mk hB7; clear hI7 hB7) | (go_at_call 34; refine (pending_is g _ _ w _ HI8.out HB8.out).mono ?_; rintro e_ w9 ⟨rfl, rfl⟩) | (go_at_call 34; refine (pending_is g _ _ w _ HI7.out HB7.out).mono ?_; rintro e_ w9 ⟨rfl, rfl⟩) | (go_at_call 32; refine (close_any g _ _ w _ HI7.out HB7.out _ _ H3.out).mono ?_; rintro e_ w8 ⟨rfl, hI8, hB8⟩; have HI8 := Aside0.mk hI8; have HB8 := Aside0.mk hB8; clear hI8 hB8))
                    go_roundw
                    case rel => exact ⟨_, false, i + 1, rfl, rfl, by go_num, ⟨by have h7 := decW_size _ _ _ _ _ _ H2.out; have h8 := HA.out.1; rw [hbs] at h7; omega, by omega⟩, HI8, HB8⟩
                    case measure => simp [intOf]; omega)
        | some a' =>
          go_region_held3 (fun w' => w'.cell? (ad.add i) = some (.slice (some a') L C))
            (first | go_keep | (obtain ⟨_, _, _, _, _, _, hbel⟩ := hn5; exact (hbel.cell (World.block_lt_of_cell? _ _ hcw)).trans (by assumption)))
            ((refine step_append_new (by rfl) _ _ (by rfl) wr.heap.size wr.heap.size m C (some a') zs (by rfl) (by rfl) hnil hzl hm40 (by first | exact heap_alloc_new _ _ | simp) (Nat.le_refl _) (hxc _ (by repeat (first | exact Below.refl _ _ | apply below_alloc | apply pw_below_drewN | apply below_drew1))) ?_; intro v5 w5 hn5))
          all_goals (
            obtain ⟨A5, c5, rfl, hmc, hC5, hfar, hbel⟩ := hn5
            have hbel2 : Below wr.heap.size wr w5 := Below.trans (by repeat (first | exact Below.refl _ _ | apply below_alloc | apply pw_below_drewN | apply below_drew1)) hbel
            have hcv := Kd.C_string (P := Try.prog) (A := A5) (c := c5) Try.underlying38 Try.underlying5 Try.underlying9 hC5
            have HC5 := Aside0.mk hC5
            have HI5 := Aside0.mk (HI.out.below hbel2)
            have HB5 := Aside0.mk (HB.out.trans (hbel2.mono HB.out.size))
            clear hC5 hbel hbel2
            cases cl with
            | true =>
              have H2 : Aside0 (decW true p (strOfNums (zs.take m)) = (⟨#[]⟩, 10, p)) := ⟨rfl⟩
              rcases hsplit with hk | ⟨cad, cb, rfl, hk, hcx⟩
              · have hkd : decide ((i : Int) < (k : Int)) = false := decide_eq_false (by omega)
                have hkp : ¬ ((i : Int) < (k : Int)) := by omega
                go_wp2_with (first | (go_at_call 35; refine (refwrite_is p (strOfNums (zs.take m)) (by have := HA.out.1; rw [hbs]; omega) out rest e HW.out _).mono ?_; rintro e_ w6 ⟨rfl, hb6⟩; have HI6 := Aside0.mk (HI5.out.below hb6); have HB6 := Aside0.mk (HB5.out.trans (hb6.mono HB5.out.size)); have HC6 := Aside0.mk (Kd.C_below HC5.out hb6); clear hb6) | (go_at_call 31; refine (write_any2 g _ p (strOfNums (zs.take m)) A5 c5 (zs.take m) m (by simp; omega) rfl w _ HI6.out HB6.out HC6.out hmc (fun a_ h_ _ => by have := hfar a_ h_; have := HI.out.lt; omega) (by have := HA.out.1; rw [hbs]; omega) _ _ _ H2.out).mono ?_; rintro e_ w7 ⟨rfl, hI7, hB7⟩; (try have hcc7 := HCX.out _ hB7); have HI7 := Aside0.mk hI7; have HB7 := Aside0.mk hB7; clear hI7 hB7) | (go_at_call 34; refine (pending_is g _ _ w _ HI8.out HB8.out).mono ?_; rintro e_ w9 ⟨rfl, rfl⟩) | (go_at_call 34; refine (pending_is g _ _ w _ HI7.out HB7.out).mono ?_; rintro e_ w9 ⟨rfl, rfl⟩) | (go_at_call 32; refine (close_any g _ _ w _ HI7.out HB7.out _ _ H3.out).mono ?_; rintro e_ w8 ⟨rfl, hI8, hB8⟩; have HI8 := Aside0.mk hI8; have HB8 := Aside0.mk hB8; clear hI8 hB8))
                go_roundw
                case rel => exact ⟨_, true, i + 1, rfl, rfl, by go_num, ⟨by have h7 := decW_size _ _ _ _ _ _ H2.out; have h8 := HA.out.1; rw [hbs] at h7; omega, by omega⟩, HI7, HB7⟩
                case measure => simp [intOf]; omega
              · have HCX := Aside0.mk hcx
                clear hcx
                have hkd : decide ((i : Int) < (k : Int)) = true := decide_eq_true (by omega)
                have hkp : (i : Int) < (k : Int) := by omega
                cases cb with
                | false =>
                  go_wp2_with (first | (go_at_call 35; refine (refwrite_is p (strOfNums (zs.take m)) (by have := HA.out.1; rw [hbs]; omega) out rest e HW.out _).mono ?_; rintro e_ w6 ⟨rfl, hb6⟩; have HI6 := Aside0.mk (HI5.out.below hb6); have HB6 := Aside0.mk (HB5.out.trans (hb6.mono HB5.out.size)); have HC6 := Aside0.mk (Kd.C_below HC5.out hb6); clear hb6) | (go_at_call 31; refine (write_any2 g _ p (strOfNums (zs.take m)) A5 c5 (zs.take m) m (by simp; omega) rfl w _ HI6.out HB6.out HC6.out hmc (fun a_ h_ _ => by have := hfar a_ h_; have := HI.out.lt; omega) (by have := HA.out.1; rw [hbs]; omega) _ _ _ H2.out).mono ?_; rintro e_ w7 ⟨rfl, hI7, hB7⟩; (try have hcc7 := HCX.out _ hB7); have HI7 := Aside0.mk hI7; have HB7 := Aside0.mk hB7; clear hI7 hB7) | (go_at_call 34; refine (pending_is g _ _ w _ HI8.out HB8.out).mono ?_; rintro e_ w9 ⟨rfl, rfl⟩) | (go_at_call 34; refine (pending_is g _ _ w _ HI7.out HB7.out).mono ?_; rintro e_ w9 ⟨rfl, rfl⟩) | (go_at_call 32; refine (close_any g _ _ w _ HI7.out HB7.out _ _ H3.out).mono ?_; rintro e_ w8 ⟨rfl, hI8, hB8⟩; have HI8 := Aside0.mk hI8; have HB8 := Aside0.mk hB8; clear hI8 hB8))
                  go_roundw
                  case rel => exact ⟨_, true, i + 1, rfl, rfl, by go_num, ⟨by have h7 := decW_size _ _ _ _ _ _ H2.out; have h8 := HA.out.1; rw [hbs] at h7; omega, by omega⟩, HI7, HB7⟩
                  case measure => simp [intOf]; omega
                | true =>
                  have H3 : Aside0 (decC true p = (10, true)) := ⟨rfl⟩
                  go_wp2_with (first | (go_at_call 35; refine (refwrite_is p (strOfNums (zs.take m)) (by have := HA.out.1; rw [hbs]; omega) out rest e HW.out _).mono ?_; rintro e_ w6 ⟨rfl, hb6⟩; have HI6 := Aside0.mk (HI5.out.below hb6); have HB6 := Aside0.mk (HB5.out.trans (hb6.mono HB5.out.size)); have HC6 := Aside0.mk (Kd.C_below HC5.out hb6); clear hb6) | (go_at_call 31; refine (write_any2 g _ p (strOfNums (zs.take m)) A5 c5 (zs.take m) m (by simp; omega) rfl w _ HI6.out HB6.out HC6.out hmc (fun a_ h_ _ => by have := hfar a_ h_; have := HI.out.lt; omega) (by have := HA.out.1; rw [hbs]; omega) _ _ _ H2.out).mono ?_; rintro e_ w7 ⟨rfl, hI7, hB7⟩; (try have hcc7 := HCX.out _ hB7); have HI7 := Aside0.mk hI7; have HB7 := Aside0.mk hB7; clear hI7 hB7) | (go_at_call 34; refine (pending_is g _ _ w _ HI8.out HB8.out).mono ?_; rintro e_ w9 ⟨rfl, rfl⟩) | (go_at_call 34; refine (pending_is g _ _ w _ HI7.out HB7.out).mono ?_; rintro e_ w9 ⟨rfl, rfl⟩) | (go_at_call 32; refine (close_any g _ _ w _ HI7.out HB7.out _ _ H3.out).mono ?_; rintro e_ w8 ⟨rfl, hI8, hB8⟩; have HI8 := Aside0.mk hI8; have HB8 := Aside0.mk hB8; clear hI8 hB8))
                  go_roundw
                  case rel => exact ⟨_, true, i + 1, rfl, rfl, by go_num, ⟨by have h7 := decW_size _ _ _ _ _ _ H2.out; have h8 := HA.out.1; rw [hbs] at h7; omega, by omega⟩, HI8, HB8⟩
                  case measure => simp [intOf]; omega
            | false =>
              have H2 : Aside0 (decW false p (strOfNums (zs.take m)) = (out, e, rest)) := ⟨HW.out⟩
              rcases hsplit with hk | ⟨cad, cb, rfl, hk, hcx⟩
              · have hkd : decide ((i : Int) < (k : Int)) = false := decide_eq_false (by omega)
                have hkp : ¬ ((i : Int) < (k : Int)) := by omega
                go_wp2_with (first | (go_at_call 35; refine (refwrite_is p (strOfNums (zs.take m)) (by have := HA.out.1; rw [hbs]; omega) out rest e HW.out _).mono ?_; rintro e_ w6 ⟨rfl, hb6⟩; have HI6 := Aside0.mk (HI5.out.below hb6); have HB6 := Aside0.mk (HB5.out.trans (hb6.mono HB5.out.size)); have HC6 := Aside0.mk (Kd.C_below HC5.out hb6); clear hb6) | (go_at_call 31; refine (write_any2 g _ p (strOfNums (zs.take m)) A5 c5 (zs.take m) m (by simp; omega) rfl w _ HI6.out HB6.out HC6.out hmc (fun a_ h_ _ => by have := hfar a_ h_; have := HI.out.lt; omega) (by have := HA.out.1; rw [hbs]; omega) _ _ _ H2.out).mono ?_; rintro e_ w7 ⟨rfl, hI7, hB7⟩; (try have hcc7 := HCX.out _ hB7); have HI7 := Aside0.mk hI7; have HB7 := Aside0.mk hB7; clear hI7 hB7) | (go_at_call 34; refine (pending_is g _ _ w _ HI8.out HB8.out).mono ?_; rintro e_ w9 ⟨rfl, rfl⟩) | (go_at_call 34; refine (pending_is g _ _ w _ HI7.out HB7.out).mono ?_; rintro e_ w9 ⟨rfl, rfl⟩) | (go_at_call 32; refine (close_any g _ _ w _ HI7.out HB7.out _ _ H3.out).mono ?_; rintro e_ w8 ⟨rfl, hI8, hB8⟩; have HI8 := Aside0.mk hI8; have HB8 := Aside0.mk hB8; clear hI8 hB8))
                go_roundw
                case rel => exact ⟨_, false, i + 1, rfl, rfl, by go_num, ⟨by have h7 := decW_size _ _ _ _ _ _ H2.out; have h8 := HA.out.1; rw [hbs] at h7; omega, by omega⟩, HI7, HB7⟩
                case measure => simp [intOf]; omega
              · have HCX := Aside0.mk hcx
                clear hcx
                have hkd : decide ((i : Int) < (k : Int)) = true := decide_eq_true (by omega)
                have hkp : (i : Int) < (k : Int) := by omega
                cases cb with
                | false =>
                  go_wp2_with (first | (go_at_call 35; refine (refwrite_is p (strOfNums (zs.take m)) (by have := HA.out.1; rw [hbs]; omega) out rest e HW.out _).mono ?_; rintro e_ w6 ⟨rfl, hb6⟩; have HI6 := Aside0.mk (HI5.out.below hb6); have HB6 := Aside0.mk (HB5.out.trans (hb6.mono HB5.out.size)); have HC6 := Aside0.mk (Kd.C_below HC5.out hb6); clear hb6) | (go_at_call 31; refine (write_any2 g _ p (strOfNums (zs.take m)) A5 c5 (zs.take m) m (by simp; omega) rfl w _ HI6.out HB6.out HC6.out hmc (fun a_ h_ _ => by have := hfar a_ h_; have := HI.out.lt; omega) (by have := HA.out.1; rw [hbs]; omega) _ _ _ H2.out).mono ?_; rintro e_ w7 ⟨rfl, hI7, hB7⟩; (try have hcc7 := HCX.out _ hB7); have HI7 := Aside0.mk hI7; have HB7 := Aside0.mk hB7; clear hI7 hB7) | (go_at_call 34; refine (pending_is g _ _ w _ HI8.out HB8.out).mono ?_; rintro e_ w9 ⟨rfl, rfl⟩) | (go_at_call 34; refine (pending_is g _ _ w _ HI7.out HB7.out).mono ?_; rintro e_ w9 ⟨rfl, rfl⟩) | (go_at_call 32; refine (close_any g _ _ w _ HI7.out HB7.out _ _ H3.out).mono ?_; rintro e_ w8 ⟨rfl, hI8, hB8⟩; have HI8 := Aside0.mk hI8; have HB8 := Aside0.mk hB8; clear hI8 hB8))
                  go_roundw
                  case rel => exact ⟨_, false, i + 1, rfl, rfl, by go_num, ⟨by have h7 := decW_size _ _ _ _ _ _ H2.out; have h8 := HA.out.1; rw [hbs] at h7; omega, by omega⟩, HI7, HB7⟩
                  case measure => simp [intOf]; omega
                | true =>
                  by_cases hr : rest.toList = ([] : List UInt8)
                  · have H3 : Aside0 (decC false rest = (0, true)) := ⟨by unfold decC; rw [if_neg (by decide), if_pos hr]⟩
                    have c4b0 : (rest.toList == ([] : List UInt8)) = true := beq_iff_eq.mpr hr
                    have c4b1 : (rest.toList != ([] : List UInt8)) = false := bne_eq_false_iff_eq.mpr hr
                    clear hr
                    go_wp2_with (first | (go_at_call 35; refine (refwrite_is p (strOfNums (zs.take m)) (by have := HA.out.1; rw [hbs]; omega) out rest e HW.out _).mono ?_; rintro e_ w6 ⟨rfl, hb6⟩; have HI6 := Aside0.mk (HI5.out.below hb6); have HB6 := Aside0.mk (HB5.out.trans (hb6.mono HB5.out.size)); have HC6 := Aside0.mk (Kd.C_below HC5.out hb6); clear hb6) | (go_at_call 31; refine (write_any2 g _ p (strOfNums (zs.take m)) A5 c5 (zs.take m) m (by simp; omega) rfl w _ HI6.out HB6.out HC6.out hmc (fun a_ h_ _ => by have := hfar a_ h_; have := HI.out.lt; omega) (by have := HA.out.1; rw [hbs]; omega) _ _ _ H2.out).mono ?_; rintro e_ w7 ⟨rfl, hI7, hB7⟩; (try have hcc7 := HCX.out _ hB7); have HI7 := Aside0.mk hI7; have HB7 := Aside0.mk hB7; clear hI7 hB7) | (go_at_call 34; refine (pending_is g _ _ w _ HI8.out HB8.out).mono ?_; rintro e_ w9 ⟨rfl, rfl⟩) | (go_at_call 34; refine (pending_is g _ _ w _ HI7.out HB7.out).mono ?_; rintro e_ w9 ⟨rfl, rfl⟩) | (go_at_call 32; refine (close_any g _ _ w _ HI7.out HB7.out _ _ H3.out).mono ?_; rintro e_ w8 ⟨rfl, hI8, hB8⟩; have HI8 := Aside0.mk hI8; have HB8 := Aside0.mk hB8; clear hI8 hB8))
                    go_roundw
                    case rel => exact ⟨_, true, i + 1, rfl, rfl, by go_num, ⟨by have h7 := decW_size _ _ _ _ _ _ H2.out; have h8 := HA.out.1; rw [hbs] at h7; omega, by omega⟩, HI8, HB8⟩
                    case measure => simp [intOf]; omega
                  · have H3 : Aside0 (decC false rest = (23, false)) := ⟨by unfold decC; rw [if_neg (by decide), if_neg hr]⟩
                    have c4b0 : (rest.toList == ([] : List UInt8)) = false := beq_eq_false_iff_ne.mpr hr
                    have c4b1 : (rest.toList != ([] : List UInt8)) = true := bne_iff_ne.mpr hr
                    clear hr
                    go_wp2_with (first | (go_at_call 35; refine (refwrite_is p (strOfNums (zs.take m)) (by have := HA.out.1; rw [hbs]; omega) out rest e HW.out _).mono ?_; rintro e_ w6 ⟨rfl, hb6⟩; have HI6 := Aside0.mk (HI5.out.below hb6); have HB6 := Aside0.mk (HB5.out.trans (hb6.mono HB5.out.size)); have HC6 := Aside0.mk (Kd.C_below HC5.out hb6); clear hb6) | (go_at_call 31; refine (write_any2 g _ p (strOfNums (zs.take m)) A5 c5 (zs.take m) m (by simp; omega) rfl w _ HI6.out HB6.out HC6.out hmc (fun a_ h_ _ => by have := hfar a_ h_; have := HI.out.lt; omega) (by have := HA.out.1; rw [hbs]; omega) _ _ _ H2.out).mono ?_; rintro e_ w7 ⟨rfl, hI7, hB7⟩; (try have hcc7 := HCX.out _ hB7); have HI7 := Aside0.mk hI7; have HB7 := Aside0.mk hB7; clear hI7 hB7) | (go_at_call 34; refine (pending_is g _ _ w _ HI8.out HB8.out).mono ?_; rintro e_ w9 ⟨rfl, rfl⟩) | (go_at_call 34; refine (pending_is g _ _ w _ HI7.out HB7.out).mono ?_; rintro e_ w9 ⟨rfl, rfl⟩) | (go_at_call 32; refine (close_any g _ _ w _ HI7.out HB7.out _ _ H3.out).mono ?_; rintro e_ w8 ⟨rfl, hI8, hB8⟩; have HI8 := Aside0.mk hI8; have HB8 := Aside0.mk hB8; clear hI8 hB8))
                    go_roundw
                    case rel => exact ⟨_, false, i + 1, rfl, rfl, by go_num, ⟨by have h7 := decW_size _ _ _ _ _ _ H2.out; have h8 := HA.out.1; rw [hbs] at h7; omega, by omega⟩, HI8, HB8⟩
                    case measure => simp [intOf]; omega)
      · have h2d : decide ((i : Int) < 12) = false := decide_eq_false (by omega)
        go_wp2
        refine bodyPost_ret (results_tmp rfl _ _ _) rfl ⟨rfl, HB.out⟩
    · go_wp2
      refine bodyPost_ret (results_tmp rfl _ _ _) rfl ⟨rfl, HB.out⟩
end Go.Proofs.Ytpjiidcnbceffaa.UA
