/- The contracts of utf8.first (of any string that is not empty) and of utf8.Encode (of any number). -/
import Derived.Test.YtpjiidcnbceffaaC
import Derived.Laws.BytesString
namespace Go.Proofs.Ytpjiidcnbceffaa.UA
open Go Go.RowKit Go.Proofs.YtpjiidcnbceffaaW.PrintWords Go.Proofs.YtpjiidcnbceffaaW.PrintLast Go.Proofs.YtpjiidcnbceffaaW.PrintMore
attribute [local go_sem] max2_int min2_int max_two min_two max_three min_three max_four min_four

theorem bt_extract (s : ByteArray) (n i : Nat) (h : i < n) (hn : n ≤ s.size) : bt (s.extract 0 n) i = bt s i := by
  have h1 : i < s.size := by omega
  have h2 : i < (s.extract 0 n).size := by simp; omega
  unfold bt
  rw [dif_pos (by simpa using h2), dif_pos (by simpa using h1)]
  simp [ByteArray.getElem_extract]

theorem first_any (s : ByteArray) (hs : 0 < s.size) (w : World) : Calls Try.prog 37 #[.string s] w fun e w' => e = .returned (.tuple #[.int .i32 (fstP s).1, .int .i64 (fstP s).2.1, .int .i64 (fstP s).2.2]) ∧ Below w.heap.size w w' := by
  obtain ⟨n, hn⟩ : ∃ n : Nat, szOf (bt s 0) = n := by
    rcases szOf_cases (bt s 0) with h | h | h | h | h
    · exact ⟨0, h⟩
    · exact ⟨1, h⟩
    · exact ⟨2, h⟩
    · exact ⟨3, h⟩
    · exact ⟨4, h⟩
  have hc := szOf_cases (bt s 0)
  by_cases h0 : n = 0
  · subst h0
    have e : fstP s = (0, 0, 6) := by simp [fstP, hn]
    rw [e]; exact first_0 s hs hn w
  · by_cases hl : s.size < n
    · have e : fstP s = (0, 0, if (begP s).2 = true then 23 else 3) := by
        simp only [fstP, hn, Int.toNat_natCast]; rw [if_neg h0, if_pos hl]; split <;> rfl
      rw [e]
      exact first_short s hs n (by omega) (by omega) hn hl _ (by simp [begP, hn]) w
    · have hx : bt (s.extract 0 n) 0 = bt s 0 := bt_extract s n 0 (by omega) (by omega)
      have h1 : (begP (s.extract 0 n)).1 = n := by simp [begP, hx, hn]
      cases hb : (begP (s.extract 0 n)).2 with
      | false =>
        have e : fstP s = (0, 0, 3) := by
          simp only [fstP, hn, Int.toNat_natCast]; rw [if_neg h0, if_neg hl, hb]; rfl
        rw [e]
        exact first_bad s hs n (by omega) (by omega) hn (by omega) (by rw [← h1, ← hb]) w
      | true =>
        have e : fstP s = (valOf (bt s 0 % ldM n) s (n - 1), (n : Int), 0) := by
          simp only [fstP, hn, Int.toNat_natCast]; rw [if_neg h0, if_neg hl, hb]; rfl
        rw [e]
        have hb' : begP (s.extract 0 n) = ((n : Int), true) := by rw [← h1, ← hb]
        have hcases : n = 1 ∨ n = 2 ∨ n = 3 ∨ n = 4 := by omega
        rcases hcases with rfl | rfl | rfl | rfl
        · exact first_1 s (by omega) hn hb' w
        · exact first_2 s (by omega) hn hb' w
        · exact first_3 s (by omega) hn hb' w
        · exact first_4 s (by omega) hn hb' w
#print axioms first_any

/-- The bytes of a code point's encoding. -/
def encN (r : Int) : List Int :=
  if r ≤ 127 then [r]
  else if r ≤ 2047 then [192 + r / 64, 128 + r % 64]
  else if r ≤ 65535 then [224 + r / 64 / 64, 128 + r / 64 % 64, 128 + r % 64]
  else [240 + r / 64 / 64 / 64, 128 + r / 64 / 64 % 64, 128 + r / 64 % 64, 128 + r % 64]
theorem ret_se {n : Int} {a b : ByteArray} (h : a = b) : Ending.returned (.tuple #[.string a, .int .i64 n]) = .returned (.tuple #[.string b, .int .i64 n]) := by rw [h]
theorem conv_new (w : World) (ns : List Int) : (convert 38 9 (.slice (some ⟨w.heap.size, 0, none⟩) ns.length ns.length)).run Try.prog (w.alloc (.cells (ns.map (Value.int .u8)).toArray 5)) = .ok (.string (strOfNums ns)) (w.alloc (.cells (ns.map (Value.int .u8)).toArray 5)) := by
  refine run_convert_bytes_arg _ 38 5 (by kernel_rfl) (by kernel_rfl) _ _ _ _ ns rfl (fun i hi => ?_) 9 (by kernel_rfl)
  rw [cell_of_row _ _ _ _ 5 (0, 0) (heap_alloc_last w _)]
  simp [List.getElem?_eq_getElem hi]
theorem u8_or0 (y : Int) (h₀ : 0 ≤ y) (h₁ : y < 128) : Go.bits .or .u8 0 y = 0 + y :=
  bits_join .u8 8 (by decide) wraps_u8 7 0 y (by decide) (by decide) (by decide) h₀ h₁ (by omega)
theorem mk0 (w : World) : (Instr.makeSlice 38 (.int .i64 1) (.int .i64 1)).run Try.prog w = .ok (.slice (some ⟨w.heap.size, 0, none⟩) 1 1) (w.alloc (.cells #[.int .u8 0] 5)) := by kernel_rfl
set_option maxHeartbeats 4000000 in
set_option maxRecDepth 100000 in
theorem enc_0 (r : Int) (h0 : 0 ≤ r) (h1 : r ≤ 127) (w : World) : Calls Try.prog 21 #[.int .i32 r] w fun e w' => e = .returned (.tuple #[.string (strOfNums (encN r)), .int .i64 0]) ∧ Below w.heap.size w w' := by
  have i0 := ix0
  have hmk := mk0
  have hcv : ∀ (w : World) (k0 : Int), (convert 38 9 (.slice (some ⟨w.heap.size, 0, none⟩) 1 1)).run Try.prog (w.alloc (.cells #[.int .u8 k0] 5)) = .ok (.string (strOfNums [k0])) (w.alloc (.cells #[.int .u8 k0] 5)) := fun w k0 => conv_new w [k0]
  have q0 : Aside0 (inCls 0 127 r = true) := ⟨by simp [inCls]; omega⟩
  have han : Go.bits .andNot .u8 0 127 = 0 := by decide
  obtain ⟨k0, Ek0⟩ : ∃ x : Int, x = 0 + r := ⟨_, rfl⟩
  have hor0 : Go.bits .or .u8 0 r = k0 := by rw [Ek0]; exact u8_or0 _ (by omega) (by omega)
  have K0 : 0 ≤ k0 := by omega
  have L0 : k0 < 256 := by omega
  have HK0 := Aside0.mk Ek0
  clear Ek0
  go_enter Try.func21, Try.ntmps21
  go_wp2_with (first | (go_at_call 39; refine (classes_any _).mono ?_; rintro e w1 ⟨rfl, hb1⟩))
  refine wp_loop_rounds 2 ?_
  repeat any_goals (rw [rounds_succ]; go_wp2_with (first | (go_at_call 40; with_reducible refine (within_is 0 127 127 0 127 r true q0.out _).mono ?_; rintro e w2 ⟨rfl, hb2⟩; have k0_ := hb2.cell (p := ⟨w1.heap.size, 0, none⟩) (by simp); have k2_ := hb2.cell (p := ⟨w1.heap.size, 2, none⟩) (by simp); simp at k0_ k2_; have z_ : w1.heap.size < w2.heap.size := by have := hb2.size; simp at this; omega)))
  refine wp_loop_rounds 1 ?_
  repeat any_goals (rw [rounds_succ]; go_wp2_with fail)
  go_ret2
  refine ⟨ret_se ?_, by repeat (first | exact below_step (below_alloc (hb1) _) hb2 | apply below_alloc | apply pw_below_drewN | apply below_drew1)⟩
  have QHK0 := HK0.out
  unfold encN
  repeat (first | rw [if_pos (by omega)] | rw [if_neg (by omega)])
  congr 1
  simp only [List.cons.injEq, and_true]; omega

theorem mk1 (w : World) : (Instr.makeSlice 38 (.int .i64 2) (.int .i64 2)).run Try.prog w = .ok (.slice (some ⟨w.heap.size, 0, none⟩) 2 2) (w.alloc (.cells #[.int .u8 0, .int .u8 0] 5)) := by kernel_rfl
set_option maxHeartbeats 4000000 in
set_option maxRecDepth 100000 in
theorem enc_1 (r : Int) (h0 : 128 ≤ r) (h1 : r ≤ 2047) (w : World) : Calls Try.prog 21 #[.int .i32 r] w fun e w' => e = .returned (.tuple #[.string (strOfNums (encN r)), .int .i64 0]) ∧ Below w.heap.size w w' := by
  have i0 := ix0
  have i1 := ix1
  have hmk := mk1
  have hcv : ∀ (w : World) (k0 k1 : Int), (convert 38 9 (.slice (some ⟨w.heap.size, 0, none⟩) 2 2)).run Try.prog (w.alloc (.cells #[.int .u8 k0, .int .u8 k1] 5)) = .ok (.string (strOfNums [k0, k1])) (w.alloc (.cells #[.int .u8 k0, .int .u8 k1] 5)) := fun w k0 k1 => conv_new w [k0, k1]
  have q0 : Aside0 (inCls 0 127 r = false) := ⟨by simp [inCls]; omega⟩
  have q1 : Aside0 (inCls 128 2047 r = true) := ⟨by simp [inCls]; omega⟩
  obtain ⟨c1, Ec1⟩ : ∃ x : Int, x = r % 64 := ⟨_, rfl⟩
  have hand1 : Go.bits .and .i32 r 63 = c1 := by rw [Ec1]; exact bits_mask .i32 31 (by decide) wraps_i32 6 (by decide) r (by omega) (by omega)
  have C1 : 0 ≤ c1 := by omega
  have D1 : c1 < 64 := by omega
  obtain ⟨k1, Ek1⟩ : ∃ x : Int, x = 128 + c1 := ⟨_, rfl⟩
  have hor1 : Go.bits .or .u8 128 c1 = k1 := by rw [Ek1]; exact u8_or128 _ C1 D1
  have K1 : 0 ≤ k1 := by omega
  have L1 : k1 < 256 := by omega
  obtain ⟨r1, Er1⟩ : ∃ x : Int, r / 64 = x := ⟨_, rfl⟩
  have R1 : 0 ≤ r1 := by omega
  have S1 : r1 ≤ 31 := by omega
  have HC1 := Aside0.mk Ec1
  clear Ec1
  have HK1 := Aside0.mk Ek1
  clear Ek1
  have HR1 := Aside0.mk Er1
  have han : Go.bits .andNot .u8 194 31 = 192 := by decide
  obtain ⟨k0, Ek0⟩ : ∃ x : Int, x = 192 + r1 := ⟨_, rfl⟩
  have hor0 : Go.bits .or .u8 192 r1 = k0 := by rw [Ek0]; exact u8_or192 _ (by omega) (by omega)
  have K0 : 0 ≤ k0 := by omega
  have L0 : k0 < 256 := by omega
  have HK0 := Aside0.mk Ek0
  clear Ek0
  go_enter Try.func21, Try.ntmps21
  go_wp2_with (first | (go_at_call 39; refine (classes_any _).mono ?_; rintro e w1 ⟨rfl, hb1⟩))
  refine wp_loop_rounds 3 ?_
  repeat any_goals (rw [rounds_succ]; go_wp2_with (first | (go_at_call 40; with_reducible refine (within_is 0 127 127 0 127 r false q0.out _).mono ?_; rintro e w2 ⟨rfl, hb2⟩) | (go_at_call 40; with_reducible refine (within_is 194 223 31 128 2047 r true q1.out _).mono ?_; rintro e w3 ⟨rfl, hb3⟩; have k0_ := hb3.cell (p := ⟨w2.heap.size, 0, none⟩) (by simp); have k2_ := hb3.cell (p := ⟨w2.heap.size, 2, none⟩) (by simp); simp at k0_ k2_; have z_ : w2.heap.size < w3.heap.size := by have := hb3.size; simp at this; omega)))
  refine wp_loop_rounds 2 ?_
  repeat any_goals (rw [rounds_succ]; go_wp2_with fail)
  go_ret2
  refine ⟨ret_se ?_, by repeat (first | exact below_step (below_alloc (below_step (below_alloc (hb1) _) hb2) _) hb3 | apply below_alloc | apply pw_below_drewN | apply below_drew1)⟩
  have QHC1 := HC1.out
  have QHK1 := HK1.out
  have QHR1 := HR1.out
  have QHK0 := HK0.out
  unfold encN
  repeat (first | rw [if_pos (by omega)] | rw [if_neg (by omega)])
  congr 1
  simp only [List.cons.injEq, and_true]; omega

theorem mk2 (w : World) : (Instr.makeSlice 38 (.int .i64 3) (.int .i64 3)).run Try.prog w = .ok (.slice (some ⟨w.heap.size, 0, none⟩) 3 3) (w.alloc (.cells #[.int .u8 0, .int .u8 0, .int .u8 0] 5)) := by kernel_rfl
set_option maxHeartbeats 4000000 in
set_option maxRecDepth 100000 in
theorem enc_2 (r : Int) (h0 : 2048 ≤ r) (h1 : r ≤ 65535) (hsu : r < 55296 ∨ 57343 < r) (w : World) : Calls Try.prog 21 #[.int .i32 r] w fun e w' => e = .returned (.tuple #[.string (strOfNums (encN r)), .int .i64 0]) ∧ Below w.heap.size w w' := by
  have i0 := ix0
  have i1 := ix1
  have i2 := ix2
  have hmk := mk2
  have hcv : ∀ (w : World) (k0 k1 k2 : Int), (convert 38 9 (.slice (some ⟨w.heap.size, 0, none⟩) 3 3)).run Try.prog (w.alloc (.cells #[.int .u8 k0, .int .u8 k1, .int .u8 k2] 5)) = .ok (.string (strOfNums [k0, k1, k2])) (w.alloc (.cells #[.int .u8 k0, .int .u8 k1, .int .u8 k2] 5)) := fun w k0 k1 k2 => conv_new w [k0, k1, k2]
  have q0 : Aside0 (inCls 0 127 r = false) := ⟨by simp [inCls]; omega⟩
  have q1 : Aside0 (inCls 128 2047 r = false) := ⟨by simp [inCls]; omega⟩
  have q2 : Aside0 (inCls 2048 65535 r = true) := ⟨by simp [inCls]; omega⟩
  obtain ⟨c1, Ec1⟩ : ∃ x : Int, x = r % 64 := ⟨_, rfl⟩
  have hand1 : Go.bits .and .i32 r 63 = c1 := by rw [Ec1]; exact bits_mask .i32 31 (by decide) wraps_i32 6 (by decide) r (by omega) (by omega)
  have C1 : 0 ≤ c1 := by omega
  have D1 : c1 < 64 := by omega
  obtain ⟨k1, Ek1⟩ : ∃ x : Int, x = 128 + c1 := ⟨_, rfl⟩
  have hor1 : Go.bits .or .u8 128 c1 = k1 := by rw [Ek1]; exact u8_or128 _ C1 D1
  have K1 : 0 ≤ k1 := by omega
  have L1 : k1 < 256 := by omega
  obtain ⟨r1, Er1⟩ : ∃ x : Int, r / 64 = x := ⟨_, rfl⟩
  have R1 : 0 ≤ r1 := by omega
  have S1 : r1 ≤ 1023 := by omega
  have HC1 := Aside0.mk Ec1
  clear Ec1
  have HK1 := Aside0.mk Ek1
  clear Ek1
  have HR1 := Aside0.mk Er1
  obtain ⟨c2, Ec2⟩ : ∃ x : Int, x = r1 % 64 := ⟨_, rfl⟩
  have hand2 : Go.bits .and .i32 r1 63 = c2 := by rw [Ec2]; exact bits_mask .i32 31 (by decide) wraps_i32 6 (by decide) r1 (by omega) (by omega)
  have C2 : 0 ≤ c2 := by omega
  have D2 : c2 < 64 := by omega
  obtain ⟨k2, Ek2⟩ : ∃ x : Int, x = 128 + c2 := ⟨_, rfl⟩
  have hor2 : Go.bits .or .u8 128 c2 = k2 := by rw [Ek2]; exact u8_or128 _ C2 D2
  have K2 : 0 ≤ k2 := by omega
  have L2 : k2 < 256 := by omega
  obtain ⟨r2, Er2⟩ : ∃ x : Int, r1 / 64 = x := ⟨_, rfl⟩
  have R2 : 0 ≤ r2 := by omega
  have S2 : r2 ≤ 15 := by omega
  have HC2 := Aside0.mk Ec2
  clear Ec2
  have HK2 := Aside0.mk Ek2
  clear Ek2
  have HR2 := Aside0.mk Er2
  have han : Go.bits .andNot .u8 224 15 = 224 := by decide
  obtain ⟨k0, Ek0⟩ : ∃ x : Int, x = 224 + r2 := ⟨_, rfl⟩
  have hor0 : Go.bits .or .u8 224 r2 = k0 := by rw [Ek0]; exact u8_or224 _ (by omega) (by omega)
  have K0 : 0 ≤ k0 := by omega
  have L0 : k0 < 256 := by omega
  have HK0 := Aside0.mk Ek0
  clear Ek0
  go_enter Try.func21, Try.ntmps21
  go_wp2_with (first | (go_at_call 39; refine (classes_any _).mono ?_; rintro e w1 ⟨rfl, hb1⟩))
  refine wp_loop_rounds 4 ?_
  repeat any_goals (rw [rounds_succ]; go_wp2_with (first | (go_at_call 40; with_reducible refine (within_is 0 127 127 0 127 r false q0.out _).mono ?_; rintro e w2 ⟨rfl, hb2⟩) | (go_at_call 40; with_reducible refine (within_is 194 223 31 128 2047 r false q1.out _).mono ?_; rintro e w3 ⟨rfl, hb3⟩) | (go_at_call 40; with_reducible refine (within_is 224 239 15 2048 65535 r true q2.out _).mono ?_; rintro e w4 ⟨rfl, hb4⟩; have k0_ := hb4.cell (p := ⟨w3.heap.size, 0, none⟩) (by simp); have k2_ := hb4.cell (p := ⟨w3.heap.size, 2, none⟩) (by simp); simp at k0_ k2_; have z_ : w3.heap.size < w4.heap.size := by have := hb4.size; simp at this; omega)))
  refine wp_loop_rounds 3 ?_
  repeat any_goals (rw [rounds_succ]; go_wp2_with fail)
  go_ret2
  refine ⟨ret_se ?_, by repeat (first | exact below_step (below_alloc (below_step (below_alloc (below_step (below_alloc (hb1) _) hb2) _) hb3) _) hb4 | apply below_alloc | apply pw_below_drewN | apply below_drew1)⟩
  have QHC1 := HC1.out
  have QHK1 := HK1.out
  have QHR1 := HR1.out
  have QHC2 := HC2.out
  have QHK2 := HK2.out
  have QHR2 := HR2.out
  have QHK0 := HK0.out
  unfold encN
  repeat (first | rw [if_pos (by omega)] | rw [if_neg (by omega)])
  congr 1
  simp only [List.cons.injEq, and_true]; omega

theorem mk3 (w : World) : (Instr.makeSlice 38 (.int .i64 4) (.int .i64 4)).run Try.prog w = .ok (.slice (some ⟨w.heap.size, 0, none⟩) 4 4) (w.alloc (.cells #[.int .u8 0, .int .u8 0, .int .u8 0, .int .u8 0] 5)) := by kernel_rfl
set_option maxHeartbeats 4000000 in
set_option maxRecDepth 100000 in
theorem enc_3 (r : Int) (h0 : 65536 ≤ r) (h1 : r ≤ 1114111) (w : World) : Calls Try.prog 21 #[.int .i32 r] w fun e w' => e = .returned (.tuple #[.string (strOfNums (encN r)), .int .i64 0]) ∧ Below w.heap.size w w' := by
  have i0 := ix0
  have i1 := ix1
  have i2 := ix2
  have i3 := ix3
  have hmk := mk3
  have hcv : ∀ (w : World) (k0 k1 k2 k3 : Int), (convert 38 9 (.slice (some ⟨w.heap.size, 0, none⟩) 4 4)).run Try.prog (w.alloc (.cells #[.int .u8 k0, .int .u8 k1, .int .u8 k2, .int .u8 k3] 5)) = .ok (.string (strOfNums [k0, k1, k2, k3])) (w.alloc (.cells #[.int .u8 k0, .int .u8 k1, .int .u8 k2, .int .u8 k3] 5)) := fun w k0 k1 k2 k3 => conv_new w [k0, k1, k2, k3]
  have q0 : Aside0 (inCls 0 127 r = false) := ⟨by simp [inCls]; omega⟩
  have q1 : Aside0 (inCls 128 2047 r = false) := ⟨by simp [inCls]; omega⟩
  have q2 : Aside0 (inCls 2048 65535 r = false) := ⟨by simp [inCls]; omega⟩
  have q3 : Aside0 (inCls 65536 1114111 r = true) := ⟨by simp [inCls]; omega⟩
  obtain ⟨c1, Ec1⟩ : ∃ x : Int, x = r % 64 := ⟨_, rfl⟩
  have hand1 : Go.bits .and .i32 r 63 = c1 := by rw [Ec1]; exact bits_mask .i32 31 (by decide) wraps_i32 6 (by decide) r (by omega) (by omega)
  have C1 : 0 ≤ c1 := by omega
  have D1 : c1 < 64 := by omega
  obtain ⟨k1, Ek1⟩ : ∃ x : Int, x = 128 + c1 := ⟨_, rfl⟩
  have hor1 : Go.bits .or .u8 128 c1 = k1 := by rw [Ek1]; exact u8_or128 _ C1 D1
  have K1 : 0 ≤ k1 := by omega
  have L1 : k1 < 256 := by omega
  obtain ⟨r1, Er1⟩ : ∃ x : Int, r / 64 = x := ⟨_, rfl⟩
  have R1 : 0 ≤ r1 := by omega
  have S1 : r1 ≤ 17407 := by omega
  have HC1 := Aside0.mk Ec1
  clear Ec1
  have HK1 := Aside0.mk Ek1
  clear Ek1
  have HR1 := Aside0.mk Er1
  obtain ⟨c2, Ec2⟩ : ∃ x : Int, x = r1 % 64 := ⟨_, rfl⟩
  have hand2 : Go.bits .and .i32 r1 63 = c2 := by rw [Ec2]; exact bits_mask .i32 31 (by decide) wraps_i32 6 (by decide) r1 (by omega) (by omega)
  have C2 : 0 ≤ c2 := by omega
  have D2 : c2 < 64 := by omega
  obtain ⟨k2, Ek2⟩ : ∃ x : Int, x = 128 + c2 := ⟨_, rfl⟩
  have hor2 : Go.bits .or .u8 128 c2 = k2 := by rw [Ek2]; exact u8_or128 _ C2 D2
  have K2 : 0 ≤ k2 := by omega
  have L2 : k2 < 256 := by omega
  obtain ⟨r2, Er2⟩ : ∃ x : Int, r1 / 64 = x := ⟨_, rfl⟩
  have R2 : 0 ≤ r2 := by omega
  have S2 : r2 ≤ 271 := by omega
  have HC2 := Aside0.mk Ec2
  clear Ec2
  have HK2 := Aside0.mk Ek2
  clear Ek2
  have HR2 := Aside0.mk Er2
  obtain ⟨c3, Ec3⟩ : ∃ x : Int, x = r2 % 64 := ⟨_, rfl⟩
  have hand3 : Go.bits .and .i32 r2 63 = c3 := by rw [Ec3]; exact bits_mask .i32 31 (by decide) wraps_i32 6 (by decide) r2 (by omega) (by omega)
  have C3 : 0 ≤ c3 := by omega
  have D3 : c3 < 64 := by omega
  obtain ⟨k3, Ek3⟩ : ∃ x : Int, x = 128 + c3 := ⟨_, rfl⟩
  have hor3 : Go.bits .or .u8 128 c3 = k3 := by rw [Ek3]; exact u8_or128 _ C3 D3
  have K3 : 0 ≤ k3 := by omega
  have L3 : k3 < 256 := by omega
  obtain ⟨r3, Er3⟩ : ∃ x : Int, r2 / 64 = x := ⟨_, rfl⟩
  have R3 : 0 ≤ r3 := by omega
  have S3 : r3 ≤ 4 := by omega
  have HC3 := Aside0.mk Ec3
  clear Ec3
  have HK3 := Aside0.mk Ek3
  clear Ek3
  have HR3 := Aside0.mk Er3
  have han : Go.bits .andNot .u8 240 7 = 240 := by decide
  obtain ⟨k0, Ek0⟩ : ∃ x : Int, x = 240 + r3 := ⟨_, rfl⟩
  have hor0 : Go.bits .or .u8 240 r3 = k0 := by rw [Ek0]; exact u8_or240 _ (by omega) (by omega)
  have K0 : 0 ≤ k0 := by omega
  have L0 : k0 < 256 := by omega
  have HK0 := Aside0.mk Ek0
  clear Ek0
  go_enter Try.func21, Try.ntmps21
  go_wp2_with (first | (go_at_call 39; refine (classes_any _).mono ?_; rintro e w1 ⟨rfl, hb1⟩))
  refine wp_loop_rounds 5 ?_
  repeat any_goals (rw [rounds_succ]; go_wp2_with (first | (go_at_call 40; with_reducible refine (within_is 0 127 127 0 127 r false q0.out _).mono ?_; rintro e w2 ⟨rfl, hb2⟩) | (go_at_call 40; with_reducible refine (within_is 194 223 31 128 2047 r false q1.out _).mono ?_; rintro e w3 ⟨rfl, hb3⟩) | (go_at_call 40; with_reducible refine (within_is 224 239 15 2048 65535 r false q2.out _).mono ?_; rintro e w4 ⟨rfl, hb4⟩) | (go_at_call 40; with_reducible refine (within_is 240 244 7 65536 1114111 r true q3.out _).mono ?_; rintro e w5 ⟨rfl, hb5⟩; have k0_ := hb5.cell (p := ⟨w4.heap.size, 0, none⟩) (by simp); have k2_ := hb5.cell (p := ⟨w4.heap.size, 2, none⟩) (by simp); simp at k0_ k2_; have z_ : w4.heap.size < w5.heap.size := by have := hb5.size; simp at this; omega)))
  refine wp_loop_rounds 4 ?_
  repeat any_goals (rw [rounds_succ]; go_wp2_with fail)
  go_ret2
  refine ⟨ret_se ?_, by repeat (first | exact below_step (below_alloc (below_step (below_alloc (below_step (below_alloc (below_step (below_alloc (hb1) _) hb2) _) hb3) _) hb4) _) hb5 | apply below_alloc | apply pw_below_drewN | apply below_drew1)⟩
  have QHC1 := HC1.out
  have QHK1 := HK1.out
  have QHR1 := HR1.out
  have QHC2 := HC2.out
  have QHK2 := HK2.out
  have QHR2 := HR2.out
  have QHC3 := HC3.out
  have QHK3 := HK3.out
  have QHR3 := HR3.out
  have QHK0 := HK0.out
  unfold encN
  repeat (first | rw [if_pos (by omega)] | rw [if_neg (by omega)])
  congr 1
  simp only [List.cons.injEq, and_true]; omega

/-- Is a number a code point? -/
def isCp (r : Int) : Bool := decide (0 ≤ r) && decide (r ≤ 1114111) && !(decide (55296 ≤ r) && decide (r ≤ 57343))
set_option maxHeartbeats 4000000 in
set_option maxRecDepth 100000 in
theorem enc_no (r : Int) (h : isCp r = false) (w : World) : Calls Try.prog 21 #[.int .i32 r] w fun e w' => e = .returned (.tuple #[.string ⟨#[]⟩, .int .i64 2]) ∧ Below w.heap.size w w' := by
  have i0 := ix0
  have i1 := ix1
  have i2 := ix2
  have i3 := ix3
  have hr : r < 0 ∨ 1114111 < r ∨ (55296 ≤ r ∧ r ≤ 57343) := by simp [isCp] at h; omega
  have q0 : Aside0 (inCls 0 127 r = false) := ⟨by simp [inCls]; omega⟩
  have q1 : Aside0 (inCls 128 2047 r = false) := ⟨by simp [inCls]; omega⟩
  have q2 : Aside0 (inCls 2048 65535 r = false) := ⟨by simp [inCls]; omega⟩
  have q3 : Aside0 (inCls 65536 1114111 r = false) := ⟨by simp [inCls]; omega⟩
  clear h hr
  go_enter Try.func21, Try.ntmps21
  go_wp2_with (first | (go_at_call 39; refine (classes_any _).mono ?_; rintro e w1 ⟨rfl, hb1⟩))
  refine wp_loop_rounds 5 ?_
  repeat any_goals (rw [rounds_succ]; go_wp2_with (first | (go_at_call 40; with_reducible refine (within_is 0 127 127 0 127 r false q0.out _).mono ?_; rintro e w2 ⟨rfl, hb2⟩) | (go_at_call 40; with_reducible refine (within_is 194 223 31 128 2047 r false q1.out _).mono ?_; rintro e w3 ⟨rfl, hb3⟩) | (go_at_call 40; with_reducible refine (within_is 224 239 15 2048 65535 r false q2.out _).mono ?_; rintro e w4 ⟨rfl, hb4⟩) | (go_at_call 40; with_reducible refine (within_is 240 244 7 65536 1114111 r false q3.out _).mono ?_; rintro e w5 ⟨rfl, hb5⟩)))
  go_ret2
  exact ⟨rfl, below_step (below_alloc (below_step (below_alloc (below_step (below_alloc (below_step (below_alloc hb1 _) hb2) _) hb3) _) hb4) _) hb5⟩

theorem encode_any (r : Int) (w : World) : Calls Try.prog 21 #[.int .i32 r] w fun e w' => e = .returned (.tuple #[.string (if isCp r = true then strOfNums (encN r) else ⟨#[]⟩), .int .i64 (if isCp r = true then 0 else 2)]) ∧ Below w.heap.size w w' := by
  cases h : isCp r with
  | false => exact enc_no r h w
  | true =>
    rw [if_pos rfl, if_pos rfl]
    have hr : 0 ≤ r ∧ r ≤ 1114111 ∧ (r < 55296 ∨ 57343 < r) := by simp [isCp] at h; omega
    by_cases h1 : r ≤ 127
    · exact enc_0 r (by omega) h1 w
    by_cases h2 : r ≤ 2047
    · exact enc_1 r (by omega) h2 w
    by_cases h3 : r ≤ 65535
    · exact enc_2 r (by omega) h3 hr.2.2 w
    · exact enc_3 r (by omega) (by omega) w
#print axioms encode_any
end Go.Proofs.Ytpjiidcnbceffaa.UA
