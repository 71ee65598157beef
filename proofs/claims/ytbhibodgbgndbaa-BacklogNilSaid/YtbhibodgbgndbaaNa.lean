/- The methods of a nil backlog. No condition. -/
import Derived.Test.YtbhibodgbgndbaaBb
namespace Go.Proofs.Ytbhibodgbgndbaa.B
open Go Go.RowKit Go.Proofs Go.Proofs.YtbhibodgbgndbaaW.PrintWords Go.Proofs.YtbhibodgbgndbaaW.PrintLast Go.Proofs.YtbhibodgbgndbaaW.PrintMore
set_option linter.unusedVariables false
set_option linter.unusedSimpArgs false
set_option maxRecDepth 100000
set_option maxHeartbeats 2000000
attribute [local go_sem ↓] execOp_ld30

section
variable (w : World) (x : List Int)
theorem n_add (hx : x.length = 32) (due : Int) : Calls Try.prog 13 #[.pointer none, idV x, .int .i64 due] w fun e w' => e = .returned (.int .i64 1) ∧ Below w.heap.size w w' := by
  have l1 := ld30_new w x hx
  have heq := eq_zero x hx
  clear hx
  unfold idV
  go_enter Try.func13, Try.ntmps13
  go_wp2
  go_ret
  exact ⟨rfl, below_alloc (Below.refl _ _) _⟩
theorem n_find (b : Bool) : Calls Try.prog 44 #[.pointer none, idV x, .bool b] w fun e w' => e = .returned (.tuple #[.int .i64 0, .int .i64 1]) ∧ Below w.heap.size w w' := by
  unfold idV
  go_enter Try.func44, Try.ntmps44
  go_wp2
  go_ret2
  exact ⟨rfl, below_alloc (Below.refl _ _) _⟩
theorem n_off (hx : x.length = 32) : Calls Try.prog 18 #[.pointer none, idV x] w fun e w' => e = .returned (.int .i64 1) ∧ Below w.heap.size w w' := by
  have l1 := ld30_new w x hx
  clear hx
  unfold idV
  go_enter Try.func18, Try.ntmps18
  go_wp2_with (first | (go_at_call 44; refine (n_find _ x false).mono ?_; rintro e_ w1 ⟨rfl, hb1⟩))
  go_ret
  exact ⟨rfl, (below_alloc (Below.refl _ _) _).trans (hb1.mono (by simp))⟩
theorem n_ans (hx : x.length = 32) : Calls Try.prog 25 #[.pointer none, idV x] w fun e w' => e = .returned (.int .i64 1) ∧ Below w.heap.size w w' := by
  have l1 := ld30_new w x hx
  clear hx
  unfold idV
  go_enter Try.func25, Try.ntmps25
  go_wp2_with (first | (go_at_call 44; refine (n_find _ x true).mono ?_; rintro e_ w1 ⟨rfl, hb1⟩))
  go_ret
  exact ⟨rfl, (below_alloc (Below.refl _ _) _).trans (hb1.mono (by simp))⟩
theorem n_lat (hx : x.length = 32) (now : Int) : Calls Try.prog 20 #[.pointer none, idV x, .int .i64 now] w fun e w' => e = .returned (.int .i64 1) ∧ Below w.heap.size w w' := by
  have l1 := ld30_new w x hx
  clear hx
  unfold idV
  go_enter Try.func20, Try.ntmps20
  go_wp2_with (first | (go_at_call 44; refine (n_find _ x true).mono ?_; rintro e_ w1 ⟨rfl, hb1⟩))
  go_ret
  exact ⟨rfl, (below_alloc (Below.refl _ _) _).trans (hb1.mono (by simp))⟩
theorem n_next (a b : Int) : Calls Try.prog 22 #[.pointer none, .int .i64 a, .int .i64 b] w fun e w' => e = .returned (.slice none 0 0) ∧ w' = w := by
  go_enter Try.func22, Try.ntmps22
  go_wp2
  go_ret
  exact ⟨rfl, rfl⟩
theorem n_drop : Calls Try.prog 19 #[.pointer none] w fun e w' => e = .returned (.int .i64 0) ∧ w' = w := by
  go_enter Try.func19, Try.ntmps19
  go_wp2
  go_ret
  exact ⟨rfl, rfl⟩
theorem n_has : Calls Try.prog 16 #[.pointer none, idV x] w fun e w' => e = .returned (.bool false) ∧ Below w.heap.size w w' := by
  unfold idV
  go_enter Try.func16, Try.ntmps16
  go_wp2
  go_ret
  exact ⟨rfl, below_alloc (Below.refl _ _) _⟩
theorem n_rem (hx : x.length = 32) : Calls Try.prog 17 #[.pointer none, idV x] w fun e w' => e = .returned (.bool false) ∧ Below w.heap.size w w' := by
  have l1 := ld30_new w x hx
  clear hx
  unfold idV
  go_enter Try.func17, Try.ntmps17
  go_wp2_with (first | (go_at_call 16; refine (n_has _ x).mono ?_; rintro e_ w1 ⟨rfl, hb1⟩))
  go_ret
  exact ⟨rfl, (below_alloc (Below.refl _ _) _).trans (hb1.mono (by simp))⟩
theorem n_missed : Calls Try.prog 15 #[.pointer none] w fun e w' => e = .returned (.bool false) ∧ w' = w := by
  go_enter Try.func15, Try.ntmps15
  go_wp2
  go_ret
  exact ⟨rfl, rfl⟩
theorem n_len : Calls Try.prog 14 #[.pointer none] w fun e w' => e = .returned (.int .i64 0) ∧ w' = w := by
  go_enter Try.func14, Try.ntmps14
  go_wp2
  go_ret
  exact ⟨rfl, rfl⟩
theorem n_all : Calls Try.prog 27 #[.pointer none] w fun e w' => e = .returned (.slice none 0 0) ∧ w' = w := by
  go_enter Try.func27, Try.ntmps27
  go_wp2
  go_ret
  exact ⟨rfl, rfl⟩
theorem n_out : Calls Try.prog 28 #[.pointer none] w fun e w' => e = .returned (.slice none 0 0) ∧ w' = w := by
  go_enter Try.func28, Try.ntmps28
  go_wp2_with (first | (go_at_call 27; refine (n_all _).mono ?_; rintro e_ w1 ⟨rfl, rfl⟩))
  go_loopw [3, 9] (fun p3 p9 wr => p3 = .slice none 0 0 ∧ p9 = .int .i64 0 ∧ wr = w1) (fun _ _ _ => 0)
  case atStart => exact ⟨rfl, rfl, rfl⟩
  case round =>
    obtain ⟨rfl, rfl, rfl⟩ := hrel
    go_wp2
    go_ret
    exact ⟨rfl, rfl⟩
theorem n_enc : Calls Try.prog 37 #[.pointer none] w fun e w' => e = .returned (.slice none 0 0) ∧ w' = w := by
  go_enter Try.func37, Try.ntmps37
  go_wp2
  go_ret
  exact ⟨rfl, rfl⟩
theorem n_clone : Calls Try.prog 31 #[.pointer none] w fun e w' => e = .returned (.pointer none) ∧ w' = w := by
  go_enter Try.func31, Try.ntmps31
  go_wp2
  go_ret
  exact ⟨rfl, rfl⟩
theorem n_eq0 : Calls Try.prog 34 #[.pointer none, .pointer none] w fun e w' => e = .returned (.bool true) ∧ w' = w := by
  go_enter Try.func34, Try.ntmps34
  go_wp2
  go_ret
  exact ⟨rfl, rfl⟩
theorem eq_ngd (d : Nat) (a : Addr) (W : World) : (Op.equalIn (d + 1) 25 (.pointer none) (.pointer (some a))).run Try.prog W = .ok false W := by
  simp [Op.equalIn, run_underlying Try.underlying25]
theorem eq_ffd (d : Nat) (W : World) : (Op.equalIn (d + 1) 46 .nilFunc .nilFunc).run Try.prog W = .ok true W := by
  simp [Op.equalIn, run_underlying Try.underlying46]
theorem eq_ng (g : Nat) (W : World) : (binOp .eql 25 (.pointer none) (.pointer (some ⟨g, 0, none⟩))).run Try.prog W = .ok (.bool false) W := by
  have h2 : (Op.equal 25 (.pointer none) (.pointer (some ⟨g, 0, none⟩))).run Try.prog W = .ok false W := eq_ngd 9999 _ W
  simp only [binOp]
  simp [h2, Result.andThen]
theorem eq_ff (W : World) : (binOp .eql 46 .nilFunc .nilFunc).run Try.prog W = .ok (.bool true) W := by
  have h2 : (Op.equal 46 .nilFunc .nilFunc).run Try.prog W = .ok true W := eq_ffd 9999 W
  simp only [binOp]
  simp [h2, Result.andThen]
theorem n_eq1 (g : Nat) : Calls Try.prog 34 #[.pointer none, .pointer (some ⟨g, 0, none⟩)] w fun e w' => e = .returned (.bool false) ∧ w' = w := by
  have he := eq_ng g
  go_enter Try.func34, Try.ntmps34
  go_wp2
  go_ret
  exact ⟨rfl, rfl⟩
theorem n_eq2 (g : Nat) : Calls Try.prog 34 #[.pointer (some ⟨g, 0, none⟩), .pointer none] w fun e w' => e = .returned (.bool false) ∧ w' = w := by
  go_enter Try.func34, Try.ntmps34
  go_wp2
  go_ret
  exact ⟨rfl, rfl⟩
theorem values_is (v : Value) (hv : v.oneCell' = true) : Calls Try.prog 24 #[v] w fun e w' => e = .returned (.func (.func 46) #[] #[.pointer (some ⟨w.heap.size, 0, none⟩)]) ∧ Below w.heap.size w w' := by
  go_enter Try.func24, Try.ntmps24
  go_wp2
  go_ret
  exact ⟨rfl, below_alloc (Below.refl _ _) _⟩
theorem n_scan (f : Value) (now : Int) : Calls Try.prog 23 #[.pointer none, .func (.func 46) #[] #[f], .int .i64 now] w fun e w' => e = .returned (.tuple #[.int .i64 0, .bool false]) ∧ Below w.heap.size w w' := by
  go_enter Try.func23, Try.ntmps23
  go_wp2
  refine bodyPost_ret (v := .tuple #[.int .i64 0, .bool false]) (by simp [results, Try.results23, go_sem]) rfl ⟨rfl, ?_⟩
  go_grown
theorem g_scan (g : Nat) (now : Int) : Calls Try.prog 23 #[.pointer (some ⟨g, 0, none⟩), .nilFunc, .int .i64 now] w fun e w' => e = .returned (.tuple #[.int .i64 0, .bool false]) ∧ Below w.heap.size w w' := by
  have he := eq_ff
  go_enter Try.func23, Try.ntmps23
  go_wp2
  refine bodyPost_ret (v := .tuple #[.int .i64 0, .bool false]) (by simp [results, Try.results23, go_sem]) rfl ⟨rfl, ?_⟩
  go_grown
end
end Go.Proofs.Ytbhibodgbgndbaa.B
