/- minute, Len, Missed, New of a backlog. Condition: at most 1000000 entries. -/
import Derived.Test.YtbhibodgbgndbaaD
namespace Go.Proofs.Ytbhibodgbgndbaa.B
open Go Go.RowKit Go.Proofs Go.Proofs.YtbhibodgbgndbaaW.PrintWords Go.Proofs.YtbhibodgbgndbaaW.PrintLast Go.Proofs.YtbhibodgbgndbaaW.PrintMore
set_option linter.unusedVariables false
set_option linter.unusedSimpArgs false

def minB (n : Int) : Bool := decide (0 ≤ n) && decide (n ≤ 105190559)
theorem minute_is (n : Int) (w : World) : Calls Try.prog 41 #[.int .i64 n] w fun e w' => e = .returned (.bool (minB n)) ∧ w' = w := by
  by_cases h : 0 ≤ n
  · have hd : decide (0 ≤ n) = true := decide_eq_true h
    go_enter Try.func41, Try.ntmps41
    go_wp2
    go_ret
    exact ⟨by simp [minB, h], rfl⟩
  · have hd : decide (0 ≤ n) = false := decide_eq_false h
    go_enter Try.func41, Try.ntmps41
    go_wp2
    go_ret
    exact ⟨by simp [minB, hd], rfl⟩
theorem len_is (g : Nat) (cap wait : Int) (missed : Bool) (v : Value) (mb base : Nat) (es : List Ent) (hes : ∀ e ∈ es, e.1.length = 32) (w : World)
    (hB : BAt w g cap wait missed v mb) (ho : w.ownsRow base 59 34 v es.length (entsL es)) :
    Calls Try.prog 14 #[.pointer (some ⟨g, 0, none⟩)] w fun e w' => e = .returned (.int .i64 (es.length : Int)) ∧ w' = w := by
  obtain ⟨A, gb, cap', rfl, hA, hE⟩ := ents_of_own hes ho
  have hu80 := Try.underlying80
  have hc3 : w.cell? ⟨g, 3, none⟩ = some (.slice A es.length cap') := (blk_cell hB 3).trans rfl
  clear hE hes hA ho hB
  go_enter Try.func14, Try.ntmps14
  go_wp2
  go_ret
  exact ⟨rfl, rfl⟩
theorem missed_is (g : Nat) (cap wait : Int) (missed : Bool) (v : Value) (mb : Nat) (w : World) (hB : BAt w g cap wait missed v mb) :
    Calls Try.prog 15 #[.pointer (some ⟨g, 0, none⟩)] w fun e w' => e = .returned (.bool missed) ∧ w' = w := by
  have hu80 := Try.underlying80
  have hc2 : w.cell? ⟨g, 2, none⟩ = some (.bool missed) := (blk_cell hB 2).trans rfl
  clear hB
  go_enter Try.func15, Try.ntmps15
  go_wp2
  go_ret
  exact ⟨rfl, rfl⟩
set_option maxHeartbeats 4000000 in
set_option maxRecDepth 100000 in
theorem new_is (cap wait : Int) (h1 : 1 ≤ cap) (h2 : cap ≤ 4096) (h3 : 0 ≤ wait) (h4 : wait ≤ 100000) (w : World) :
    Calls Try.prog 12 #[.int .i64 cap, .int .i64 wait] w fun e w' => e = .returned (.tuple #[.pointer (some ⟨w.heap.size + 1, 0, none⟩), .int .i64 0]) ∧
      w' = (w.alloc (.map #[] 0)).alloc (.cells #[.int .i64 cap, .int .i64 wait, .bool false, .slice none 0 0, .map (some w.heap.size)] 80) := by
  have hu80 := Try.underlying80
  have d1 : decide (cap < 1) = false := decide_eq_false (by omega)
  have d2 : decide (cap > 4096) = false := decide_eq_false (by omega)
  have d3 : decide (wait < 0) = false := decide_eq_false (by omega)
  have d4 : decide (wait > 100000) = false := decide_eq_false (by omega)
  have km := fun W : World => run_makeMap (P := Try.prog) 78 W
  go_enter Try.func12, Try.ntmps12
  go_wp2
  go_ret2
  exact ⟨by first | rfl | simp, by first | rfl | simp⟩
end Go.Proofs.Ytbhibodgbgndbaa.B
