/- Identities ([32]byte) as values, and their equality at the operation. No condition. -/
import Derived.Test.YtbhibodgbgndbaaI
namespace Go.Proofs.Ytbhibodgbgndbaa.B
open Go Go.RowKit Go.Proofs
set_option linter.unusedVariables false
set_option linter.unusedSimpArgs false

/-- The cells of an identity whose bytes are these numbers. -/
def idC (x : List Int) : Array Value := (x.map (Value.int .u8)).toArray
def idV (x : List Int) : Value := .agg (idC x)
theorem idC_size (x : List Int) : (idC x).size = x.length := by simp [idC]
theorem info5 : (Try.prog.info? 5).map (·.size) = some 1 := by kernel_rfl
theorem cells5 : Try.prog.cellsOf 5 = 1 := by kernel_rfl
theorem run_part (w : World) (x : List Int) (i : Nat) (h : i < x.length) : (part 5 (idC x) (i * 1)).run Try.prog w = .ok (.int .u8 x[i]) w := by
  obtain ⟨i0, hi, hz⟩ := Option.map_eq_some_iff.1 info5
  simp [part, sizeOf, typeInfo, hi, hz, idC, h]
theorem run_eq5 (w : World) (d : Nat) (a b : Int) : (Op.equalIn (d + 1) 5 (.int .u8 a) (.int .u8 b)).run Try.prog w = .ok (a == b) w := by
  simp [Op.equalIn, run_underlying Try.underlying5]
theorem run_items (w : World) (d : Nat) (x y : List Int) (hx : x.length = 32) (hy : y.length = 32) : ∀ is : List Nat, (∀ i ∈ is, i < 32) →
    (Op.eqItems (d + 1) 5 1 (idC x) (idC y) is).run Try.prog w = .ok (is.all fun i => x[i]? == y[i]?) w
  | [], _ => by simp [Op.eqItems]
  | i :: is, h => by
    have hi := h i (by simp)
    have ih := run_items w d x y hx hy is (fun j hj => h j (by simp [hj]))
    simp only [Op.eqItems, Sem.run_bind, run_part w x i (by omega), run_part w y i (by omega), Result.andThen_ok, run_eq5]
    have e : (x[i]? == y[i]?) = (x[i]'(by omega) == y[i]'(by omega)) := by
      rw [List.getElem?_eq_getElem (by omega), List.getElem?_eq_getElem (by omega)]; simp
    cases hr : (x[i]'(by omega) == y[i]'(by omega)) with
    | false => simp [e, hr]
    | true => simp [e, hr, ih]
theorem all_eq (x y : List Int) (hx : x.length = 32) (hy : y.length = 32) : ((List.range 32).all fun i => x[i]? == y[i]?) = decide (x = y) := by
  rw [Bool.eq_iff_iff]
  simp only [List.all_eq_true, List.mem_range, beq_iff_eq, decide_eq_true_eq]
  constructor
  · intro h
    apply List.ext_getElem?
    intro i
    by_cases hi : i < 32
    · exact h i hi
    · rw [List.getElem?_eq_none (by omega), List.getElem?_eq_none (by omega)]
  · rintro rfl i _; rfl
theorem run_eqId (d : Nat) (w : World) (x y : List Int) (hx : x.length = 32) (hy : y.length = 32) : (Op.equalIn (d + 2) 30 (idV x) (idV y)).run Try.prog w = .ok (decide (x = y)) w := by
  obtain ⟨i0, hi, hz⟩ := Option.map_eq_some_iff.1 info5
  rw [idV, idV, run_equalIn_array w (d + 1) _ _ Try.underlying30 hi, cells5, run_items w d x y hx hy _ (fun i h => List.mem_range.1 h), all_eq x y hx hy]
theorem run_eql_id (w : World) (x y : List Int) (hx : x.length = 32) (hy : y.length = 32) : (binOp .eql 30 (idV x) (idV y)).run Try.prog w = .ok (.bool (decide (x = y))) w := by
  have h : (Op.equalIn 10000 30 (idV x) (idV y)).run Try.prog w = .ok (decide (x = y)) w := run_eqId 9998 w x y hx hy
  rw [idV, idV] at h ⊢
  rw [run_eql_struct, h]; rfl
#print axioms run_eql_id
end Go.Proofs.Ytbhibodgbgndbaa.B
