/- The contracts of utf8.classes and utf8.sizeOf: the table of encodings, and the size that a first byte asks for. Condition: the byte is not negative. -/
import Derived.Test.YtpjiidcnbceffaaI
namespace Go.Proofs.Ytpjiidcnbceffaa.UA
open Go Go.RowKit Go.Proofs.YtpjiidcnbceffaaW.PrintWords Go.Proofs.YtpjiidcnbceffaaW.PrintLast Go.Proofs.YtpjiidcnbceffaaW.PrintMore

/-- A whole array or struct goes into the block that was made last. -/
theorem wpList_store_new {P : Program} {ops : Array Oper} {rest : List Oper} {op : Oper} {a : Act} {w : World} {Q : Exit → Act → World → Prop} (hgd : op.guard = none) (ty : TypeId) (x y : Operand) (ho : op.op = .store ty x y)
    (cells old : Array Value) (hx : a.eval x = .pointer (some ⟨w.heap.size, 0, none⟩)) (hy : a.eval y = .agg cells)
    (hi : (P.info? ty).map (·.size) = some cells.size) (hs : old.size = cells.size) (h1 : cells.all (·.oneCell') = true)
    (h : wpList P ops Q rest (a.put op.dst undef) (w.alloc (.cells cells ty))) : wpList P ops Q (op :: rest) a (w.alloc (.cells old ty)) :=
  wpList_plain hgd fun _ hK => by
    unfold Oper.wp execOp
    simp only [ho, hx, hy]
    rw [Sem.run_bind]
    simp only [run_storeAt_new w ty old cells hi hs h1]
    exact hK _ _ h

def tabCells : Array Value := #[.int .u8 0, .int .u8 127, .int .u8 127, .int .i32 0, .int .i32 127, .int .u8 194, .int .u8 223, .int .u8 31, .int .i32 128, .int .i32 2047, .int .u8 224, .int .u8 239, .int .u8 15, .int .i32 2048, .int .i32 65535, .int .u8 240, .int .u8 244, .int .u8 7, .int .i32 65536, .int .i32 1114111]
theorem tab_one : tabCells.all (·.oneCell') = true := by simp [tabCells, Value.oneCell']
theorem results39 (tm : Array Value) (w : World) (h : tm.getD 0 undef = .pointer (some ⟨w.heap.size, 0, none⟩)) :
    (results Try.f39 tm).run Try.prog (w.alloc (.cells tabCells 64)) = .ok (.agg tabCells) (w.alloc (.cells tabCells 64)) :=
  results_cell_row (fn := Try.f39) (p := 0) (ty := 64) (by kernel_rfl) tm (w.alloc (.cells tabCells 64)) w.heap.size 64 tabCells (0, 0) (.array 4 63) h (heap_alloc_last w _) (by kernel_rfl) rfl (by kernel_rfl)
set_option maxHeartbeats 400000 in
set_option maxRecDepth 100000 in
theorem classes_any (w : World) : Calls Try.prog 39 #[] w fun e w' => e = .returned (.agg tabCells) ∧ Below w.heap.size w w' := by
  go_enter Try.func39, Try.ntmps39
  go_wp2_with (refine wpList_store_new rfl 64 (.tmp 0) (.tmp 5) rfl tabCells _ rfl rfl (by kernel_rfl) rfl tab_one ?_)
  refine bodyPost_ret (v := .agg tabCells) (results39 _ _ rfl) rfl ⟨rfl, (Below.refl _ _).alloc (Nat.le_refl _) _⟩

theorem ix0 (w : World) : (Instr.index 64 (.agg tabCells) (.int .i64 0)).run Try.prog w = .ok (.agg #[.int .u8 0, .int .u8 127, .int .u8 127, .int .i32 0, .int .i32 127]) w := by kernel_rfl
theorem ix1 (w : World) : (Instr.index 64 (.agg tabCells) (.int .i64 1)).run Try.prog w = .ok (.agg #[.int .u8 194, .int .u8 223, .int .u8 31, .int .i32 128, .int .i32 2047]) w := by kernel_rfl
theorem ix2 (w : World) : (Instr.index 64 (.agg tabCells) (.int .i64 2)).run Try.prog w = .ok (.agg #[.int .u8 224, .int .u8 239, .int .u8 15, .int .i32 2048, .int .i32 65535]) w := by kernel_rfl
theorem ix3 (w : World) : (Instr.index 64 (.agg tabCells) (.int .i64 3)).run Try.prog w = .ok (.agg #[.int .u8 240, .int .u8 244, .int .u8 7, .int .i32 65536, .int .i32 1114111]) w := by kernel_rfl

theorem ret_int {k : IntKind} {a b : Int} (h : a = b) : Ending.returned (.int k a) = .returned (.int k b) := by rw [h]
def szOf (b : Int) : Int := if b ≤ 127 then 1 else if b < 194 then 0 else if b ≤ 223 then 2 else if b ≤ 239 then 3 else if b ≤ 244 then 4 else 0
set_option maxHeartbeats 1000000 in
set_option maxRecDepth 100000 in
theorem sizeOf_any (b : Int) (h0 : 0 ≤ b) (w : World) : Calls Try.prog 50 #[.int .u8 b] w fun e w' => e = .returned (.int .i64 (szOf b)) ∧ Below w.heap.size w w' := by
  have i0 := ix0
  have i1 := ix1
  have i2 := ix2
  have i3 := ix3
  go_enter Try.func50, Try.ntmps50
  go_wp2_with (first | (go_at_call 39; refine (classes_any _).mono ?_; rintro e w1 ⟨rfl, hb1⟩))
  go_rounds 5
  all_goals
    go_ret
    refine ⟨ret_int ?_, by have := hb1.size; go_grown⟩
    unfold szOf
    repeat (first | rw [if_pos (by omega)] | rw [if_neg (by omega)])
end Go.Proofs.Ytpjiidcnbceffaa.UA
