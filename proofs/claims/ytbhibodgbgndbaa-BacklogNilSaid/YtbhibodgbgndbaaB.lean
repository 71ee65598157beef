/- The closure that compares an entry's identity. No condition. -/
import Derived.Test.YtbhibodgbgndbaaA
namespace Go.Proofs.Ytbhibodgbgndbaa.B
open Go Go.RowKit Go.Proofs Go.Proofs.YtbhibodgbgndbaaW.PrintWords Go.Proofs.YtbhibodgbgndbaaW.PrintLast Go.Proofs.YtbhibodgbgndbaaW.PrintMore
set_option linter.unusedVariables false
set_option linter.unusedSimpArgs false

/-- The cells of an entry. -/
def entL (x : List Int) (due tries : Int) : List Value := x.map (Value.int .u8) ++ [.int .i64 due, .int .i64 tries]
def entV (x : List Int) (due tries : Int) : Value := .agg (entL x due tries).toArray
theorem entL_len (x : List Int) (hx : x.length = 32) (d t : Int) : (entL x d t).length = 34 := by simp [entL, hx]
theorem info30 : (Try.prog.info? 30).map (·.size) = some 32 := by kernel_rfl

theorem ent_range (w : World) (x : List Int) (due tries : Int) : (w.alloc (.cells (entL x due tries).toArray 59)).rangeAt w.heap.size 0 (x.map (Value.int .u8)) := fun j v hv => by
  rw [Nat.zero_add, cell_of_row _ _ _ _ 59 (0, 0) (heap_alloc_new w _)]
  have hj : j < (x.map (Value.int .u8)).length := (List.getElem?_eq_some_iff.1 hv).1
  simp only [List.getElem?_toArray, entL]
  rw [List.getElem?_append_left hj]; exact hv

set_option maxHeartbeats 4000000 in
set_option maxRecDepth 100000 in
theorem same_is (x y : List Int) (hx : x.length = 32) (hy : y.length = 32) (due tries : Int) (bk : Nat) (w : World) (hb : w.rangeAt bk 0 (y.map (Value.int .u8))) :
    Calls Try.prog 64 #[entV x due tries, .pointer (some ⟨bk, 0, none⟩)] w fun e w' => e = .returned (.bool (decide (x = y))) ∧ Below w.heap.size w w' := by
  have HX := Aside0.mk hx
  have HY := Aside0.mk hy
  have HB := Aside0.mk hb
  have heq : ∀ W : World, (Op.equalIn 10000 30 (.agg (x.map (Value.int .u8)).toArray) (.agg (y.map (Value.int .u8)).toArray)).run Try.prog W = .ok (decide (x = y)) W := fun W => run_eqId 9998 W x y hx hy
  clear hx hy hb
  unfold entV
  go_enter Try.func64, Try.ntmps64
  go_wp2_with (first | (refine wpList_load_mid rfl 30 (.tmp 4) rfl w.heap.size 0 rfl (x.map (Value.int .u8)) _ (ent_range w x due tries) Try.underlying30 rfl (by rw [List.length_map, HX.out]; exact info30) ?_) | (refine wpList_load_mid rfl 30 (.tmp 1) rfl bk 0 rfl (y.map (Value.int .u8)) _ (World.rangeAt_alloc HB.out _) Try.underlying30 rfl (by rw [List.length_map, HY.out]; exact info30) ?_))
  go_ret
  exact ⟨by first | rfl | simp, below_alloc (Below.refl _ _) _⟩
end Go.Proofs.Ytbhibodgbgndbaa.B
