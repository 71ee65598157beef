/- An entry built out of its parts, and a row of one entry. No condition. -/
import Derived.Test.YtbhibodgbgndbaaG
import Derived.Great.BuildSlice
namespace Go.Proofs.Ytbhibodgbgndbaa.B
open Go Go.RowKit Go.Proofs Go.Proofs.YtbhibodgbgndbaaW.PrintWords Go.Proofs.YtbhibodgbgndbaaW.PrintLast Go.Proofs.YtbhibodgbgndbaaW.PrintMore
set_option linter.unusedVariables false
set_option linter.unusedSimpArgs false

/-- A part goes in whole. -/
theorem fill_step (place : Nat → Option (Nat × Nat)) (pre mid post : List Value) (i : Nat) (v : Value) (rest : List (Nat × Value)) (hp : place i = some (pre.length, mid.length)) (hv : v.cells.size = mid.length) :
    Instr.fill place (pre ++ mid ++ post).toArray ((i, v) :: rest) = Instr.fill place (pre ++ v.cells.toList ++ post).toArray rest := by
  conv => lhs; unfold Instr.fill
  simp only [hp]
  rw [if_neg (by simp; omega)]
  congr 1
  rw [← Array.foldl_toList, Array.toList_zipIdx]
  obtain ⟨g1, g2⟩ := Go.Great.foldl_set pre.length v.cells.toList 0 (pre ++ mid ++ post).toArray
  apply Array.ext_getElem?
  intro k
  rw [g2 k]
  simp only [Nat.add_zero, Array.length_toList, hv, List.size_toArray, List.length_append, List.getElem?_toArray]
  by_cases h : pre.length ≤ k ∧ k < pre.length + mid.length ∧ k < pre.length + mid.length + post.length
  · rw [if_pos h, List.append_assoc, List.getElem?_append_right h.1, List.getElem?_append_left (by simp; omega)]
  · rw [if_neg h]
    by_cases h1 : k < pre.length
    · rw [List.append_assoc, List.append_assoc, List.getElem?_append_left h1, List.getElem?_append_left h1]
    · rw [List.getElem?_append_right (by simp; omega), List.getElem?_append_right (by simp; omega)]
      simp [hv]
def zeros34 : List Value := List.replicate 32 (.int .u8 0) ++ [.int .i64 0, .int .i64 0]
theorem zero59 : ((Try.prog.info? 59).bind (·.zero)).map (·.cells) = some zeros34.toArray := by kernel_rfl
theorem places59 : ∃ fs : Array Field, Try.prog.underlying 59 = some (.struct fs) ∧ fs.toList.mapM (fun f => (Try.prog.info? f.type).map fun i => (f.offset, i.size)) = some [(0, 32), (32, 1), (33, 1)] := ⟨_, Try.underlying59, by kernel_rfl⟩
theorem run_build59 (x : List Int) (hx : x.length = 32) (due : Int) (W : World) : (Instr.build 59 #[(0, .agg (x.map (Value.int .u8)).toArray), (1, .int .i64 due)]).run Try.prog W = .ok (.agg (entL x due 0).toArray) W := by
  refine run_build W 59 _ _ ?_
  obtain ⟨fs, hu, hm⟩ := places59
  obtain ⟨v, h1, h2⟩ := Option.map_eq_some_iff.1 zero59
  obtain ⟨it, h3, h4⟩ := Option.bind_eq_some_iff.1 h1
  unfold Program.built
  simp only [h3, hu, h4, hm, h2]
  have e1 : zeros34 = [] ++ List.replicate 32 (.int .u8 0) ++ [.int .i64 0, .int .i64 0] := rfl
  rw [e1, fill_step _ [] _ _ 0 _ _ (by simp) (by simp [Value.cells, hx])]
  have e2 : ([] ++ (Value.agg (x.map (Value.int .u8)).toArray).cells.toList ++ [Value.int .i64 0, Value.int .i64 0] : List Value) = (x.map (Value.int .u8)) ++ [Value.int .i64 0] ++ [Value.int .i64 0] := by simp [Value.cells]
  rw [e2, fill_step _ _ _ _ 1 _ _ (by simp [hx]) (by simp [Value.cells])]
  simp [Instr.fill, entL, Value.cells]
theorem run_buildRow (c : List Value) (hc : c.length = 34) (W : World) : (Instr.buildSlice 55 1 #[(0, .agg c.toArray)]).run Try.prog W = .ok (.slice (some ⟨W.heap.size, 0, none⟩) 1 1) (W.alloc (.cells c.toArray 59)) := by
  obtain ⟨v, h1, h2⟩ := Option.map_eq_some_iff.1 zero59
  obtain ⟨it, h3, h4⟩ := Option.bind_eq_some_iff.1 h1
  have hz : it.size = 34 := by have := info59; rw [h3] at this; simpa using this
  refine run_buildSlice W 55 59 1 _ _ it v Try.underlying55 h3 h4 (by rw [hz]; omega) (by rw [hz]; omega) ?_
  rw [hz]
  have e0 : ((Array.range (1 * 34)).map (v.cells[· % v.cells.size]!)) = ([] ++ zeros34 ++ []).toArray := by rw [h2]; kernel_rfl
  rw [e0]
  show Instr.fill (fun i => some (i * 34, 34)) _ [(0, .agg c.toArray)] = _
  rw [fill_step _ [] zeros34 [] 0 _ _ rfl (by simp [Value.cells, hc]; rfl)]
  simp [Instr.fill, Value.cells]
end Go.Proofs.Ytbhibodgbgndbaa.B
