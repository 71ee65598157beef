/- Identities as keys of a map. No condition. -/
import Derived.Test.YtbhibodgbgndbaaE
namespace Go.Proofs.Ytbhibodgbgndbaa.B
open Go Go.RowKit Go.Proofs Go.Proofs.YtbhibodgbgndbaaW.PrintWords Go.Proofs.YtbhibodgbgndbaaW.PrintLast Go.Proofs.YtbhibodgbgndbaaW.PrintMore
set_option linter.unusedVariables false
set_option linter.unusedSimpArgs false

theorem laid : laidOutB Try.prog = true := by kernel_rfl
theorem keyed30 : Go.Maps.Keyed Try.prog 30 :=
  Go.Maps.Keyed.of_law (deep_law_laid laid (m := 2) (by omega) (of_decide_eq_true (by kernel_rfl)) (by kernel_rfl) (by rw [Try.underlying30]))
theorem mapM_some {α β : Type} (f : α → Option β) (g : α → β) : ∀ l : List α, (∀ i ∈ l, f i = some (g i)) → l.mapM f = some (l.map g)
  | [], _ => rfl
  | a :: l, h => by
    rw [List.mapM_cons, h a (by simp), mapM_some f g l (fun i hi => h i (by simp [hi]))]
    rfl
theorem cells30 : Try.prog.cellsOf 30 = 32 := by kernel_rfl
theorem key_of (x : List Int) (hx : x.length = 32) (hw : ∀ z ∈ x, (Lit.int .u8 z).wf = true) : ∃ l, keyOf Try.prog 30 (idV x) = some l := by
  have hk : Try.prog.keyType 30 = true := by kernel_rfl
  have hf : (idV x).formed Try.prog 30 = true := by simp [idV, Value.formed, Try.underlying30, cells30, idC, hx]
  obtain ⟨d, hd⟩ : ∃ d, Try.prog.types.size + 1 = d + 2 := ⟨Try.prog.types.size - 1, by have : 1 ≤ Try.prog.types.size := of_decide_eq_true (by kernel_rfl); omega⟩
  have hl : Try.prog.keyLits (d + 2) 30 (x.map (Value.int .u8)) = some ((List.range 32).map (fun i => [Lit.int .u8 (x.getD i 0)])).flatten := by
    unfold Program.keyLits
    rw [Try.underlying30]
    dsimp only
    rw [if_pos (by rw [cells30]; simp [hx]), mapM_some _ (fun i => [Lit.int .u8 (x.getD i 0)])]
    · rfl
    · intro i hi
      have hi32 : i < x.length := by have := List.mem_range.1 hi; omega
      rw [cells5, Nat.mul_one]
      have e : ((x.map (Value.int .u8)).drop i).take 1 = [.int .u8 x[i]] := by
        rw [List.drop_eq_getElem_cons (by simpa using hi32)]; simp
      rw [e]
      unfold Program.keyLits
      rw [Try.underlying5]
      dsimp only
      rw [if_pos ⟨rfl, hw _ (List.getElem_mem hi32)⟩]
      simp [List.getD_eq_getElem?_getD, hi32]
  refine ⟨.string (keyBytes ((List.range 32).map (fun i => [Lit.int .u8 (x.getD i 0)])).flatten), ?_⟩
  unfold keyOf
  rw [Try.underlying30]
  dsimp only
  rw [hk, hf]
  simp only [Bool.and_self, if_true]
  rw [hd, show (idV x).cells.toList = x.map (Value.int .u8) by simp [idV, idC, Value.cells], hl]
  rfl
/-- The literal that an identity reads as. -/
theorem key_inj (x y : List Int) (hx : x.length = 32) (hy : y.length = 32) (l m : Lit) (hl : keyOf Try.prog 30 (idV x) = some l) (hm : keyOf Try.prog 30 (idV y) = some m) (w : World) : l = m ↔ x = y := by
  obtain ⟨r, hr, hiff⟩ := run_equal_deep (P := Try.prog) w (m := 2) (by omega) (k := 30) (by kernel_rfl) (by rw [Try.underlying30]) hl hm
  have h := run_eqId 9998 w x y hx hy
  have h2 : (Op.equal 30 (idV x) (idV y)).run Try.prog w = .ok (decide (x = y)) w := h
  rw [h2] at hr
  cases hr
  rw [← hiff]; simp
end Go.Proofs.Ytbhibodgbgndbaa.B
