/- The row of the law BacklogNil. No condition. -/
import Derived.Test.YtbhibodgbgndbaaRows
import Derived.Test.YtbhibodgbgndbaaNc
import Derived.Test.YtbhibodgbgndbaaNd
import Derived.WalkKit
import Derived.ProofKit
import Derived.OpenShut
import Derived.ShutString
import Derived.ChangeOld
import Derived.Below
import Derived.SizedLaws
import Derived.Test.YtbhibodgbgndbaaWSized
namespace Go.Proofs.Ytbhibodgbgndbaa.backlogNil
open Go.ChangeShapes Go.WideShapes Go.ChangeAt Go.RowKit
open Go.ChangeMaps (open_string shut_string)
set_option linter.unusedVariables false
theorem own : ownKnob Try.prog.godebug = none := by kernel_rfl
theorem laidOut : laidOutB Try.prog = true := by kernel_rfl
set_option maxRecDepth 100000 in
theorem lifted (os : Os) (started : os.Started) (H : Type) (enc : TypeId × Value → H) :
    ReturnsInHanded {} Try.checked os 8 .any (Rows.backlogNilSpec.pre6 enc Try.prog Try.f8 Rows.backlogNilRow.domain false) (Rows.backlogNilSpec.post enc Try.prog Try.f8 false true false false) := by
  refine returnsInHanded_of_change_sized (C := Try.checked) own started (by kernel_rfl) Try.func8
    (ChangeSpec.witness6 (enc := enc) (C := Try.checked) false ⟨#[], #[.agg #[.int .i64 0, .int .u8 0, .int .u8 0, .int .u8 0, .int .u8 0, .int .u8 0, .int .u8 0, .int .u8 0, .int .u8 0, .int .u8 0, .int .u8 0, .int .u8 0, .int .u8 0, .int .u8 0, .int .u8 0, .int .u8 0, .int .u8 0, .int .u8 0, .int .u8 0, .int .u8 0, .int .u8 0, .int .u8 0, .int .u8 0, .int .u8 0, .int .u8 0, .int .u8 0, .int .u8 0, .int .u8 0, .int .u8 0, .int .u8 0, .int .u8 0, .int .u8 0, .int .u8 0, .int .i64 0, .int .i64 0, .slice none 0 0]], []⟩ 8 (by kernel_rfl) (by kernel_rfl) (by kernel_rfl) (by kernel_rfl)) ?_
  intro W base args ds gs before hval0 hW hcnd hsz0 _
  have hval : ∀ (j : Nat) t v, Try.f8.params[j]? = some t → args[j]? = some v → Value.okWide Try.prog W .any base t v := hval0
  have hW' := hW
  obtain ⟨p, q, hA0, hV, rfl, hfz, hnd⟩ := hW
  have hA : DataW.TrodAll enc Try.prog W 0 (fun _ => true) true Try.f8.params.toList args.toList ds p := hA0
  have hsz : (DataW.weightsEach Try.prog (Try.f8.params.toList ++ Rows.backlogNilSpec.plain.varTypes Try.prog) (ds ++ gs)).all (· ≤ reachBytes) = true := hsz0
  rw [Try.params8] at hA hval hsz
  obtain ⟨v0, vs0, d0, ds0, p0, q0, hargs, rfl, rfl, h0, r0⟩ := trodAll_cons hA
  obtain ⟨rfl, rfl, rfl⟩ := trodAll_nil r0
  obtain rfl : args = #[v0] := by cases args; simp_all
  obtain ⟨rfl, rfl⟩ := trodVars_none hV
  obtain ⟨a0, rfl, _⟩ := okWide_struct Try.underlying33 (hval 0 33 v0 rfl rfl)
  have k0 := h0
  have lt0 : ∀ x ∈ p0, x.block < W.heap.size := by obtain ⟨m, hm⟩ := k0; exact DataW.trod_lt m _ _ _ hm
  obtain ⟨o0, z0, m0⟩ : ∃ o, B.OpAt (W.alloc (.cells a0 33)) ⟨W.heap.size, 0, none⟩ o ∧ o.ids.length * 32 ≤ reachBytes := by
    obtain ⟨fuel, hf⟩ := h0
    refine B.open_opv Try.underlying29 Try.underlying5 B.cells29 B.cells5' Try.underlying31 Try.underlying33 (by kernel_rfl) (by kernel_rfl) Try.underlying3 B.cells3 B.cells31 B.cells33 (by kernel_rfl) (fun i hi => ?_) (fun a v h => B.cell_alloc h _) hf (fun k hk => ?_)
    · rw [B.cell_add, cell_of_row _ _ _ _ 33 (0, 0) (heap_alloc_last W _)]; simp [Value.cells]
    · have z := List.all_eq_true.1 hsz k (DataW.weights_mem_each (j := 0) (t := 33) rfl rfl k hk)
      simpa using z
  have n0 : o0.ids.length * 32 ≤ 140737488355328 := by have := reachBytes_lt; omega
  clear hA0 hval0 hsz0 hsz
  refine (B.nil_law a0 o0 W z0 n0).mono fun e W' ⟨he, bel⟩ => ?_
  subst he
  exact ⟨_, rfl, _, _, _, [], _, [], hW', trodAll_mk1 (shut_bool Try.underlying4 _), (trodAll_cons_mk (Below.trod laidOut (by kernel_rfl) (of_decide_eq_true (by kernel_rfl)) k0 bel lt0) trodAll_mk0), rfl, bel.frame _, fun h => by cases h⟩
theorem over : Rows.backlogNilRow.holds Try.pinned (OpenSpec.ofChange Rows.backlogNilSpec) :=
  OpenClaim.holds_of_wide 8 Try.f8 rfl rfl rfl rfl rfl rfl rfl ⟨rfl, rfl, rfl, rfl, rfl⟩ rfl rfl rfl rfl rfl (by kernel_rfl) Try.func8 (by kernel_rfl)
    (of_decide_eq_true (by kernel_rfl)) (by unfold Func.isWrapper; first | (rw [if_pos (by decide +kernel)]; kernel_rfl) | (rw [if_neg (by decide +kernel)]; exact ⟨rfl, rfl⟩))
    (fun os started H enc _ => lifted os started H enc)
theorem proved : Rows.BacklogNilSaid := over
#print axioms proved
end Go.Proofs.Ytbhibodgbgndbaa.backlogNil
namespace Go.Proofs.Ytbhibodgbgndbaa
/-- The row, under a short name, for the claim. -/
theorem backlogNil_holds : Rows.BacklogNilSaid := backlogNil.proved
end Go.Proofs.Ytbhibodgbgndbaa
