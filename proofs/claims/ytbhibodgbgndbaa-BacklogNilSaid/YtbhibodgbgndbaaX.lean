/- Equality of entries; the law's known. No condition. -/
import Derived.Test.YtbhibodgbgndbaaV
namespace Go.Proofs.Ytbhibodgbgndbaa.B
open Go Go.RowKit Go.Proofs Go.Proofs.YtbhibodgbgndbaaW.PrintWords Go.Proofs.YtbhibodgbgndbaaW.PrintLast Go.Proofs.YtbhibodgbgndbaaW.PrintMore
set_option linter.unusedVariables false
set_option linter.unusedSimpArgs false

theorem info3 : (Try.prog.info? 3).map (·.size) = some 1 := by kernel_rfl
theorem agg30 (w : World) : (isAgg 30).run Try.prog w = .ok true w := by simp [isAgg, run_underlying Try.underlying30]
theorem agg3 (w : World) : (isAgg 3).run Try.prog w = .ok false w := by simp [isAgg, run_underlying Try.underlying3]
theorem part_id (w : World) (x : List Int) (hx : x.length = 32) (a t : Int) : (part 30 (entL x a t).toArray 0).run Try.prog w = .ok (idV x) w := by
  obtain ⟨i0, hi, hz⟩ := Option.map_eq_some_iff.1 info30
  have e : (List.take 32 (entL x a t)).toArray = idC x := by
    unfold entL idC
    rw [List.take_left' (by simpa using hx)]
  simp [part, sizeOf, typeInfo, hi, hz, agg30, e, idV, entL_len x hx]
theorem part_32 (w : World) (x : List Int) (hx : x.length = 32) (a t : Int) : (part 3 (entL x a t).toArray 32).run Try.prog w = .ok (.int .i64 a) w := by
  obtain ⟨i0, hi, hz⟩ := Option.map_eq_some_iff.1 info3
  have h := at_ent32 x a t ⟨hx⟩
  simp [part, sizeOf, typeInfo, hi, hz, agg3, h, entL_len x hx]
  exact (List.getElem?_eq_some_iff.1 h).2
theorem part_33 (w : World) (x : List Int) (hx : x.length = 32) (a t : Int) : (part 3 (entL x a t).toArray 33).run Try.prog w = .ok (.int .i64 t) w := by
  obtain ⟨i0, hi, hz⟩ := Option.map_eq_some_iff.1 info3
  have h := at_ent33 x a t ⟨hx⟩
  simp [part, sizeOf, typeInfo, hi, hz, agg3, h, entL_len x hx]
  exact (List.getElem?_eq_some_iff.1 h).2
theorem fields59 : (Try.prog.fieldsOf 59).toList.map (fun f => (f.name == "_", f.type, f.offset)) = [(false, 30, 0), (false, 3, 32), (false, 3, 33)] := by kernel_rfl
theorem eqEnt_gen {P : Program} (d : Nat) (w : World) (X Y : Array Value) (V W : Value) (a b t u : Int) (q : Prop) [Decidable q] (hs : P.stoodInHeld 59 = false) (hu : P.underlying 59 = some (.struct (P.fieldsOf 59)))
    (hf : (P.fieldsOf 59).toList.map (fun f => (f.name == "_", f.type, f.offset)) = [(false, 30, 0), (false, 3, 32), (false, 3, 33)])
    (hq : (Op.equalIn d 30 V W).run P w = .ok (decide q) w) (hi1 : (Op.equalIn d 3 (.int .i64 a) (.int .i64 b)).run P w = .ok (a == b) w) (hi2 : (Op.equalIn d 3 (.int .i64 t) (.int .i64 u)).run P w = .ok (t == u) w)
    (px : (part 30 X 0).run P w = .ok V w) (py : (part 30 Y 0).run P w = .ok W w) (px2 : (part 3 X 32).run P w = .ok (.int .i64 a) w) (py2 : (part 3 Y 32).run P w = .ok (.int .i64 b) w) (px3 : (part 3 X 33).run P w = .ok (.int .i64 t) w) (py3 : (part 3 Y 33).run P w = .ok (.int .i64 u) w) :
    (Op.equalIn (d + 1) 59 (.agg X) (.agg Y)).run P w = .ok (decide (q ∧ a = b ∧ t = u)) w := by
  rw [run_equalIn_struct w d 59 _ _ hu hs]
  generalize (P.fieldsOf 59).toList = fs at hf
  obtain ⟨f0, fs1, rfl, e0, hf⟩ := List.map_eq_cons_iff.1 hf
  obtain ⟨f1, fs2, rfl, e1, hf⟩ := List.map_eq_cons_iff.1 hf
  obtain ⟨f2, fs3, rfl, e2, hf⟩ := List.map_eq_cons_iff.1 hf
  obtain rfl := List.map_eq_nil_iff.1 hf
  simp only [Prod.mk.injEq] at e0 e1 e2
  obtain ⟨n0, t0, o0⟩ := e0
  obtain ⟨n1, t1, o1⟩ := e1
  obtain ⟨n2, t2, o2⟩ := e2
  have m0 : f0.name ≠ "_" := by simpa using n0
  have m1 : f1.name ≠ "_" := by simpa using n1
  have m2 : f2.name ≠ "_" := by simpa using n2
  simp only [Op.eqFields, if_pos m0, if_pos m1, if_pos m2, t0, o0, t1, o1, t2, o2]
  simp only [Sem.run_bind, px, py, px2, py2, px3, py3, Result.andThen_ok, hq]
  by_cases h1 : q
  · rw [decide_eq_true h1]
    simp only [Bool.not_true, Bool.false_eq_true, if_false, Sem.run_bind, px2, py2, Result.andThen_ok, hi1]
    by_cases h2 : a = b
    · rw [show (a == b) = true by simpa using h2]
      simp only [Bool.not_true, Bool.false_eq_true, if_false, Sem.run_bind, px3, py3, Result.andThen_ok, hi2]
      by_cases h3 : t = u
      · rw [show (t == u) = true by simpa using h3, decide_eq_true ⟨h1, h2, h3⟩]
        simp
      · rw [show (t == u) = false by simpa using h3, decide_eq_false (fun h => h3 h.2.2)]
        simp
    · rw [show (a == b) = false by simpa using h2, decide_eq_false (fun h => h2 h.2.1)]
      simp
  · rw [decide_eq_false h1, decide_eq_false (fun h => h1 h.1)]
    simp
theorem stood59 : Try.prog.stoodInHeld 59 = false := by kernel_rfl
theorem under59 : Try.prog.underlying 59 = some (.struct (Try.prog.fieldsOf 59)) := by kernel_rfl
theorem run_eqEnt (w : World) (x y : List Int) (hx : x.length = 32) (hy : y.length = 32) (a b t u : Int) : (Op.equalIn 10000 59 (.agg (entL x a t).toArray) (.agg (entL y b u).toArray)).run Try.prog w = .ok (decide (x = y ∧ a = b ∧ t = u)) w :=
  eqEnt_gen 9999 w _ _ _ _ a b t u (x = y) stood59 under59 fields59 (run_eqId 9997 w x y hx hy) (run_equalIn_int w 9998 3 .i64 .i64 a b Try.underlying3) (run_equalIn_int w 9998 3 .i64 .i64 t u Try.underlying3)
    (part_id w x hx a t) (part_id w y hy b u) (part_32 w x hx a t) (part_32 w y hy b u) (part_33 w x hx a t) (part_33 w y hy b u)
end Go.Proofs.Ytbhibodgbgndbaa.B
