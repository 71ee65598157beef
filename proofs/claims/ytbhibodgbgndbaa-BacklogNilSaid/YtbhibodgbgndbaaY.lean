/- The law's known. No condition. -/
import Derived.Test.YtbhibodgbgndbaaX
namespace Go.Proofs.Ytbhibodgbgndbaa.B
open Go Go.RowKit Go.Proofs Go.Proofs.YtbhibodgbgndbaaW.PrintWords Go.Proofs.YtbhibodgbgndbaaW.PrintLast Go.Proofs.YtbhibodgbgndbaaW.PrintMore
set_option linter.unusedVariables false
set_option linter.unusedSimpArgs false

/-- The identity whose first byte is n. -/
def idN (n : Int) : List Int := n :: List.replicate 31 0
theorem idN_len (n : Int) : (idN n).length = 32 := by simp [idN]
theorem idN_ok (n : Int) (h : (Lit.int .u8 n).wf = true) : Idok (idN n) := ⟨idN_len n, fun z hz => by
  rcases List.mem_cons.1 hz with rfl | hz
  · exact h
  · rw [List.eq_of_mem_replicate hz]; decide⟩
theorem zero30' : (Try.prog.info? 30).bind (·.zero) = some (.agg zeros32.toArray) := by kernel_rfl
theorem run_build1 (n : Int) (W : World) : (Instr.build 30 #[(0, Value.int .u8 n)]).run Try.prog W = .ok (.agg ((idN n).map (Value.int .u8)).toArray) W := by
  refine run_build W 30 _ _ ?_
  obtain ⟨it, h3, h4⟩ := Option.bind_eq_some_iff.1 zero30'
  obtain ⟨i5, h5, h6⟩ := Option.map_eq_some_iff.1 info5
  unfold Program.built
  simp only [h3, Try.underlying30, h4, h5, h6]
  have e1 : (Value.agg zeros32.toArray).cells = ([] ++ [Value.int .u8 0] ++ List.replicate 31 (Value.int .u8 0)).toArray := rfl
  rw [e1, fill_step _ [] _ _ 0 _ _ (by simp) (by simp [Value.cells])]
  simp [Instr.fill, Value.cells, idN]
def bldN (a : Value) : Sem Value := Instr.build 30 #[(0, a)]
@[go_sem ↓] theorem execOp_bldN (ρ : Operand → Value) (dst : Option Tmp) (p : Operand) (ty : TypeId) (pos : String) (after : Array Edge) (guard : Option (Nat × Bool)) :
    execOp ρ { dst, op := .build 30 #[(0, p)], type := ty, pos, after, guard } = (do pure (.value (← bldN (ρ p)))) := by simp [execOp, bldN]
@[go_sem] theorem run_bldN (n : Int) (W : World) : (bldN (Value.int .u8 n)).run Try.prog W = .ok (.agg ((idN n).map (Value.int .u8)).toArray) W := run_build1 n W
theorem run_build59c (x : List Int) (hx : x.length = 32) (due tr : Int) (W : World) : (Instr.build 59 #[(0, .agg (x.map (Value.int .u8)).toArray), (1, .int .i64 due), (2, .int .i64 tr)]).run Try.prog W = .ok (.agg (entL x due tr).toArray) W := by
  refine run_build W 59 _ _ ?_
  obtain ⟨fs, hu, hm⟩ := places59
  obtain ⟨v, h1, h2⟩ := Option.map_eq_some_iff.1 zero59
  obtain ⟨it, h3, h4⟩ := Option.bind_eq_some_iff.1 h1
  unfold Program.built
  simp only [h3, hu, h4, hm, h2]
  have e1 : zeros34 = [] ++ List.replicate 32 (.int .u8 0) ++ [.int .i64 0, .int .i64 0] := rfl
  rw [e1, fill_step _ [] _ _ 0 _ _ (by simp) (by simp [Value.cells, hx])]
  have e2 : ([] ++ (Value.agg (x.map (Value.int .u8)).toArray).cells.toList ++ [Value.int .i64 0, Value.int .i64 0] : List Value) = (x.map (Value.int .u8)) ++ [Value.int .i64 0] ++ [Value.int .i64 0] := by simp [Value.cells]
  rw [e2, fill_step _ _ _ _ 1 _ _ (by simp [hx]) (by simp [Value.cells])]
  have e3 : (x.map (Value.int .u8) ++ (Value.int .i64 due).cells.toList ++ [Value.int .i64 0] : List Value) = (x.map (Value.int .u8) ++ [Value.int .i64 due]) ++ [Value.int .i64 0] ++ [] := by simp [Value.cells]
  rw [e3, fill_step _ _ _ _ 2 _ _ (by simp [hx]) (by simp [Value.cells])]
  simp [Instr.fill, entL, Value.cells]
def bldE3 (a b c : Value) : Sem Value := Instr.build 59 #[(0, a), (1, b), (2, c)]
@[go_sem ↓] theorem execOp_bldE3 (ρ : Operand → Value) (dst : Option Tmp) (p q r : Operand) (ty : TypeId) (pos : String) (after : Array Edge) (guard : Option (Nat × Bool)) :
    execOp ρ { dst, op := .build 59 #[(0, p), (1, q), (2, r)], type := ty, pos, after, guard } = (do pure (.value (← bldE3 (ρ p) (ρ q) (ρ r)))) := by simp [execOp, bldE3]
theorem run_bldE3 (x : List Int) (due tr : Int) (W : World) (hx : x.length = 32) : (bldE3 (.agg (x.map (Value.int .u8)).toArray) (.int .i64 due) (.int .i64 tr)).run Try.prog W = .ok (.agg (entL x due tr).toArray) W := run_build59c x hx due tr W

attribute [local go_sem ↓] execOp_ld30 execOp_ld59
def k0 : St := ⟨2, 5, false, [], []⟩
def k1 : St := ⟨2, 5, false, [(idN 1, 10, 0)], []⟩
def k2 : St := ⟨2, 5, false, [(idN 1, 10, 0), (idN 2, 10, 0)], []⟩
def k3 : St := ⟨2, 5, false, [(idN 1, 10, 0), (idN 2, 10, 0)], [idN 1]⟩
def k4 : St := ⟨2, 5, false, [(idN 2, 10, 0), (idN 1, 17, 1)], []⟩
theorem ke1 : addS k0 (idN 1) 10 = (k1, 0) := by kernel_rfl
theorem ke2 : addS k1 (idN 2) 10 = (k2, 0) := by kernel_rfl
theorem ke3 : offS k2 (idN 1) = (k3, 0) := by kernel_rfl
theorem ke4 : latS k3 (idN 1) 12 = (k4, 0) := by kernel_rfl
theorem ok1 : Idok (idN 1) := idN_ok 1 (by decide)
theorem ok2 : Idok (idN 2) := idN_ok 2 (by decide)
theorem kc1 {w : World} {F : Nat → Prop} {g gm : Nat} (h : BL w F g gm k0) : Calls Try.prog 13 #[.pointer (some ⟨g, 0, none⟩), .agg ((idN 1).map (Value.int .u8)).toArray, .int .i64 10] w fun e w' => e = .returned (.int .i64 0) ∧ After F g gm w w' k1 := by
  have := add_is h ok1 10
  rw [ke1] at this; exact this
theorem kc2 {w : World} {F : Nat → Prop} {g gm : Nat} (h : BL w F g gm k1) : Calls Try.prog 13 #[.pointer (some ⟨g, 0, none⟩), .agg ((idN 2).map (Value.int .u8)).toArray, .int .i64 10] w fun e w' => e = .returned (.int .i64 0) ∧ After F g gm w w' k2 := by
  have := add_is h ok2 10
  rw [ke2] at this; exact this
theorem kc3 {w : World} {F : Nat → Prop} {g gm : Nat} (h : BL w F g gm k2) : Calls Try.prog 18 #[.pointer (some ⟨g, 0, none⟩), .agg ((idN 1).map (Value.int .u8)).toArray] w fun e w' => e = .returned (.int .i64 0) ∧ After F g gm w w' k3 := by
  have := offered_is h ok1
  rw [ke3] at this; exact this
theorem kc4 {w : World} {F : Nat → Prop} {g gm : Nat} (h : BL w F g gm k3) : Calls Try.prog 20 #[.pointer (some ⟨g, 0, none⟩), .agg ((idN 1).map (Value.int .u8)).toArray, .int .i64 12] w fun e w' => e = .returned (.int .i64 0) ∧ After F g gm w w' k4 := by
  have := later_is h ok1 12
  rw [ke4] at this; exact this
theorem kc5 {w : World} {F : Nat → Prop} {g gm : Nat} (h : BL w F g gm k4) : Calls Try.prog 27 #[.pointer (some ⟨g, 0, none⟩)] w fun e w' => ∃ gb cp, e = .returned (.slice (some ⟨gb, 0, none⟩) 2 cp) ∧ w'.rangeAt gb 0 ((idN 2).map (Value.int .u8)) ∧ w'.rangeAt gb 34 (entL (idN 1) 17 1) ∧ Below w.heap.size w w' := by
  refine (all_is h).mono ?_
  rintro e w' ⟨v', rfl, ho, hb⟩
  obtain ⟨gb, cp, rfl, _, _⟩ := ho.form (by decide)
  have hl32 : ∀ e ∈ k4.es, e.1.length = 32 := by decide
  obtain ⟨A, gb', cp', hv, hA, hE⟩ := ents_of_own hl32 ho
  cases hv
  have := hA (by decide)
  cases this
  exact ⟨_, _, rfl, id_of_ent _ _ _ _ _ _ (hE 0 _ rfl), hE 1 _ rfl, hb⟩
/-- What a call has made itself lies from B on. -/
structure On (B : Nat) (w0 w : World) (F : Nat → Prop) : Prop where
  below : Below B w0 w
  own : ∀ k, F k → B ≤ k
  size : B ≤ w.heap.size
theorem On.step {B : Nat} {w0 w w1 : World} {F F1 : Nat → Prop} (h : On B w0 w F) (hF : ∀ k, F1 k → F k ∨ w.heap.size ≤ k) (hU : Upd F w w1) : On B w0 w1 F1 :=
  ⟨h.below.trans (hU.below h.size h.own), fun k hk => by
    rcases hF k hk with h1 | h1
    · exact h.own k h1
    · exact Nat.le_trans h.size h1, Nat.le_trans h.size hU.size⟩
theorem On.read {B : Nat} {w0 w w1 : World} {F : Nat → Prop} (h : On B w0 w F) (hb : Below w.heap.size w w1) : On B w0 w1 F := ⟨h.below.trans (hb.mono h.size), h.own, Nat.le_trans h.size hb.size⟩
set_option maxHeartbeats 8000000 in
set_option maxRecDepth 100000 in
theorem known_is (w : World) : Calls Try.prog 10 #[] w fun e w' => e = .returned (.bool true) ∧ Below w.heap.size w w' := by
  have hb3 := fun W => run_bldE3 (idN 1) 17 1 W (idN_len 1)
  have he := fun W => run_eqEnt W (idN 1) (idN 1) (idN_len 1) (idN_len 1) 17 17 1 1
  rw [decide_eq_true ⟨rfl, rfl, rfl⟩] at he
  have hi := fun W : World => show (Op.equalIn 10000 30 (.agg ((idN 2).map (Value.int .u8)).toArray) (.agg ((idN 2).map (Value.int .u8)).toArray)).run Try.prog W = .ok (decide (idN 2 = idN 2)) W from run_eqId 9998 W (idN 2) (idN 2) (idN_len 2) (idN_len 2)
  rw [decide_eq_true rfl] at hi
  go_enter Try.func10, Try.ntmps10
  go_wp2_with (first
    | (go_at_call 12; refine (newS 2 5 (by decide) (by decide) (by decide) (by decide) _).mono ?_; rintro e_ w0 ⟨g, gm, rfl, hb0, HB0, hq1, hq2⟩)
    | (go_at_call 13; refine (kc2 HB1).mono ?_; rintro e_ w2 ⟨rfl, F2, HB2, hF2, U2⟩)
    | (go_at_call 13; refine (kc1 HB0).mono ?_; rintro e_ w1 ⟨rfl, F1, HB1, hF1, U1⟩)
    | (go_at_call 18; refine (kc3 HB2).mono ?_; rintro e_ w3 ⟨rfl, F3, HB3, hF3, U3⟩)
    | (go_at_call 20; refine (kc4 HB3).mono ?_; rintro e_ w4 ⟨rfl, F4, HB4, hF4, U4⟩)
    | (go_at_call 27; refine (kc5 HB4).mono ?_; rintro e_ w5 ⟨gb, cp, rfl, hr0, hr1, hb5⟩; have hld := run_ld30 w5 gb (idN 2) (idN_len 2) hr0; have hld9 := run_ld59 w5 gb 34 (idN 1) 17 1 (idN_len 1) hr1; clear hr0 hr1))
  go_ret
  have o0 : On w.heap.size w w0 (fun k => k = g ∨ k = gm) := ⟨hb0, by rintro k (rfl | rfl) <;> assumption, hb0.size⟩
  have o4 := (((o0.step hF1 U1).step hF2 U2).step hF3 U3).step hF4 U4
  exact ⟨rfl, o4.below.trans (hb5.mono o4.size)⟩
end Go.Proofs.Ytbhibodgbgndbaa.B
