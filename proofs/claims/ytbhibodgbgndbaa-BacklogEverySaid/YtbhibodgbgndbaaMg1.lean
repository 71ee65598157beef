/- Texts of this seat, joined: I A B C D E F G H J K L. No condition but those that each part names. -/
import Derived.Test.YtbhibodgbgndbaaProg
import Derived.Below
import Derived.Deep.Draws
import Derived.Deep.AppendLies
import Derived.Maps.AppendAt
import Derived.OwnWalk
import Derived.Laws.BytesArg
import Derived.Laws.MakeOwn
import Derived.Laws.OwnMore
import Derived.Deep.OwnRows
import Derived.Tactics
import Derived.Lib.ConvBytes
import Derived.Laws.Slices
import Derived.WalkKit
import Derived.KernelRfl
import Derived.RowKit3
import Derived.Deep.LoopGhost
import Derived.Deep.QuietTactic
import Derived.BigQuiet
import Derived.WideLaws
import Derived.Deep.DeepCutAuto
import Derived.Deep.CutBlock
import Derived.Deep.RegionHeld3
import Derived.Laws.Rows
import Derived.Lib.AppendStr
import Derived.ArgAppend
import Derived.Laws.IdiomCopy
import Derived.OrdersHeld
import Derived.Laws.BitsLemmas
import Derived.RowKit
import Derived.Test.YtbhibodgbgndbaaWWords
import Derived.Test.YtbhibodgbgndbaaWLast
import Derived.Test.YtbhibodgbgndbaaWTab
import Derived.Test.YtbhibodgbgndbaaWFour
import Derived.Test.YtbhibodgbgndbaaWQPut
import Derived.Test.YtbhibodgbgndbaaWApart
import Derived.Test.YtbhibodgbgndbaaWArr
import Derived.Test.YtbhibodgbgndbaaWZeros
import Derived.Test.YtbhibodgbgndbaaWFoot
import Derived.Test.YtbhibodgbgndbaaWKept
import Derived.Test.YtbhibodgbgndbaaWShare
import Derived.Test.YtbhibodgbgndbaaWN
import Derived.Test.YtbhibodgbgndbaaWFootNe
import Derived.Test.YtbhibodgbgndbaaWAt
import Derived.Test.YtbhibodgbgndbaaWEqStruct
import Derived.Test.YtbhibodgbgndbaaWRepsOne
import Derived.Test.YtbhibodgbgndbaaWInv
import Derived.Test.YtbhibodgbgndbaaWInvWords
import Derived.Test.YtbhibodgbgndbaaWGuard
import Derived.Test.YtbhibodgbgndbaaWNEv
import Derived.Test.YtbhibodgbgndbaaWMore
import Derived.Deep.MidRow
import Derived.Deep.WholeRow
import Derived.Handy
import Derived.LoopN
import Derived.ChangeKeysEq
import Derived.Laws.StructEq
import Derived.Maps.OwnSet
import Derived.DeepKeys4
import Derived.RangeFuncWrites
import Derived.RangeFuncNested
import Derived.Great.BuildSlice
import Derived.Deep.RegionLaw
/- The imports of this seat's own texts. No condition. -/
/- Identities ([32]byte) as values, and their equality at the operation. No condition. -/
namespace Go.Proofs.Ytbhibodgbgndbaa.B
open Go Go.RowKit Go.Proofs
set_option linter.unusedVariables false
set_option linter.unusedSimpArgs false

/-- The cells of an identity whose bytes are these numbers. -/
def idC (x : List Int) : Array Value := (x.map (Value.int .u8)).toArray
def idV (x : List Int) : Value := .agg (idC x)
theorem idC_size (x : List Int) : (idC x).size = x.length := by simp [idC]
theorem info5 : (Try.prog.info? 5).map (·.size) = some 1 := by kernel_rfl
theorem cells5 : Try.prog.cellsOf 5 = 1 := by kernel_rfl
theorem run_part (w : World) (x : List Int) (i : Nat) (h : i < x.length) : (part 5 (idC x) (i * 1)).run Try.prog w = .ok (.int .u8 x[i]) w := by
  obtain ⟨i0, hi, hz⟩ := Option.map_eq_some_iff.1 info5
  simp [part, sizeOf, typeInfo, hi, hz, idC, h]
theorem run_eq5 (w : World) (d : Nat) (a b : Int) : (Op.equalIn (d + 1) 5 (.int .u8 a) (.int .u8 b)).run Try.prog w = .ok (a == b) w := by
  simp [Op.equalIn, run_underlying Try.underlying5]
theorem run_items (w : World) (d : Nat) (x y : List Int) (hx : x.length = 32) (hy : y.length = 32) : ∀ is : List Nat, (∀ i ∈ is, i < 32) →
    (Op.eqItems (d + 1) 5 1 (idC x) (idC y) is).run Try.prog w = .ok (is.all fun i => x[i]? == y[i]?) w
  | [], _ => by simp [Op.eqItems]
  | i :: is, h => by
    have hi := h i (by simp)
    have ih := run_items w d x y hx hy is (fun j hj => h j (by simp [hj]))
    simp only [Op.eqItems, Sem.run_bind, run_part w x i (by omega), run_part w y i (by omega), Result.andThen_ok, run_eq5]
    have e : (x[i]? == y[i]?) = (x[i]'(by omega) == y[i]'(by omega)) := by
      rw [List.getElem?_eq_getElem (by omega), List.getElem?_eq_getElem (by omega)]; simp
    cases hr : (x[i]'(by omega) == y[i]'(by omega)) with
    | false => simp [e, hr]
    | true => simp [e, hr, ih]
theorem all_eq (x y : List Int) (hx : x.length = 32) (hy : y.length = 32) : ((List.range 32).all fun i => x[i]? == y[i]?) = decide (x = y) := by
  rw [Bool.eq_iff_iff]
  simp only [List.all_eq_true, List.mem_range, beq_iff_eq, decide_eq_true_eq]
  constructor
  · intro h
    apply List.ext_getElem?
    intro i
    by_cases hi : i < 32
    · exact h i hi
    · rw [List.getElem?_eq_none (by omega), List.getElem?_eq_none (by omega)]
  · rintro rfl i _; rfl
theorem run_eqId (d : Nat) (w : World) (x y : List Int) (hx : x.length = 32) (hy : y.length = 32) : (Op.equalIn (d + 2) 30 (idV x) (idV y)).run Try.prog w = .ok (decide (x = y)) w := by
  obtain ⟨i0, hi, hz⟩ := Option.map_eq_some_iff.1 info5
  rw [idV, idV, run_equalIn_array w (d + 1) _ _ Try.underlying30 hi, cells5, run_items w d x y hx hy _ (fun i h => List.mem_range.1 h), all_eq x y hx hy]
theorem run_eql_id (w : World) (x y : List Int) (hx : x.length = 32) (hy : y.length = 32) : (binOp .eql 30 (idV x) (idV y)).run Try.prog w = .ok (.bool (decide (x = y))) w := by
  have h : (Op.equalIn 10000 30 (idV x) (idV y)).run Try.prog w = .ok (decide (x = y)) w := run_eqId 9998 w x y hx hy
  rw [idV, idV] at h ⊢
  rw [run_eql_struct, h]; rfl
#print axioms run_eql_id
end Go.Proofs.Ytbhibodgbgndbaa.B
/- The closure that compares an entry's identity. No condition. -/
namespace Go.Proofs.Ytbhibodgbgndbaa.B
open Go Go.RowKit Go.Proofs Go.Proofs.YtbhibodgbgndbaaW.PrintWords Go.Proofs.YtbhibodgbgndbaaW.PrintLast Go.Proofs.YtbhibodgbgndbaaW.PrintMore
set_option linter.unusedVariables false
set_option linter.unusedSimpArgs false

/-- The cells of an entry. -/
def entL (x : List Int) (due tries : Int) : List Value := x.map (Value.int .u8) ++ [.int .i64 due, .int .i64 tries]
def entV (x : List Int) (due tries : Int) : Value := .agg (entL x due tries).toArray
theorem entL_len (x : List Int) (hx : x.length = 32) (d t : Int) : (entL x d t).length = 34 := by simp [entL, hx]
theorem info30 : (Try.prog.info? 30).map (·.size) = some 32 := by kernel_rfl

theorem ent_range (w : World) (x : List Int) (due tries : Int) : (w.alloc (.cells (entL x due tries).toArray 59)).rangeAt w.heap.size 0 (x.map (Value.int .u8)) := fun j v hv => by
  rw [Nat.zero_add, cell_of_row _ _ _ _ 59 (0, 0) (heap_alloc_new w _)]
  have hj : j < (x.map (Value.int .u8)).length := (List.getElem?_eq_some_iff.1 hv).1
  simp only [List.getElem?_toArray, entL]
  rw [List.getElem?_append_left hj]; exact hv

set_option maxHeartbeats 4000000 in
set_option maxRecDepth 100000 in
theorem same_is (x y : List Int) (hx : x.length = 32) (hy : y.length = 32) (due tries : Int) (bk : Nat) (w : World) (hb : w.rangeAt bk 0 (y.map (Value.int .u8))) :
    Calls Try.prog 64 #[entV x due tries, .pointer (some ⟨bk, 0, none⟩)] w fun e w' => e = .returned (.bool (decide (x = y))) ∧ Below w.heap.size w w' := by
  have HX := Aside0.mk hx
  have HY := Aside0.mk hy
  have HB := Aside0.mk hb
  have heq : ∀ W : World, (Op.equalIn 10000 30 (.agg (x.map (Value.int .u8)).toArray) (.agg (y.map (Value.int .u8)).toArray)).run Try.prog W = .ok (decide (x = y)) W := fun W => run_eqId 9998 W x y hx hy
  clear hx hy hb
  unfold entV
  go_enter Try.func64, Try.ntmps64
  go_wp2_with (first | (refine wpList_load_mid rfl 30 (.tmp 4) rfl w.heap.size 0 rfl (x.map (Value.int .u8)) _ (ent_range w x due tries) Try.underlying30 rfl (by rw [List.length_map, HX.out]; exact info30) ?_) | (refine wpList_load_mid rfl 30 (.tmp 1) rfl bk 0 rfl (y.map (Value.int .u8)) _ (World.rangeAt_alloc HB.out _) Try.underlying30 rfl (by rw [List.length_map, HY.out]; exact info30) ?_))
  go_ret
  exact ⟨by first | rfl | simp, below_alloc (Below.refl _ _) _⟩
end Go.Proofs.Ytbhibodgbgndbaa.B
/- slices.IndexFunc over entries with the closure that compares identities. Condition: at most 1000000 entries. -/
namespace Go.Proofs.Ytbhibodgbgndbaa.B
open Go Go.RowKit Go.Proofs Go.Proofs.YtbhibodgbgndbaaW.PrintWords Go.Proofs.YtbhibodgbgndbaaW.PrintLast Go.Proofs.YtbhibodgbgndbaaW.PrintMore
set_option linter.unusedVariables false
set_option linter.unusedSimpArgs false

/-- An entry: its identity's bytes, the minute, the tries. -/
abbrev Ent := List Int × Int × Int
/-- The entries lie in a block. -/
def EntsAt (w : World) (gb : Nat) (es : List Ent) : Prop := ∀ i e, es[i]? = some e → w.rangeAt gb (i * 34) (entL e.1 e.2.1 e.2.2)
def idxGo (y : List Int) : List Ent → Nat → Int
  | [], _ => -1
  | e :: es, i => if e.1 = y then (i : Int) else idxGo y es (i + 1)
def idxOf (es : List Ent) (y : List Int) : Int := idxGo y es 0
theorem drop_at {es : List Ent} {i : Nat} {e : Ent} (h : es[i]? = some e) : es.drop i = e :: es.drop (i + 1) := by
  obtain ⟨hi, rfl⟩ := List.getElem?_eq_some_iff.1 h
  exact List.drop_eq_getElem_cons hi
theorem info59 : (Try.prog.info? 59).map (·.size) = some 34 := by kernel_rfl

set_option maxHeartbeats 4000000 in
set_option maxRecDepth 100000 in
theorem index_is (es : List Ent) (hes : ∀ e ∈ es, e.1.length = 32) (y : List Int) (hy : y.length = 32) (A : Option Addr) (gb cap bk : Nat) (hA : 0 < es.length → A = some ⟨gb, 0, none⟩) (hn : es.length ≤ 1000000) (w : World) (hr : EntsAt w gb es)
    (hb : w.rangeAt bk 0 (y.map (Value.int .u8))) :
    Calls Try.prog 63 #[.slice A es.length cap, .func (.func 64) #[] #[.pointer (some ⟨bk, 0, none⟩)]] w fun e w' => e = .returned (.int .i64 (idxOf es y)) ∧ Below w.heap.size w w' := by
  have HE := Aside0.mk hes
  have HY := Aside0.mk hy
  have HR := Aside0.mk hr
  have HB := Aside0.mk hb
  clear hes hy hr hb
  go_enter Try.func63, Try.ntmps63
  go_wp2
  go_loopw [8] (fun p8 wr => ∃ i : Nat, p8 = .int .i64 i ∧ Aside0 (i ≤ es.length ∧ idxOf es y = idxGo y (es.drop i) i) ∧ Aside0 (Below w.heap.size w wr))
    (fun p8 _ => es.length - (intOf p8).toNat)
  case atStart => exact ⟨0, rfl, ⟨Nat.zero_le _, rfl⟩, ⟨Below.refl _ _⟩⟩
  case round =>
    obtain ⟨i, rfl, HI, HW⟩ := hrel
    by_cases hi : i < es.length
    · obtain ⟨e, he⟩ : ∃ e, es[i]? = some e := ⟨_, List.getElem?_eq_getElem hi⟩
      have hA2 := hA (by omega)
      subst hA2
      have hlen := HE.out e (List.mem_of_getElem? he)
      have hrw := HR.out i e he
      have hr2 : wr.rangeAt gb (i * 34) (entL e.1 e.2.1 e.2.2) := fun j v hv => by
        have := hrw j v hv
        exact (HW.out.cell (World.block_lt_of_cell? _ _ this)).trans this
      have hb2 : wr.rangeAt bk 0 (y.map (Value.int .u8)) := fun j v hv => by
        have := HB.out j v hv
        exact (HW.out.cell (World.block_lt_of_cell? _ _ this)).trans this
      have HR2 := Aside0.mk hr2
      have HB2 := Aside0.mk hb2
      have HL := Aside0.mk hlen
      have HEI := Aside0.mk he
      clear hrw hr2 hb2 hlen he
      by_cases hq : e.1 = y
      · have hd : decide (e.1 = y) = true := decide_eq_true hq
        have HQ := Aside0.mk hq
        clear hq
        go_wp2_with (first | (go_at_call 64; refine (same_is e.1 y HL.out HY.out e.2.1 e.2.2 bk _ HB2.out).mono ?_; rintro e_ w2 ⟨rfl, hb2⟩) | (refine wpList_load_mid rfl 59 (.tmp 14) rfl gb (i * 34) rfl (entL e.1 e.2.1 e.2.2) _ HR2.out Try.underlying59 rfl (by rw [entL_len _ HL.out]; exact info59) ?_))
        refine bodyPost_ret (results_tmp rfl _ _ _) rfl ⟨?_, HW.out.trans (hb2.mono HW.out.size)⟩
        have h1 := HI.out.2
        rw [drop_at HEI.out, idxGo, if_pos HQ.out] at h1
        rw [h1]; rfl
      · have hd : decide (e.1 = y) = false := decide_eq_false hq
        have HQ := Aside0.mk hq
        clear hq
        go_wp2_with (first | (go_at_call 64; refine (same_is e.1 y HL.out HY.out e.2.1 e.2.2 bk _ HB2.out).mono ?_; rintro e_ w2 ⟨rfl, hb2⟩) | (refine wpList_load_mid rfl 59 (.tmp 14) rfl gb (i * 34) rfl (entL e.1 e.2.1 e.2.2) _ HR2.out Try.underlying59 rfl (by rw [entL_len _ HL.out]; exact info59) ?_))
        go_roundw
        case rel =>
          refine ⟨i + 1, by go_num, ⟨by omega, ?_⟩, ⟨HW.out.trans (hb2.mono HW.out.size)⟩⟩
          have h1 := HI.out.2
          rw [drop_at HEI.out, idxGo, if_neg HQ.out] at h1
          exact h1
        case measure => simp [intOf]; omega
    · have hle := HI.out.1
      go_wp2
      refine bodyPost_ret (results_tmp rfl _ _ _) rfl ⟨?_, HW.out⟩
      have h1 := HI.out.2
      rw [List.drop_eq_nil_of_le (by omega)] at h1
      rw [h1]; rfl
end Go.Proofs.Ytbhibodgbgndbaa.B
/- A backlog in memory; index and Has. Condition: at most 1000000 entries. -/
namespace Go.Proofs.Ytbhibodgbgndbaa.B
open Go Go.RowKit Go.Proofs Go.Proofs.YtbhibodgbgndbaaW.PrintWords Go.Proofs.YtbhibodgbgndbaaW.PrintLast Go.Proofs.YtbhibodgbgndbaaW.PrintMore
set_option linter.unusedVariables false
set_option linter.unusedSimpArgs false

/-- The cells of entries. -/
def entsL (es : List Ent) : List Value := es.flatMap fun e => entL e.1 e.2.1 e.2.2
theorem id_range (w : World) (y : List Int) : (w.alloc (.cells (idC y) 30)).rangeAt w.heap.size 0 (y.map (Value.int .u8)) := fun j v hv => by
  rw [Nat.zero_add, cell_of_row _ _ _ _ 30 (0, 0) (heap_alloc_new w _)]
  simpa [idC] using hv
/-- A backlog's block: its five fields. -/
def BAt (W : World) (g : Nat) (cap wait : Int) (missed : Bool) (v : Value) (mb : Nat) : Prop :=
  W.heap[g]? = some (.cells #[.int .i64 cap, .int .i64 wait, .bool missed, v, .map (some mb)] 80 (0, 0))
theorem entsL_at (es : List Ent) (hes : ∀ e ∈ es, e.1.length = 32) (i : Nat) (e : Ent) (he : es[i]? = some e) (j : Nat) (v : Value) (hv : (entL e.1 e.2.1 e.2.2)[j]? = some v) : (entsL es)[i * 34 + j]? = some v := by
  induction es generalizing i with
  | nil => simp at he
  | cons x es ih =>
    have hx : (entL x.1 x.2.1 x.2.2).length = 34 := entL_len _ (hes x (by simp)) _ _
    show (entL x.1 x.2.1 x.2.2 ++ entsL es)[i * 34 + j]? = some v
    cases i with
    | zero =>
      simp at he
      subst he
      have hj := (List.getElem?_eq_some_iff.1 hv).1
      rw [List.getElem?_append_left (by omega), Nat.zero_mul, Nat.zero_add]; exact hv
    | succ i =>
      rw [List.getElem?_append_right (by omega), show (i + 1) * 34 + j - (entL x.1 x.2.1 x.2.2).length = i * 34 + j by omega]
      exact ih (fun e h => hes e (by simp [h])) i (by simpa using he)
theorem ents_of_own {W : World} {base : Nat} {v : Value} {es : List Ent} (hes : ∀ e ∈ es, e.1.length = 32) (h : W.ownsRow base 59 34 v es.length (entsL es)) :
    ∃ (A : Option Addr) (gb cap : Nat), v = .slice A es.length cap ∧ (0 < es.length → A = some ⟨gb, 0, none⟩) ∧ EntsAt W gb es := by
  rcases h.2 with ⟨rfl, h0⟩ | ⟨gb, cap, cur, rfl, _⟩
  · have : es = [] := List.eq_nil_of_length_eq_zero h0
    subst this
    exact ⟨none, 0, 0, rfl, fun h => by simp at h, fun i e he => by simp at he⟩
  · refine ⟨_, gb, cap, rfl, fun _ => rfl, fun i e he j u hu => ?_⟩
    have := h.cells (g := gb) rfl (i * 34 + j) u (entsL_at es hes i e he j u hu)
    have e2 : (⟨gb, 0, none⟩ : Addr).add (i * 34 + j) = ⟨gb, i * 34 + j, none⟩ := by unfold Addr.add; split <;> simp_all
    rwa [e2] at this

set_option maxHeartbeats 4000000 in
set_option maxRecDepth 100000 in
theorem idx_is (g : Nat) (cap wait : Int) (missed : Bool) (v : Value) (mb base : Nat) (es : List Ent) (hes : ∀ e ∈ es, e.1.length = 32) (hn : es.length ≤ 1000000) (y : List Int) (hy : y.length = 32) (w : World)
    (hB : BAt w g cap wait missed v mb) (ho : w.ownsRow base 59 34 v es.length (entsL es)) :
    Calls Try.prog 42 #[.pointer (some ⟨g, 0, none⟩), idV y] w fun e w' => e = .returned (.int .i64 (idxOf es y)) ∧ Below w.heap.size w w' := by
  obtain ⟨A, gb, cap', rfl, hA, hE⟩ := ents_of_own hes ho
  have hu80 := Try.underlying80
  have hlt : g < w.heap.size := (Array.getElem?_eq_some_iff.1 hB).1
  have hc3 : w.cell? ⟨g, 3, none⟩ = some (.slice A es.length cap') := (blk_cell hB 3).trans rfl
  have HE := Aside0.mk hE
  have HES := Aside0.mk hes
  have HY := Aside0.mk hy
  have HA := Aside0.mk hA
  clear hE hes hy hA ho hB
  unfold idV
  go_enter Try.func42, Try.ntmps42
  go_wp2_with (first | (go_at_call 63; refine (index_is es HES.out y HY.out A gb cap' w.heap.size HA.out hn _ (fun i e h => World.rangeAt_alloc (HE.out i e h) _) (id_range w y)).mono ?_; rintro e_ w1 ⟨rfl, hb1⟩))
  go_ret
  exact ⟨rfl, (below_alloc (Below.refl _ _) _).trans (hb1.mono (by simp))⟩
/-- Is there an entry? -/
def hasE (es : List Ent) (y : List Int) : Bool := decide (idxOf es y ≥ 0)
set_option maxHeartbeats 4000000 in
set_option maxRecDepth 100000 in
theorem has_is (g : Nat) (cap wait : Int) (missed : Bool) (v : Value) (mb base : Nat) (es : List Ent) (hes : ∀ e ∈ es, e.1.length = 32) (hn : es.length ≤ 1000000) (y : List Int) (hy : y.length = 32) (w : World)
    (hB : BAt w g cap wait missed v mb) (ho : w.ownsRow base 59 34 v es.length (entsL es)) :
    Calls Try.prog 16 #[.pointer (some ⟨g, 0, none⟩), idV y] w fun e w' => e = .returned (.bool (hasE es y)) ∧ Below w.heap.size w w' := by
  have HC := Aside0.mk (And.intro hes (And.intro hy (And.intro hB ho)))
  have hlt : g < w.heap.size := (Array.getElem?_eq_some_iff.1 hB).1
  clear hes hy hB ho
  unfold idV
  go_enter Try.func16, Try.ntmps16
  go_wp2_with (first | (go_at_call 42; refine (idx_is g cap wait missed v mb base es HC.out.1 hn y HC.out.2.1 _ (by have := Below.heap_alloc w (.cells (idC y) 30) g hlt; exact this.trans HC.out.2.2.1) (HC.out.2.2.2.alloc _)).mono ?_; rintro e_ w1 ⟨rfl, hb1⟩) | (refine gate_guard (by rfl) ?_; refine wpList_load_mid rfl 30 (.tmp 3) rfl w.heap.size 0 rfl (y.map (Value.int .u8)) _ (id_range w y) Try.underlying30 rfl (by rw [List.length_map, HC.out.2.1]; exact info30) ?_))
  go_ret
  exact ⟨rfl, (below_alloc (Below.refl _ _) _).trans (hb1.mono (by simp))⟩
end Go.Proofs.Ytbhibodgbgndbaa.B
/- minute, Len, Missed, New of a backlog. Condition: at most 1000000 entries. -/
namespace Go.Proofs.Ytbhibodgbgndbaa.B
open Go Go.RowKit Go.Proofs Go.Proofs.YtbhibodgbgndbaaW.PrintWords Go.Proofs.YtbhibodgbgndbaaW.PrintLast Go.Proofs.YtbhibodgbgndbaaW.PrintMore
set_option linter.unusedVariables false
set_option linter.unusedSimpArgs false

def minB (n : Int) : Bool := decide (0 ≤ n) && decide (n ≤ 105190559)
theorem minute_is (n : Int) (w : World) : Calls Try.prog 41 #[.int .i64 n] w fun e w' => e = .returned (.bool (minB n)) ∧ w' = w := by
  by_cases h : 0 ≤ n
  · have hd : decide (0 ≤ n) = true := decide_eq_true h
    go_enter Try.func41, Try.ntmps41
    go_wp2
    go_ret
    exact ⟨by simp [minB, h], rfl⟩
  · have hd : decide (0 ≤ n) = false := decide_eq_false h
    go_enter Try.func41, Try.ntmps41
    go_wp2
    go_ret
    exact ⟨by simp [minB, hd], rfl⟩
theorem len_is (g : Nat) (cap wait : Int) (missed : Bool) (v : Value) (mb base : Nat) (es : List Ent) (hes : ∀ e ∈ es, e.1.length = 32) (w : World)
    (hB : BAt w g cap wait missed v mb) (ho : w.ownsRow base 59 34 v es.length (entsL es)) :
    Calls Try.prog 14 #[.pointer (some ⟨g, 0, none⟩)] w fun e w' => e = .returned (.int .i64 (es.length : Int)) ∧ w' = w := by
  obtain ⟨A, gb, cap', rfl, hA, hE⟩ := ents_of_own hes ho
  have hu80 := Try.underlying80
  have hc3 : w.cell? ⟨g, 3, none⟩ = some (.slice A es.length cap') := (blk_cell hB 3).trans rfl
  clear hE hes hA ho hB
  go_enter Try.func14, Try.ntmps14
  go_wp2
  go_ret
  exact ⟨rfl, rfl⟩
theorem missed_is (g : Nat) (cap wait : Int) (missed : Bool) (v : Value) (mb : Nat) (w : World) (hB : BAt w g cap wait missed v mb) :
    Calls Try.prog 15 #[.pointer (some ⟨g, 0, none⟩)] w fun e w' => e = .returned (.bool missed) ∧ w' = w := by
  have hu80 := Try.underlying80
  have hc2 : w.cell? ⟨g, 2, none⟩ = some (.bool missed) := (blk_cell hB 2).trans rfl
  clear hB
  go_enter Try.func15, Try.ntmps15
  go_wp2
  go_ret
  exact ⟨rfl, rfl⟩
set_option maxHeartbeats 4000000 in
set_option maxRecDepth 100000 in
theorem new_is (cap wait : Int) (h1 : 1 ≤ cap) (h2 : cap ≤ 4096) (h3 : 0 ≤ wait) (h4 : wait ≤ 100000) (w : World) :
    Calls Try.prog 12 #[.int .i64 cap, .int .i64 wait] w fun e w' => e = .returned (.tuple #[.pointer (some ⟨w.heap.size + 1, 0, none⟩), .int .i64 0]) ∧
      w' = (w.alloc (.map #[] 0)).alloc (.cells #[.int .i64 cap, .int .i64 wait, .bool false, .slice none 0 0, .map (some w.heap.size)] 80) := by
  have hu80 := Try.underlying80
  have d1 : decide (cap < 1) = false := decide_eq_false (by omega)
  have d2 : decide (cap > 4096) = false := decide_eq_false (by omega)
  have d3 : decide (wait < 0) = false := decide_eq_false (by omega)
  have d4 : decide (wait > 100000) = false := decide_eq_false (by omega)
  have km := fun W : World => run_makeMap (P := Try.prog) 78 W
  go_enter Try.func12, Try.ntmps12
  go_wp2
  go_ret2
  exact ⟨by first | rfl | simp, by first | rfl | simp⟩
end Go.Proofs.Ytbhibodgbgndbaa.B
/- Identities as keys of a map. No condition. -/
namespace Go.Proofs.Ytbhibodgbgndbaa.B
open Go Go.RowKit Go.Proofs Go.Proofs.YtbhibodgbgndbaaW.PrintWords Go.Proofs.YtbhibodgbgndbaaW.PrintLast Go.Proofs.YtbhibodgbgndbaaW.PrintMore
set_option linter.unusedVariables false
set_option linter.unusedSimpArgs false

theorem laid : laidOutB Try.prog = true := by kernel_rfl
theorem keyed30 : Go.Maps.Keyed Try.prog 30 :=
  Go.Maps.Keyed.of_law (deep_law_laid laid (m := 2) (by omega) (of_decide_eq_true (by kernel_rfl)) (by kernel_rfl) (by rw [Try.underlying30]))
theorem mapM_some {α β : Type} (f : α → Option β) (g : α → β) : ∀ l : List α, (∀ i ∈ l, f i = some (g i)) → l.mapM f = some (l.map g)
  | [], _ => rfl
  | a :: l, h => by
    rw [List.mapM_cons, h a (by simp), mapM_some f g l (fun i hi => h i (by simp [hi]))]
    rfl
theorem cells30 : Try.prog.cellsOf 30 = 32 := by kernel_rfl
theorem key_of (x : List Int) (hx : x.length = 32) (hw : ∀ z ∈ x, (Lit.int .u8 z).wf = true) : ∃ l, keyOf Try.prog 30 (idV x) = some l := by
  have hk : Try.prog.keyType 30 = true := by kernel_rfl
  have hf : (idV x).formed Try.prog 30 = true := by simp [idV, Value.formed, Try.underlying30, cells30, idC, hx]
  obtain ⟨d, hd⟩ : ∃ d, Try.prog.types.size + 1 = d + 2 := ⟨Try.prog.types.size - 1, by have : 1 ≤ Try.prog.types.size := of_decide_eq_true (by kernel_rfl); omega⟩
  have hl : Try.prog.keyLits (d + 2) 30 (x.map (Value.int .u8)) = some ((List.range 32).map (fun i => [Lit.int .u8 (x.getD i 0)])).flatten := by
    unfold Program.keyLits
    rw [Try.underlying30]
    dsimp only
    rw [if_pos (by rw [cells30]; simp [hx]), mapM_some _ (fun i => [Lit.int .u8 (x.getD i 0)])]
    · rfl
    · intro i hi
      have hi32 : i < x.length := by have := List.mem_range.1 hi; omega
      rw [cells5, Nat.mul_one]
      have e : ((x.map (Value.int .u8)).drop i).take 1 = [.int .u8 x[i]] := by
        rw [List.drop_eq_getElem_cons (by simpa using hi32)]; simp
      rw [e]
      unfold Program.keyLits
      rw [Try.underlying5]
      dsimp only
      rw [if_pos ⟨rfl, hw _ (List.getElem_mem hi32)⟩]
      simp [List.getD_eq_getElem?_getD, hi32]
  refine ⟨.string (keyBytes ((List.range 32).map (fun i => [Lit.int .u8 (x.getD i 0)])).flatten), ?_⟩
  unfold keyOf
  rw [Try.underlying30]
  dsimp only
  rw [hk, hf]
  simp only [Bool.and_self, if_true]
  rw [hd, show (idV x).cells.toList = x.map (Value.int .u8) by simp [idV, idC, Value.cells], hl]
  rfl
/-- The literal that an identity reads as. -/
theorem key_inj (x y : List Int) (hx : x.length = 32) (hy : y.length = 32) (l m : Lit) (hl : keyOf Try.prog 30 (idV x) = some l) (hm : keyOf Try.prog 30 (idV y) = some m) (w : World) : l = m ↔ x = y := by
  obtain ⟨r, hr, hiff⟩ := run_equal_deep (P := Try.prog) w (m := 2) (by omega) (k := 30) (by kernel_rfl) (by rw [Try.underlying30]) hl hm
  have h := run_eqId 9998 w x y hx hy
  have h2 : (Op.equal 30 (idV x) (idV y)).run Try.prog w = .ok (decide (x = y)) w := h
  rw [h2] at hr
  cases hr
  rw [← hiff]; simp
end Go.Proofs.Ytbhibodgbgndbaa.B
/- Add to a backlog. Condition: at most 1000000 entries. -/
namespace Go.Proofs.Ytbhibodgbgndbaa.B
open Go Go.RowKit Go.Proofs Go.Proofs.YtbhibodgbgndbaaW.PrintWords Go.Proofs.YtbhibodgbgndbaaW.PrintLast Go.Proofs.YtbhibodgbgndbaaW.PrintMore
set_option linter.unusedVariables false
set_option linter.unusedSimpArgs false

def zeroId : List Int := List.replicate 32 0
theorem eq_zero (x : List Int) (hx : x.length = 32) (W : World) :
    (Op.equalIn 10000 30 (.agg (x.map (Value.int .u8)).toArray) (.agg #[.int .u8 0, .int .u8 0, .int .u8 0, .int .u8 0, .int .u8 0, .int .u8 0, .int .u8 0, .int .u8 0, .int .u8 0, .int .u8 0, .int .u8 0, .int .u8 0, .int .u8 0, .int .u8 0, .int .u8 0, .int .u8 0, .int .u8 0, .int .u8 0, .int .u8 0, .int .u8 0, .int .u8 0, .int .u8 0, .int .u8 0, .int .u8 0, .int .u8 0, .int .u8 0, .int .u8 0, .int .u8 0, .int .u8 0, .int .u8 0, .int .u8 0, .int .u8 0])).run Try.prog W = .ok (decide (x = zeroId)) W := run_eqId 9998 W x zeroId hx (by simp [zeroId])
set_option maxHeartbeats 4000000 in
set_option maxRecDepth 100000 in
/-- The identity of zeros is refused. -/
theorem add_zero (g : Nat) (due : Int) (w : World) :
    Calls Try.prog 13 #[.pointer (some ⟨g, 0, none⟩), idV zeroId, .int .i64 due] w fun e w' => e = .returned (.int .i64 1) ∧ Below w.heap.size w w' := by
  have heq := eq_zero zeroId (by simp [zeroId])
  simp only [decide_true] at heq
  unfold idV
  go_enter Try.func13, Try.ntmps13
  go_wp2_with (first | (refine wpList_load_mid rfl 30 (.tmp 4) rfl w.heap.size 0 rfl (zeroId.map (Value.int .u8)) _ (id_range w zeroId) Try.underlying30 rfl (by simpa [zeroId] using info30) ?_))
  go_ret
  exact ⟨rfl, below_alloc (Below.refl _ _) _⟩
set_option maxHeartbeats 4000000 in
set_option maxRecDepth 100000 in
/-- What is no minute is refused. -/
theorem add_range (g : Nat) (x : List Int) (hx : x.length = 32) (hz : x ≠ zeroId) (due : Int) (hd : minB due = false) (w : World) :
    Calls Try.prog 13 #[.pointer (some ⟨g, 0, none⟩), idV x, .int .i64 due] w fun e w' => e = .returned (.int .i64 2) ∧ Below w.heap.size w w' := by
  have heq := eq_zero x hx
  rw [decide_eq_false hz] at heq
  have HX := Aside0.mk hx
  have HD := Aside0.mk hd
  clear hx hz hd
  unfold idV
  go_enter Try.func13, Try.ntmps13
  go_wp2_with (first | (go_at_call 41; refine (minute_is due _).mono ?_; rintro e_ w1 ⟨rfl, rfl⟩; rw [HD.out]) | (refine wpList_load_mid rfl 30 (.tmp 4) rfl w.heap.size 0 rfl (x.map (Value.int .u8)) _ (id_range w x) Try.underlying30 rfl (by rw [List.length_map, HX.out]; exact info30) ?_))
  go_ret
  exact ⟨rfl, below_alloc (Below.refl _ _) _⟩
set_option maxHeartbeats 4000000 in
set_option maxRecDepth 100000 in
/-- What is there already is refused. -/
theorem add_dup (g : Nat) (cap wait : Int) (missed : Bool) (v : Value) (mb base : Nat) (es : List Ent) (hes : ∀ e ∈ es, e.1.length = 32) (hn : es.length ≤ 1000000) (x : List Int) (hx : x.length = 32) (hz : x ≠ zeroId) (due : Int) (hd : minB due = true) (hh : hasE es x = true) (w : World)
    (hB : BAt w g cap wait missed v mb) (ho : w.ownsRow base 59 34 v es.length (entsL es)) :
    Calls Try.prog 13 #[.pointer (some ⟨g, 0, none⟩), idV x, .int .i64 due] w fun e w' => e = .returned (.int .i64 7) ∧ Below w.heap.size w w' := by
  have heq := eq_zero x hx
  rw [decide_eq_false hz] at heq
  have hlt : g < w.heap.size := (Array.getElem?_eq_some_iff.1 hB).1
  have HX := Aside0.mk hx
  have HD := Aside0.mk hd
  have HH := Aside0.mk hh
  have HC := Aside0.mk (And.intro hes (And.intro hB ho))
  clear hx hz hd hh hes hB ho
  unfold idV
  go_enter Try.func13, Try.ntmps13
  go_wp2_with (first | (go_at_call 41; refine (minute_is due _).mono ?_; rintro e_ w1 ⟨rfl, rfl⟩; rw [HD.out]) | (go_at_call 16; refine (has_is g cap wait missed v mb base es HC.out.1 hn x HX.out _ ((Below.heap_alloc w (.cells (idC x) 30) g hlt).trans HC.out.2.1) (HC.out.2.2.alloc _)).mono ?_; rintro e_ w2 ⟨rfl, hb2⟩; rw [HH.out]) | (refine wpList_load_mid rfl 30 (.tmp 4) rfl w.heap.size 0 rfl (x.map (Value.int .u8)) _ (id_range w x) Try.underlying30 rfl (by rw [List.length_map, HX.out]; exact info30) ?_))
  go_ret
  exact ⟨rfl, (below_alloc (Below.refl _ _) _).trans (hb2.mono (by simp))⟩
theorem bAt_cells {W : World} {g : Nat} {cap wait : Int} {missed : Bool} {v : Value} {mb : Nat} (h : BAt W g cap wait missed v mb) :
    W.cell? ⟨g, 0, none⟩ = some (.int .i64 cap) ∧ W.cell? ⟨g, 1, none⟩ = some (.int .i64 wait) ∧ W.cell? ⟨g, 2, none⟩ = some (.bool missed) ∧ W.cell? ⟨g, 3, none⟩ = some v ∧ W.cell? ⟨g, 4, none⟩ = some (.map (some mb)) ∧ W.frozen? ⟨g, 2, none⟩ = false ∧ W.frozen? ⟨g, 3, none⟩ = false :=
  ⟨(blk_cell h 0).trans rfl, (blk_cell h 1).trans rfl, (blk_cell h 2).trans rfl, (blk_cell h 3).trans rfl, (blk_cell h 4).trans rfl, blk_frozen h 2, blk_frozen h 3⟩
set_option maxHeartbeats 4000000 in
set_option maxRecDepth 100000 in
/-- A full backlog notes that an article was missed. -/
theorem add_full (g : Nat) (cap wait : Int) (missed : Bool) (v : Value) (mb base : Nat) (es : List Ent) (hes : ∀ e ∈ es, e.1.length = 32) (hn : es.length ≤ 1000000) (x : List Int) (hx : x.length = 32) (hz : x ≠ zeroId) (due : Int) (hd : minB due = true) (hh : hasE es x = false) (hf : cap ≤ (es.length : Int)) (w : World)
    (hB : BAt w g cap wait missed v mb) (ho : w.ownsRow base 59 34 v es.length (entsL es)) :
    Calls Try.prog 13 #[.pointer (some ⟨g, 0, none⟩), idV x, .int .i64 due] w fun e w' => e = .returned (.int .i64 9) ∧ ∃ w2, Below w.heap.size w w2 ∧ w' = w2.setCell ⟨g, 2, none⟩ (.bool true) := by
  have heq := eq_zero x hx
  rw [decide_eq_false hz] at heq
  have hu80 := Try.underlying80
  have hlt : g < w.heap.size := (Array.getElem?_eq_some_iff.1 hB).1
  obtain ⟨A, gb, cap', rfl, _, _⟩ := ents_of_own hes ho
  have HX := Aside0.mk hx
  have HD := Aside0.mk hd
  have HH := Aside0.mk hh
  have HC := Aside0.mk (And.intro hes (And.intro hB ho))
  have hfd : decide ((es.length : Int) ≥ cap) = true := decide_eq_true hf
  clear hx hz hd hh hes hB ho
  unfold idV
  go_enter Try.func13, Try.ntmps13
  go_wp2_with (first | (go_at_call 41; refine (minute_is due _).mono ?_; rintro e_ w1 ⟨rfl, rfl⟩; rw [HD.out]) | (go_at_call 16; refine (has_is g cap wait missed _ mb base es HC.out.1 hn x HX.out _ ((Below.heap_alloc w (.cells (idC x) 30) g hlt).trans HC.out.2.1) (HC.out.2.2.alloc _)).mono ?_; rintro e_ w2 ⟨rfl, hb2⟩; rw [HH.out]; have HB2 := Aside0.mk ((below_alloc (Below.refl w.heap.size w) (.cells (idC x) 30)).trans (hb2.mono (by simp))); obtain ⟨hc0, hc1, hc2, hc3, hc4, hf2, hf3⟩ := bAt_cells ((HB2.out.block g hlt).trans HC.out.2.1); clear hb2) | (refine wpList_load_mid rfl 30 (.tmp 4) rfl w.heap.size 0 rfl (x.map (Value.int .u8)) _ (id_range w x) Try.underlying30 rfl (by rw [List.length_map, HX.out]; exact info30) ?_))
  go_quiet (fail)
  go_wp2
  refine bodyPost_ret (results_tmp rfl _ _ _) rfl ⟨rfl, w2.drewN nq, pw_below_drewN HB2.out _, rfl⟩
end Go.Proofs.Ytbhibodgbgndbaa.B
/- An entry built out of its parts, and a row of one entry. No condition. -/
namespace Go.Proofs.Ytbhibodgbgndbaa.B
open Go Go.RowKit Go.Proofs Go.Proofs.YtbhibodgbgndbaaW.PrintWords Go.Proofs.YtbhibodgbgndbaaW.PrintLast Go.Proofs.YtbhibodgbgndbaaW.PrintMore
set_option linter.unusedVariables false
set_option linter.unusedSimpArgs false

/-- A part goes in whole. -/
theorem fill_step (place : Nat → Option (Nat × Nat)) (pre mid post : List Value) (i : Nat) (v : Value) (rest : List (Nat × Value)) (hp : place i = some (pre.length, mid.length)) (hv : v.cells.size = mid.length) :
    Instr.fill place (pre ++ mid ++ post).toArray ((i, v) :: rest) = Instr.fill place (pre ++ v.cells.toList ++ post).toArray rest := by
  conv => lhs; unfold Instr.fill
  simp only [hp]
  rw [if_neg (by simp; omega)]
  congr 1
  rw [← Array.foldl_toList, Array.toList_zipIdx]
  obtain ⟨g1, g2⟩ := Go.Great.foldl_set pre.length v.cells.toList 0 (pre ++ mid ++ post).toArray
  apply Array.ext_getElem?
  intro k
  rw [g2 k]
  simp only [Nat.add_zero, Array.length_toList, hv, List.size_toArray, List.length_append, List.getElem?_toArray]
  by_cases h : pre.length ≤ k ∧ k < pre.length + mid.length ∧ k < pre.length + mid.length + post.length
  · rw [if_pos h, List.append_assoc, List.getElem?_append_right h.1, List.getElem?_append_left (by simp; omega)]
  · rw [if_neg h]
    by_cases h1 : k < pre.length
    · rw [List.append_assoc, List.append_assoc, List.getElem?_append_left h1, List.getElem?_append_left h1]
    · rw [List.getElem?_append_right (by simp; omega), List.getElem?_append_right (by simp; omega)]
      simp [hv]
def zeros34 : List Value := List.replicate 32 (.int .u8 0) ++ [.int .i64 0, .int .i64 0]
theorem zero59 : ((Try.prog.info? 59).bind (·.zero)).map (·.cells) = some zeros34.toArray := by kernel_rfl
theorem places59 : ∃ fs : Array Field, Try.prog.underlying 59 = some (.struct fs) ∧ fs.toList.mapM (fun f => (Try.prog.info? f.type).map fun i => (f.offset, i.size)) = some [(0, 32), (32, 1), (33, 1)] := ⟨_, Try.underlying59, by kernel_rfl⟩
theorem run_build59 (x : List Int) (hx : x.length = 32) (due : Int) (W : World) : (Instr.build 59 #[(0, .agg (x.map (Value.int .u8)).toArray), (1, .int .i64 due)]).run Try.prog W = .ok (.agg (entL x due 0).toArray) W := by
  refine run_build W 59 _ _ ?_
  obtain ⟨fs, hu, hm⟩ := places59
  obtain ⟨v, h1, h2⟩ := Option.map_eq_some_iff.1 zero59
  obtain ⟨it, h3, h4⟩ := Option.bind_eq_some_iff.1 h1
  unfold Program.built
  simp only [h3, hu, h4, hm, h2]
  have e1 : zeros34 = [] ++ List.replicate 32 (.int .u8 0) ++ [.int .i64 0, .int .i64 0] := rfl
  rw [e1, fill_step _ [] _ _ 0 _ _ (by simp) (by simp [Value.cells, hx])]
  have e2 : ([] ++ (Value.agg (x.map (Value.int .u8)).toArray).cells.toList ++ [Value.int .i64 0, Value.int .i64 0] : List Value) = (x.map (Value.int .u8)) ++ [Value.int .i64 0] ++ [Value.int .i64 0] := by simp [Value.cells]
  rw [e2, fill_step _ _ _ _ 1 _ _ (by simp [hx]) (by simp [Value.cells])]
  simp [Instr.fill, entL, Value.cells]
theorem run_buildRow (c : List Value) (hc : c.length = 34) (W : World) : (Instr.buildSlice 55 1 #[(0, .agg c.toArray)]).run Try.prog W = .ok (.slice (some ⟨W.heap.size, 0, none⟩) 1 1) (W.alloc (.cells c.toArray 59)) := by
  obtain ⟨v, h1, h2⟩ := Option.map_eq_some_iff.1 zero59
  obtain ⟨it, h3, h4⟩ := Option.bind_eq_some_iff.1 h1
  have hz : it.size = 34 := by have := info59; rw [h3] at this; simpa using this
  refine run_buildSlice W 55 59 1 _ _ it v Try.underlying55 h3 h4 (by rw [hz]; omega) (by rw [hz]; omega) ?_
  rw [hz]
  have e0 : ((Array.range (1 * 34)).map (v.cells[· % v.cells.size]!)) = ([] ++ zeros34 ++ []).toArray := by rw [h2]; kernel_rfl
  rw [e0]
  show Instr.fill (fun i => some (i * 34, 34)) _ [(0, .agg c.toArray)] = _
  rw [fill_step _ [] zeros34 [] 0 _ _ rfl (by simp [Value.cells, hc]; rfl)]
  simp [Instr.fill, Value.cells]
end Go.Proofs.Ytbhibodgbgndbaa.B
/- A map of identities (map[Id]bool, all true) as the list of its keys. No condition. -/
namespace Go.Proofs.Ytbhibodgbgndbaa.B
open Go Go.RowKit Go.Proofs Go.Maps Go.MapKept Go.ChangeMaps Go.WideShapes Go.Proofs.YtbhibodgbgndbaaW.PrintWords Go.Proofs.YtbhibodgbgndbaaW.PrintLast Go.Proofs.YtbhibodgbgndbaaW.PrintMore
set_option linter.unusedVariables false
set_option linter.unusedSimpArgs false

/-- An identity: 32 bytes. -/
def Idok (x : List Int) : Prop := x.length = 32 ∧ ∀ z ∈ x, (Lit.int .u8 z).wf = true
open Classical in
noncomputable def kl (x : List Int) : Lit := if h : ∃ l, keyOf Try.prog 30 (idV x) = some l then h.choose else .bool false
theorem kl_key {x : List Int} (h : Idok x) : keyOf Try.prog 30 (idV x) = some (kl x) := by
  have he := key_of x h.1 h.2
  unfold kl
  rw [dif_pos he]
  exact he.choose_spec
theorem kl_inj {x y : List Int} (hx : Idok x) (hy : Idok y) : kl x = kl y ↔ x = y := ⟨fun e => by
    have h1 := kl_key hx
    have h2 := kl_key hy
    rw [← e] at h2
    have h3 := keyed30.inj h1 h2
    have hi : Function.Injective (Value.int .u8) := fun a b h => by cases h; rfl
    have h4 : x.map (Value.int .u8) = y.map (Value.int .u8) := by
      have h5 : (idV x).cells.toList = (idV y).cells.toList := by rw [h3]
      exact h5
    exact (List.map_inj_right hi).1 h4, fun e => by rw [e]⟩
theorem kl_is {x : List Int} (hx : Idok x) : WideAt.IsKeyLit (kl x) := keyed30.key (kl_key hx)
theorem zero4 (w : World) : (zeroValue 4).run Try.prog w = .ok (.bool false) w := by
  have h : (Try.prog.info? 4).bind (·.zero) = some (.bool false) := by kernel_rfl
  obtain ⟨i, h1, h2⟩ := Option.bind_eq_some_iff.1 h
  simp [zeroValue, typeInfo, h1, h2]
noncomputable abbrev RB : Value → Option (DataW Unit × List MemPlace) := plainElem Try.prog 4
theorem rb (x : Bool) : RB (.bool x) = some (.lit (.bool x), []) := plainElem_bool Try.underlying4 x
theorem rb_inv {v : Value} {b : Bool} {ps : List MemPlace} (h : plainElem (H := Unit) Try.prog 4 v = some (.lit (.bool b), ps)) : v = .bool b := by
  have hu := Try.underlying4
  revert h hu
  generalize Try.prog = P
  intro h hu
  unfold plainElem at h
  rw [hu] at h
  cases v <;> simp at h
  rw [h.1]

/-- The map's block holds these identities, each with true. -/
structure OutAt (w : World) (gm : Nat) (o : List (List Int)) : Prop where
  nodup : o.Nodup
  idok : ∀ x ∈ o, Idok x
  own : ∃ D : DataW Unit, w.ownsMap Try.prog 30 RB gm o.length D ∧ Maps.size D = o.length ∧ (∀ x, Idok x → Maps.has D (kl x) = decide (x ∈ o)) ∧ ∀ x ∈ o, ∀ z, D.atKey (kl x) z = .lit (.bool true)
theorem tight {w : World} {gm n : Nat} {D : DataW Unit} (h : w.ownsMap Try.prog 30 RB gm n D) : w.ownsMap Try.prog 30 RB gm (Maps.size D) D := by
  obtain ⟨es, clock, hb, F, hs, rfl⟩ := h
  exact ⟨es, clock, hb, F, by simp [Maps.size, length_sorted], rfl⟩
theorem OutAt.kept {w w' : World} {gm : Nat} {o : List (List Int)} (h : OutAt w gm o) (hb : w'.heap[gm]? = w.heap[gm]?) : OutAt w' gm o := by
  obtain ⟨D, ⟨es, clock, h0, r⟩, h2⟩ := h.own
  exact ⟨h.nodup, h.idok, D, ⟨es, clock, hb.trans h0, r⟩, h2⟩
theorem OutAt.lt {w : World} {gm : Nat} {o : List (List Int)} (h : OutAt w gm o) : gm < w.heap.size := by
  obtain ⟨D, h1, _⟩ := h.own; exact h1.lt
theorem OutAt.made (w : World) : OutAt (w.alloc (.map #[] 0)) w.heap.size [] := ⟨List.nodup_nil, by simp, .map [], World.ownsMap_made _ _ _ _, rfl, fun x _ => by simp [Maps.has], by simp⟩
theorem OutAt.look {w : World} {gm : Nat} {o : List (List Int)} (h : OutAt w gm o) {x : List Int} (hx : Idok x) : (Instr.lookup 78 (.map (some gm)) (idV x) false).run Try.prog w = .ok (.bool (decide (x ∈ o))) w := by
  obtain ⟨D, h1, h2, h3, h4⟩ := h.own
  obtain ⟨v, ps, hr, hv⟩ := h1.lookup keyed30 Try.underlying78 (zero4 w) (rb false) (kl_key hx)
  rw [hr]
  by_cases hm : x ∈ o
  · rw [h4 x hm] at hv
    rw [rb_inv hv, decide_eq_true hm]
  · have := h3 x hx
    rw [decide_eq_false hm] at this
    have e : D.atKey (kl x) (.lit (.bool false)) = .lit (.bool false) := atKey_of_not_has this _
    rw [e] at hv
    rw [rb_inv hv, decide_eq_false hm]
theorem OutAt.len {w : World} {gm : Nat} {o : List (List Int)} (h : OutAt w gm o) (ty : TypeId) : (Builtin.len_ #[78] ty #[.map (some gm)]).run Try.prog w = .ok (.int .i64 (o.length : Int)) w := by
  obtain ⟨D, h1, h2, _⟩ := h.own
  rw [h1.len Try.underlying78, h2]
/-- The list behind 'm[x] = true'. -/
def putO (x : List Int) (o : List (List Int)) : List (List Int) := if x ∈ o then o else x :: o
theorem OutAt.put {w : World} {gm : Nat} {o : List (List Int)} (h : OutAt w gm o) (hn : o.length ≤ 1000000) {x : List Int} (hx : Idok x) :
    ∃ w', (Instr.mapUpdate 78 (.map (some gm)) (idV x) (.bool true)).run Try.prog w = .ok () w' ∧ OutAt w' gm (putO x o) ∧ w.grownBy w' (some gm) := by
  obtain ⟨D, h1, h2, h3, h4⟩ := h.own
  obtain ⟨w', hr, h5, h6⟩ := h1.update keyed30 Try.underlying78 (by simp [maxLen]; omega) (kl_key hx) (rb true)
  refine ⟨w', hr, ?_, h6⟩
  have hsz := Maps.size_put (h1.tidy keyed30) (k := kl x) (.lit (.bool true))
  have hD := h1.isMap
  unfold putO
  by_cases hm : x ∈ o
  · rw [if_pos hm]
    rw [h3 x hx, decide_eq_true hm, if_pos rfl] at hsz
    refine ⟨h.nodup, h.idok, D.put (kl x) (.lit (.bool true)), ?_, hsz.trans h2, fun y hy => ?_, fun y hy z => ?_⟩
    · have := tight h5
      rw [hsz, h2] at this; exact this
    · by_cases he : y = x
      · subst he; rw [has_put_same hD (kl_is hx), decide_eq_true hm]
      · rw [has_put_other (fun e => he ((kl_inj hy hx).1 e)), h3 y hy]
    · by_cases he : y = x
      · subst he; exact atKey_put_same hD (kl_is hx) _ _
      · rw [atKey_put_other (fun e => he ((kl_inj (h.idok y hy) hx).1 e))]; exact h4 y hy z
  · rw [if_neg hm]
    rw [h3 x hx, decide_eq_false hm] at hsz
    simp only [Bool.false_eq_true, if_false] at hsz
    refine ⟨List.nodup_cons.2 ⟨hm, h.nodup⟩, fun y hy => ?_, D.put (kl x) (.lit (.bool true)), ?_, ?_, fun y hy => ?_, fun y hy z => ?_⟩
    · rcases List.mem_cons.1 hy with rfl | hy
      · exact hx
      · exact h.idok y hy
    · have := tight h5
      rw [hsz, h2] at this; exact this
    · rw [hsz, h2]; rfl
    · by_cases he : y = x
      · subst he; rw [has_put_same hD (kl_is hx)]; simp
      · rw [has_put_other (fun e => he ((kl_inj hy hx).1 e)), h3 y hy]; simp [he]
    · by_cases he : y = x
      · subst he; exact atKey_put_same hD (kl_is hx) _ _
      · have hy' : y ∈ o := by simpa [he] using hy
        rw [atKey_put_other (fun e => he ((kl_inj (h.idok y hy') hx).1 e))]; exact h4 y hy' z
theorem OutAt.del {w : World} {gm : Nat} {o : List (List Int)} (h : OutAt w gm o) {x : List Int} (hx : Idok x) (ty : TypeId) :
    ∃ w', (Builtin.delete_ #[78, 30] ty #[.map (some gm), idV x]).run Try.prog w = .ok (.tuple #[]) w' ∧ OutAt w' gm (o.erase x) ∧ w.grownBy w' (some gm) := by
  obtain ⟨D, h1, h2, h3, h4⟩ := h.own
  obtain ⟨w', hr, h5, h6⟩ := h1.drop keyed30 Try.underlying78 (kl_key hx) ty
  refine ⟨w', hr, ?_, h6.grown⟩
  have hsz := Maps.size_del (h1.tidy keyed30) (k := kl x)
  rw [h3 x hx, h2] at hsz
  have hs2 : Maps.size (D.del (kl x)) = (o.erase x).length := by
    rw [List.length_erase]
    by_cases hm : x ∈ o
    · rw [decide_eq_true hm] at hsz; simp at hsz
      rw [if_pos hm]; omega
    · rw [decide_eq_false hm] at hsz; simp at hsz
      rw [if_neg hm]; omega
  refine ⟨h.nodup.erase x, fun y hy => h.idok y (List.mem_of_mem_erase hy), D.del (kl x), ?_, hs2, fun y hy => ?_, fun y hy z => ?_⟩
  · have := tight h5
    rw [hs2] at this; exact this
  · by_cases he : y = x
    · subst he; rw [has_del_same]; simp [h.nodup.mem_erase_iff]
    · rw [has_del_other (fun e => he ((kl_inj hy hx).1 e)), h3 y hy]; simp [h.nodup.mem_erase_iff, he]
  · have := h.nodup.mem_erase_iff.1 hy
    rw [atKey_del_other (fun e => this.1 ((kl_inj (h.idok y this.2) hx).1 e))]; exact h4 y this.2 z
theorem OutAt.clr {w : World} {gm : Nat} {o : List (List Int)} (h : OutAt w gm o) (ty : TypeId) :
    ∃ w', (Builtin.clear_ #[78] ty #[.map (some gm)]).run Try.prog w = .ok (.tuple #[]) w' ∧ OutAt w' gm [] ∧ w.grownBy w' (some gm) := by
  obtain ⟨D, ⟨es, clock, hb, F, hs, rfl⟩, _⟩ := h.own
  refine ⟨setBlock w gm (.map #[] clock), ?_, ⟨List.nodup_nil, by simp, .map [], ⟨#[], clock, heap_setBlock_same hb _, ⟨by simp, stamped_empty clock, by simp⟩, Nat.le_refl _, rfl⟩, rfl, fun x _ => by simp [Maps.has], by simp⟩, ⟨rfl, rfl, rfl, by simp [setBlock], fun i _ hi => heap_setBlock_other hb _ (fun e => hi (by rw [e]))⟩⟩
  have hlt : gm < w.heap.size := (Array.getElem?_eq_some_iff.1 hb).1
  simp [Builtin.clear_, run_underlying Try.underlying78, MapKept.run_getObj_map hb, MapKept.run_setObj_map _ hb, Result.andThen, setBlock]
end Go.Proofs.Ytbhibodgbgndbaa.B
/- A backlog in memory and what a call may turn. No condition. -/
namespace Go.Proofs.Ytbhibodgbgndbaa.B
open Go Go.RowKit Go.Proofs Go.Proofs.YtbhibodgbgndbaaW.PrintWords Go.Proofs.YtbhibodgbgndbaaW.PrintLast Go.Proofs.YtbhibodgbgndbaaW.PrintMore
set_option linter.unusedVariables false
set_option linter.unusedSimpArgs false

/-- But for the blocks in F and new ones the world is as it was. -/
structure Upd (F : Nat → Prop) (w w' : World) : Prop where
  os : w'.os = w.os
  tape : w'.tape = w.tape
  output : w'.output = w.output
  size : w.heap.size ≤ w'.heap.size
  block : ∀ k, k < w.heap.size → ¬ F k → w'.heap[k]? = w.heap[k]?
theorem Upd.refl (F : Nat → Prop) (w : World) : Upd F w w := ⟨rfl, rfl, rfl, Nat.le_refl _, fun _ _ _ => rfl⟩
theorem Upd.trans {F G : Nat → Prop} {a b c : World} (h : Upd F a b) (k : Upd G b c) (hG : ∀ k, G k → F k ∨ a.heap.size ≤ k) : Upd F a c :=
  ⟨k.os.trans h.os, k.tape.trans h.tape, k.output.trans h.output, Nat.le_trans h.size k.size, fun i hi hF => by
    have := h.size
    rw [k.block i (by omega) (fun hg => by rcases hG i hg with h1 | h1; exact hF h1; omega)]; exact h.block i hi hF⟩
theorem Upd.mono {F G : Nat → Prop} {a b : World} (h : Upd F a b) (hG : ∀ k, F k → G k) : Upd G a b :=
  ⟨h.os, h.tape, h.output, h.size, fun i hi hn => h.block i hi (fun hf => hn (hG i hf))⟩
theorem Upd.of_below {F : Nat → Prop} {a b : World} (h : Below a.heap.size a b) : Upd F a b := ⟨h.os, h.tape, h.output, h.size, fun i hi _ => h.block i hi⟩
theorem Upd.grown {F : Nat → Prop} {a b : World} {row : Option Nat} (h : a.grownBy b row) (hr : ∀ k, row = some k → F k) : Upd F a b :=
  ⟨h.os, h.tape, h.output, h.size, fun i hi hn => h.block i hi (fun e => hn (hr i e.symm))⟩
theorem Upd.set {F : Nat → Prop} {a : World} {p : Addr} (hp : F p.block) (u : Value) : Upd F a (a.setCell p u) :=
  ⟨rfl, rfl, rfl, by simp [World.setCell], fun i hi hn => Below.heap_setCell _ _ _ _ (fun e => hn (e ▸ hp))⟩
theorem Upd.below {F : Nat → Prop} {a b : World} (h : Upd F a b) {B : Nat} (hB : B ≤ a.heap.size) (hF : ∀ k, F k → B ≤ k) : Below B a b :=
  ⟨h.os, h.tape, h.output, h.size, fun i hi => h.block i (by omega) (fun hf => by have := hF i hf; omega)⟩

structure St where
  cap : Int
  wait : Int
  missed : Bool
  es : List Ent
  out : List (List Int)
structure WF (s : St) : Prop where
  cap1 : 1 ≤ s.cap
  cap2 : s.cap ≤ 4096
  wait1 : 0 ≤ s.wait
  wait2 : s.wait ≤ 100000
  few : (s.es.length : Int) ≤ s.cap
  ids : ∀ e ∈ s.es, Idok e.1
  nod : (s.es.map (·.1)).Nodup
  sub : ∀ x ∈ s.out, x ∈ s.es.map (·.1)
structure BL (w : World) (F : Nat → Prop) (g gm : Nat) (s : St) : Prop where
  blk : ∃ v, BAt w g s.cap s.wait s.missed v gm ∧ w.ownsRow 0 59 34 v s.es.length (entsL s.es) ∧ ∀ k, v.ownBlock = some k → F k ∧ k ≠ g ∧ k ≠ gm
  map : OutAt w gm s.out
  fg : F g
  fm : F gm
  ne : g ≠ gm
  lt : ∀ k, F k → k < w.heap.size
  wf : WF s
theorem WF.len {s : St} (h : WF s) : s.es.length ≤ 1000000 := by have := h.few; have := h.cap2; omega
theorem WF.l32 {s : St} (h : WF s) : ∀ e ∈ s.es, e.1.length = 32 := fun e he => (h.ids e he).1
theorem len_of_sub : ∀ (l m : List (List Int)), l.Nodup → (∀ x ∈ l, x ∈ m) → l.length ≤ m.length
  | [], m, _, _ => by simp
  | a :: l, m, hn, hs => by
    have ha := hs a (by simp)
    have h1 := len_of_sub l (m.erase a) (List.nodup_cons.1 hn).2 (fun x hx => (List.mem_erase_of_ne (by rintro rfl; exact (List.nodup_cons.1 hn).1 hx)).2 (hs x (by simp [hx])))
    have h2 := List.length_erase_of_mem ha
    have h3 := List.length_pos_of_mem ha
    simp only [List.length_cons]; omega
theorem BL.outlen {w : World} {F : Nat → Prop} {g gm : Nat} {s : St} (h : BL w F g gm s) : s.out.length ≤ 1000000 := by
  have h1 := len_of_sub s.out (s.es.map (·.1)) h.map.nodup h.wf.sub
  have := h.wf.len
  simp at h1; omega
theorem own_kept {w w' : World} {base : Nat} {e : TypeId} {size : Nat} {v : Value} {n : Nat} {xs : List Value} (h : w.ownsRow base e size v n xs) (hb : ∀ k, v.ownBlock = some k → w'.heap[k]? = w.heap[k]?) : w'.ownsRow base e size v n xs := by
  obtain ⟨h1, h2⟩ := h
  refine ⟨h1, ?_⟩
  rcases h2 with h2 | ⟨g, cap, cur, rfl, hg, hh, r⟩
  · exact Or.inl h2
  · exact Or.inr ⟨g, cap, cur, rfl, hg, (hb g rfl).trans hh, r⟩
/-- A backlog stays while none of its blocks turns. -/
theorem BL.kept {w w' : World} {F : Nat → Prop} {g gm : Nat} {s : St} (h : BL w F g gm s) (hb : ∀ k, F k → w'.heap[k]? = w.heap[k]?) : BL w' F g gm s := by
  obtain ⟨v, h1, h2, h3⟩ := h.blk
  refine ⟨⟨v, (hb g h.fg).trans h1, own_kept h2 (fun k hk => hb k (h3 k hk).1), h3⟩, h.map.kept (hb gm h.fm), h.fg, h.fm, h.ne, fun k hk => ?_, h.wf⟩
  have h4 := h.lt k hk
  have h5 := hb k hk
  rw [Array.getElem?_eq_getElem h4] at h5
  exact (Array.getElem?_eq_some_iff.1 h5).1
theorem BL.below {w w' : World} {F : Nat → Prop} {g gm : Nat} {s : St} (h : BL w F g gm s) (hb : Below w.heap.size w w') : BL w' F g gm s := h.kept fun k hk => hb.block k (h.lt k hk)
theorem BL.far {w w' : World} {F G : Nat → Prop} {g gm : Nat} {s : St} (h : BL w F g gm s) (hu : Upd G w w') (hG : ∀ k, F k → ¬ G k) : BL w' F g gm s := h.kept fun k hk => hu.block k (h.lt k hk) (hG k hk)
/-- What a call leaves of a backlog. -/
def After (F : Nat → Prop) (g gm : Nat) (w w' : World) (s : St) : Prop := ∃ F', BL w' F' g gm s ∧ (∀ k, F' k → F k ∨ w.heap.size ≤ k) ∧ Upd F w w'
theorem After.same {w w' : World} {F : Nat → Prop} {g gm : Nat} {s : St} (h : BL w F g gm s) (hb : Below w.heap.size w w') : After F g gm w w' s := ⟨F, h.below hb, fun k hk => .inl hk, .of_below hb⟩
theorem After.refl {w : World} {F : Nat → Prop} {g gm : Nat} {s : St} (h : BL w F g gm s) : After F g gm w w s := .same h (Below.refl _ _)
theorem After.pre {w w1 w' : World} {F F1 : Nat → Prop} {g gm : Nat} {s : St} (hF : ∀ k, F1 k → F k ∨ w.heap.size ≤ k) (hu : Upd F w w1) (h : After F1 g gm w1 w' s) : After F g gm w w' s := by
  obtain ⟨F2, h1, h2, h3⟩ := h
  refine ⟨F2, h1, fun k hk => ?_, hu.trans h3 hF⟩
  have := hu.size
  rcases h2 k hk with h4 | h4
  · exact hF k h4
  · exact .inr (by omega)
theorem After.preB {w w1 w' : World} {F : Nat → Prop} {g gm : Nat} {s : St} (hb : Below w.heap.size w w1) (h : After F g gm w1 w' s) : After F g gm w w' s := .pre (fun k hk => .inl hk) (.of_below hb) h
theorem After.postB {w w1 w' : World} {F : Nat → Prop} {g gm : Nat} {s : St} (h : After F g gm w w1 s) (hb : Below w1.heap.size w1 w') : After F g gm w w' s := by
  obtain ⟨F2, h1, h2, h3⟩ := h
  exact ⟨F2, h1.below hb, h2, h3.trans (.of_below (F := F) hb) (fun k hk => .inl hk)⟩
theorem After.size {w w' : World} {F : Nat → Prop} {g gm : Nat} {s : St} (h : After F g gm w w' s) : w.heap.size ≤ w'.heap.size := by obtain ⟨_, _, _, h⟩ := h; exact h.size

/-! the operations that write a map, at a step of a region that draws -/
theorem step_put {ops : Array Oper} {o : Oper} {a : Act} {K : Act → World → Prop} {Q : Exit → Act → World → Prop} {E : Prop} {w : World} (hgd : o.guard = none) (m x v : Operand) (ho : o.op = Op.mapUpdate 78 m x v)
    (gm : Nat) (out : List (List Int)) (hown : OutAt w gm out) (hn : out.length ≤ 1000000) (y : List Int) (hy : Idok y) (hm : a.eval m = .map (some gm)) (hx : a.eval x = idV y) (hv : a.eval v = .bool true)
    (h : ∀ w', OutAt w' gm (putO y out) → w.grownBy w' (some gm) → K (a.put o.dst undef) w') :
    if Region.wanted o (yielded ops a.tmps) = true then Oper.wp Try.prog o a w K Q else E := by
  have hw : Region.wanted o (yielded ops a.tmps) = true := by simp [Region.wanted, hgd]
  rw [if_pos hw]
  obtain ⟨w', hrun, r1, r2⟩ := hown.put hn hy
  unfold Oper.wp
  simp [execOp, ho, hm, hx, hv, hrun, Result.andThen]
  exact h w' r1 r2
theorem step_del {ops : Array Oper} {o : Oper} {a : Act} {K : Act → World → Prop} {Q : Exit → Act → World → Prop} {E : Prop} {w : World} (hgd : o.guard = none) (m x : Operand) (ho : o.op = Op.call { callee := Callee.builtin Builtin.delete, args := #[m, x], argTypes := #[78, 30] })
    (gm : Nat) (out : List (List Int)) (hown : OutAt w gm out) (y : List Int) (hy : Idok y) (hm : a.eval m = .map (some gm)) (hx : a.eval x = idV y)
    (h : ∀ w', OutAt w' gm (out.erase y) → w.grownBy w' (some gm) → K (a.put o.dst (.tuple #[])) w') :
    if Region.wanted o (yielded ops a.tmps) = true then Oper.wp Try.prog o a w K Q else E := by
  have hw : Region.wanted o (yielded ops a.tmps) = true := by simp [Region.wanted, hgd]
  rw [if_pos hw]
  obtain ⟨w', hrun, r1, r2⟩ := hown.del hy o.type
  unfold Oper.wp
  simp [execOp, ho, resolve, invoke, builtin, hm, hx, hrun, Result.andThen]
  exact h w' r1 r2
end Go.Proofs.Ytbhibodgbgndbaa.B
/- Add that adds. No condition. -/
namespace Go.Proofs.Ytbhibodgbgndbaa.B
open Go Go.RowKit Go.Proofs Go.Proofs.YtbhibodgbgndbaaW.PrintWords Go.Proofs.YtbhibodgbgndbaaW.PrintLast Go.Proofs.YtbhibodgbgndbaaW.PrintMore
set_option linter.unusedVariables false
set_option linter.unusedSimpArgs false

theorem info59r : ∃ i z, Try.prog.info? 59 = some i ∧ i.zero = some z ∧ i.size = 34 ∧ i.bytes = 48 ∧ z.cells.size = 34 := by
  have h : (Try.prog.info? 59).map (fun i => (i.size, i.bytes)) = some (34, 48) := by kernel_rfl
  obtain ⟨v, h1, h2⟩ := Option.map_eq_some_iff.1 zero59
  obtain ⟨it, h3, h4⟩ := Option.bind_eq_some_iff.1 h1
  rw [h3] at h
  simp at h
  exact ⟨it, v, h3, h4, h.1, h.2, by rw [h2]; rfl⟩
theorem ent_one (x : List Int) (d t : Int) : ∀ u ∈ entL x d t, u.oneCell' = true := by
  intro u hu
  simp only [entL, List.mem_append, List.mem_map, List.mem_cons, List.not_mem_nil, or_false] at hu
  rcases hu with ⟨z, _, rfl⟩ | rfl | rfl <;> rfl

def bldE (a b : Value) : Sem Value := Instr.build 59 #[(0, a), (1, b)]
def bldR (a : Value) : Sem Value := Instr.buildSlice 55 1 #[(0, a)]
@[go_sem ↓] theorem execOp_bldE (ρ : Operand → Value) (dst : Option Tmp) (p q : Operand) (ty : TypeId) (pos : String) (after : Array Edge) (guard : Option (Nat × Bool)) :
    execOp ρ { dst, op := .build 59 #[(0, p), (1, q)], type := ty, pos, after, guard } = (do pure (.value (← bldE (ρ p) (ρ q)))) := by simp [execOp, bldE]
@[go_sem ↓] theorem execOp_bldR (ρ : Operand → Value) (dst : Option Tmp) (p : Operand) (ty : TypeId) (pos : String) (after : Array Edge) (guard : Option (Nat × Bool)) :
    execOp ρ { dst, op := .buildSlice 55 1 #[(0, p)], type := ty, pos, after, guard } = (do pure (.value (← bldR (ρ p)))) := by simp [execOp, bldR]
@[go_sem] theorem run_bldE (x : List Int) (due : Int) (W : World) (hx : Aside0 (x.length = 32)) : (bldE (.agg (x.map (Value.int .u8)).toArray) (.int .i64 due)).run Try.prog W = .ok (.agg (entL x due 0).toArray) W := run_build59 x hx.out due W
@[go_sem] theorem run_bldR (x : List Int) (due t : Int) (W : World) (hx : Aside0 (x.length = 32)) : (bldR (.agg (entL x due t).toArray)).run Try.prog W = .ok (.slice (some ⟨W.heap.size, 0, none⟩) 1 1) (W.alloc (.cells (entL x due t).toArray 59)) := run_buildRow _ (entL_len x hx.out _ _) W

def ld30 (p : Value) : Sem Value := Instr.loadAt 30 p
theorem execOp_ld30 (ρ : Operand → Value) (dst : Option Tmp) (p : Operand) (ty : TypeId) (pos : String) (after : Array Edge) (guard : Option (Nat × Bool)) :
    execOp ρ { dst, op := .load 30 p, type := ty, pos, after, guard } = (do pure (.value (← ld30 (ρ p)))) := by simp [execOp, ld30]
attribute [local go_sem ↓] execOp_ld30
theorem run_ld30 (W : World) (b : Nat) (x : List Int) (hx : x.length = 32) (h : W.rangeAt b 0 (x.map (Value.int .u8))) : (ld30 (.pointer (some ⟨b, 0, none⟩))).run Try.prog W = .ok (.agg (x.map (Value.int .u8)).toArray) W :=
  run_loadAt_mid W b 0 30 _ _ h Try.underlying30 rfl (by rw [List.length_map, hx]; exact info30)
theorem cell_alloc {W : World} {a : Addr} {v : Value} (h : W.cell? a = some v) (o : Obj) : (W.alloc o).cell? a = some v := by
  have hl := World.block_lt_of_cell? _ _ h
  rw [World.cell?_of_block (w := W) (Below.heap_alloc _ _ _ hl)]; exact h
theorem cell_grown {W W' : World} {row : Option Nat} {a : Addr} {v : Value} (h : W.cell? a = some v) (hg : W.grownBy W' row) (hr : some a.block ≠ row) : W'.cell? a = some v := by
  have hl := World.block_lt_of_cell? _ _ h
  rw [hg.cell_far a hl hr]; exact h
theorem fro_alloc {W : World} {a : Addr} {v : Value} (h : W.cell? a = some v) (hf : W.frozen? a = false) (o : Obj) : (W.alloc o).frozen? a = false := by
  have hl := World.block_lt_of_cell? _ _ h
  rw [World.frozen?_of_block (w := W) (Below.heap_alloc _ _ _ hl)]; exact hf
theorem fro_grown {W W' : World} {row : Option Nat} {a : Addr} {v : Value} (h : W.cell? a = some v) (hf : W.frozen? a = false) (hg : W.grownBy W' row) (hr : some a.block ≠ row) : W'.frozen? a = false := by
  have hl := World.block_lt_of_cell? _ _ h
  rw [hg.frozen_far a hl hr]; exact hf
theorem range_grown {W W' : World} {row : Option Nat} {b o : Nat} {cs : List Value} (h : W.rangeAt b o cs) (hg : W.grownBy W' row) (hr : some b ≠ row) : W'.rangeAt b o cs := fun j v hv => cell_grown (h j v hv) hg hr
theorem own_below {w w' : World} {base : Nat} {e : TypeId} {size : Nat} {v : Value} {n : Nat} {xs : List Value} (h : w.ownsRow base e size v n xs) (hb : Below w.heap.size w w') : w'.ownsRow base e size v n xs :=
  own_kept h (fun k hk => hb.block k (h.lt k hk).2)
theorem m63 {n : Nat} (h : n ≤ 1000000) : n + 1 ≤ maxLen := by simp only [maxLen]; omega
theorem m48 {n : Nat} (h : n ≤ 1000000) : (n + 1) * 48 ≤ 140737488355328 := by omega
theorem entsL_append (es : List Ent) (e : Ent) : entsL (es ++ [e]) = entsL es ++ entL e.1 e.2.1 e.2.2 := by simp [entsL]

set_option maxHeartbeats 4000000 in
set_option maxRecDepth 100000 in
/-- What is new goes behind all others. -/
theorem add_okW (g : Nat) (cap wait : Int) (missed : Bool) (v : Value) (mb : Nat) (es : List Ent) (hes : ∀ e ∈ es, e.1.length = 32) (hn : es.length ≤ 1000000) (x : List Int) (hx : x.length = 32) (hz : x ≠ zeroId) (due : Int) (hd : minB due = true) (hh : hasE es x = false) (hf : (es.length : Int) < cap) (w : World)
    (hB : BAt w g cap wait missed v mb) (ho : w.ownsRow 0 59 34 v es.length (entsL es)) (hv : ∀ k, v.ownBlock = some k → k ≠ g) :
    Calls Try.prog 13 #[.pointer (some ⟨g, 0, none⟩), idV x, .int .i64 due] w fun e w' => e = .returned (.int .i64 0) ∧ ∃ w2 w3 v', Below w.heap.size w w2 ∧ w2.grownBy w3 v.ownBlock ∧ w3.ownsRow 0 59 34 v' (es.length + 1) (entsL (es ++ [(x, due, 0)])) ∧ (v'.ownBlock = v.ownBlock ∨ ∃ k, v'.ownBlock = some k ∧ w.heap.size ≤ k) ∧ w' = w3.setCell ⟨g, 3, none⟩ v' := by
  have heq := eq_zero x hx
  rw [decide_eq_false hz] at heq
  have hu80 := Try.underlying80
  have hlt : g < w.heap.size := (Array.getElem?_eq_some_iff.1 hB).1
  obtain ⟨A, gb, cap', rfl, _, _⟩ := ents_of_own hes ho
  have hrow : some g ≠ (Value.slice A es.length cap').ownBlock ∧ some w.heap.size ≠ (Value.slice A es.length cap').ownBlock := ⟨fun e => hv g e.symm rfl, fun e => by have := (ho.lt _ e.symm).2; omega⟩
  have HR := Aside0.mk hrow
  obtain ⟨i0, z0, hi0, hz0, hs0, hb0, hzc0⟩ := info59r
  have HI := Aside0.mk (And.intro hi0 (And.intro hz0 (And.intro hs0 (And.intro hb0 hzc0))))
  clear hrow hi0 hz0 hs0 hb0 hzc0
  have HX := Aside0.mk hx
  have HD := Aside0.mk hd
  have HH := Aside0.mk hh
  have HV := Aside0.mk hv
  have HC := Aside0.mk (And.intro hes (And.intro hB ho))
  have hfd : decide ((es.length : Int) ≥ cap) = false := decide_eq_false (by omega)
  clear hx hz hd hh hes hB ho hv
  unfold idV
  go_enter Try.func13, Try.ntmps13
  go_wp2_with (first | (go_at_call 41; refine (minute_is due _).mono ?_; rintro e_ w1 ⟨rfl, rfl⟩; rw [HD.out]) | (go_at_call 16; refine (has_is g cap wait missed _ mb 0 es HC.out.1 hn x HX.out _ ((Below.heap_alloc w (.cells (idC x) 30) g hlt).trans HC.out.2.1) (HC.out.2.2.alloc _)).mono ?_; rintro e_ w2 ⟨rfl, hb2⟩; rw [HH.out]; have HB2 := Aside0.mk ((below_alloc (Below.refl w.heap.size w) (.cells (idC x) 30)).trans (hb2.mono (by simp))); obtain ⟨hc0, hc1, hc2, hc3, hc4, hf2, hf3⟩ := bAt_cells ((HB2.out.block g hlt).trans HC.out.2.1); have HID := Aside0.mk (show w2.rangeAt w.heap.size 0 (x.map (Value.int .u8)) from fun j v_ hv => by have h0 := id_range w x j v_ hv; exact (hb2.cell (World.block_lt_of_cell? _ _ h0)).trans h0); clear hb2) | (refine wpList_load_mid rfl 30 (.tmp 4) rfl w.heap.size 0 rfl (x.map (Value.int .u8)) _ (id_range w x) Try.underlying30 rfl (by rw [List.length_map, HX.out]; exact info30) ?_))
  go_quiet (fail)
  go_wp2
  have hu30 := Try.underlying30
  have hi30 : (Try.prog.info? 30).map (·.size) = some (x.map (Value.int .u8)).length := by rw [List.length_map, HX.out]; exact info30
  have hid : w2.rangeAt w.heap.size 0 (x.map (Value.int .u8)) := HID.out
  have HW : Aside0 (Below w.heap.size w (w2.drewN nq) ∧ (w2.drewN nq).rangeAt w.heap.size 0 (x.map (Value.int .u8))) := ⟨⟨pw_below_drewN HB2.out _, HID.out⟩⟩
  have q3 : (w2.drewN nq).cell? ⟨g, 3, none⟩ = some (.slice A es.length cap') := hc3
  have qf3 : (w2.drewN nq).frozen? ⟨g, 3, none⟩ = false := hf3
  clear hc0 hc1 hc2 hc3 hc4 hf2 hf3 HB2 HID hid
  generalize w2.drewN nq = W0 at HW q3 qf3 ⊢
  have q3d : W0.drew.cell? ⟨g, 3, none⟩ = some (.slice A es.length cap') := q3
  have qf3d : W0.drew.frozen? ⟨g, 3, none⟩ = false := qf3
  have hl := run_ld30 W0.drew w.heap.size x HX.out HW.out.2
  have hgn : g ≠ W0.heap.size := fun e => by have := HW.out.1.size; omega
  have qa := fun o => cell_alloc (W := W0) q3 o
  go_region_law (first | (refine step_append_lies _ rfl (.tmp 39) (.tmp 43) 55 rfl 0 59 i0 z0 34 48 Try.underlying55 HI.out.1 HI.out.2.1 HI.out.2.2.1 HI.out.2.2.2.1 HI.out.2.2.2.2 (by omega) _ es.length (entsL es) rfl (own_below HC.out.2.2 (below_alloc (below_drew1 HW.out.1) _)) ⟨W0.heap.size, 0, none⟩ 1 1 (entL x due 0) rfl (entL_len x HX.out _ _) (fun j u hu => World.news_of_block (heap_alloc_new _ _) j u hu) (ent_one x due 0) (by omega) (m63 hn) (m48 hn) (Nat.zero_le _) _ rfl ?_; intro g' cap1 w3 hown hgrow hat hlt3; have r3 := cell_grown (cell_alloc (W := W0.drew) q3 _) hgrow HR.out.1; have rf3 : w3.frozen? ⟨g, 3, none⟩ = false := fro_grown (cell_alloc (W := W0.drew) q3 _) (fro_alloc (W := W0.drew) q3 qf3 _) hgrow HR.out.1))
  all_goals (go_wp2; refine bodyPost_ret (results_tmp rfl _ _ _) rfl ⟨rfl, _, w3, _, below_alloc (below_drew1 HW.out.1) _, hgrow, ?_, ?_, rfl⟩)
  all_goals first | (rw [entsL_append]; exact hown) | skip
  all_goals (rcases hat with h | h; exact .inl h.symm; exact .inr ⟨g', rfl, by rw [h]; exact (below_alloc (below_drew1 HW.out.1) _).size⟩)
theorem own_set {w : World} {base : Nat} {e : TypeId} {size : Nat} {v : Value} {n : Nat} {xs : List Value} (h : w.ownsRow base e size v n xs) {a : Addr} (ha : ∀ k, v.ownBlock = some k → k ≠ a.block) (u : Value) : (w.setCell a u).ownsRow base e size v n xs :=
  own_kept h (fun k hk => Below.heap_setCell _ _ _ _ (ha k hk))
theorem bAt_set2 {w : World} {g : Nat} {cap wait : Int} {missed : Bool} {v : Value} {mb : Nat} (h : BAt w g cap wait missed v mb) (b : Bool) : BAt (w.setCell ⟨g, 2, none⟩ (.bool b)) g cap wait b v mb := by
  have hlt : g < w.heap.size := (Array.getElem?_eq_some_iff.1 h).1
  unfold BAt at h ⊢
  simp [World.setCell, Array.getElem?_modify, h]
theorem bAt_set3 {w : World} {g : Nat} {cap wait : Int} {missed : Bool} {v : Value} {mb : Nat} (h : BAt w g cap wait missed v mb) (u : Value) : BAt (w.setCell ⟨g, 3, none⟩ u) g cap wait missed u mb := by
  have hlt : g < w.heap.size := (Array.getElem?_eq_some_iff.1 h).1
  unfold BAt at h ⊢
  simp [World.setCell, Array.getElem?_modify, h]
end Go.Proofs.Ytbhibodgbgndbaa.B
