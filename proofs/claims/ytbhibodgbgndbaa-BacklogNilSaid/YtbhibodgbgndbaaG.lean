/- Add to a backlog. Condition: at most 1000000 entries. -/
import Derived.Test.YtbhibodgbgndbaaF
namespace Go.Proofs.Ytbhibodgbgndbaa.B
open Go Go.RowKit Go.Proofs Go.Proofs.YtbhibodgbgndbaaW.PrintWords Go.Proofs.YtbhibodgbgndbaaW.PrintLast Go.Proofs.YtbhibodgbgndbaaW.PrintMore
set_option linter.unusedVariables false
set_option linter.unusedSimpArgs false

def zeroId : List Int := List.replicate 32 0
theorem eq_zero (x : List Int) (hx : x.length = 32) (W : World) :
    (Op.equalIn 10000 30 (.agg (x.map (Value.int .u8)).toArray) (.agg #[.int .u8 0, .int .u8 0, .int .u8 0, .int .u8 0, .int .u8 0, .int .u8 0, .int .u8 0, .int .u8 0, .int .u8 0, .int .u8 0, .int .u8 0, .int .u8 0, .int .u8 0, .int .u8 0, .int .u8 0, .int .u8 0, .int .u8 0, .int .u8 0, .int .u8 0, .int .u8 0, .int .u8 0, .int .u8 0, .int .u8 0, .int .u8 0, .int .u8 0, .int .u8 0, .int .u8 0, .int .u8 0, .int .u8 0, .int .u8 0, .int .u8 0, .int .u8 0])).run Try.prog W = .ok (decide (x = zeroId)) W := run_eqId 9998 W x zeroId hx (by simp [zeroId])
set_option maxHeartbeats 4000000 in
set_option maxRecDepth 100000 in
/-- The identity of zeros is refused. -/
theorem add_zero (g : Nat) (due : Int) (w : World) :
    Calls Try.prog 13 #[.pointer (some ⟨g, 0, none⟩), idV zeroId, .int .i64 due] w fun e w' => e = .returned (.int .i64 1) ∧ Below w.heap.size w w' := by
  have heq := eq_zero zeroId (by simp [zeroId])
  simp only [decide_true] at heq
  unfold idV
  go_enter Try.func13, Try.ntmps13
  go_wp2_with (first | (refine wpList_load_mid rfl 30 (.tmp 4) rfl w.heap.size 0 rfl (zeroId.map (Value.int .u8)) _ (id_range w zeroId) Try.underlying30 rfl (by simpa [zeroId] using info30) ?_))
  go_ret
  exact ⟨rfl, below_alloc (Below.refl _ _) _⟩
set_option maxHeartbeats 4000000 in
set_option maxRecDepth 100000 in
/-- What is no minute is refused. -/
theorem add_range (g : Nat) (x : List Int) (hx : x.length = 32) (hz : x ≠ zeroId) (due : Int) (hd : minB due = false) (w : World) :
    Calls Try.prog 13 #[.pointer (some ⟨g, 0, none⟩), idV x, .int .i64 due] w fun e w' => e = .returned (.int .i64 2) ∧ Below w.heap.size w w' := by
  have heq := eq_zero x hx
  rw [decide_eq_false hz] at heq
  have HX := Aside0.mk hx
  have HD := Aside0.mk hd
  clear hx hz hd
  unfold idV
  go_enter Try.func13, Try.ntmps13
  go_wp2_with (first | (go_at_call 41; refine (minute_is due _).mono ?_; rintro e_ w1 ⟨rfl, rfl⟩; rw [HD.out]) | (refine wpList_load_mid rfl 30 (.tmp 4) rfl w.heap.size 0 rfl (x.map (Value.int .u8)) _ (id_range w x) Try.underlying30 rfl (by rw [List.length_map, HX.out]; exact info30) ?_))
  go_ret
  exact ⟨rfl, below_alloc (Below.refl _ _) _⟩
set_option maxHeartbeats 4000000 in
set_option maxRecDepth 100000 in
/-- What is there already is refused. -/
theorem add_dup (g : Nat) (cap wait : Int) (missed : Bool) (v : Value) (mb base : Nat) (es : List Ent) (hes : ∀ e ∈ es, e.1.length = 32) (hn : es.length ≤ 1000000) (x : List Int) (hx : x.length = 32) (hz : x ≠ zeroId) (due : Int) (hd : minB due = true) (hh : hasE es x = true) (w : World)
    (hB : BAt w g cap wait missed v mb) (ho : w.ownsRow base 59 34 v es.length (entsL es)) :
    Calls Try.prog 13 #[.pointer (some ⟨g, 0, none⟩), idV x, .int .i64 due] w fun e w' => e = .returned (.int .i64 7) ∧ Below w.heap.size w w' := by
  have heq := eq_zero x hx
  rw [decide_eq_false hz] at heq
  have hlt : g < w.heap.size := (Array.getElem?_eq_some_iff.1 hB).1
  have HX := Aside0.mk hx
  have HD := Aside0.mk hd
  have HH := Aside0.mk hh
  have HC := Aside0.mk (And.intro hes (And.intro hB ho))
  clear hx hz hd hh hes hB ho
  unfold idV
  go_enter Try.func13, Try.ntmps13
  go_wp2_with (first | (go_at_call 41; refine (minute_is due _).mono ?_; rintro e_ w1 ⟨rfl, rfl⟩; rw [HD.out]) | (go_at_call 16; refine (has_is g cap wait missed v mb base es HC.out.1 hn x HX.out _ ((Below.heap_alloc w (.cells (idC x) 30) g hlt).trans HC.out.2.1) (HC.out.2.2.alloc _)).mono ?_; rintro e_ w2 ⟨rfl, hb2⟩; rw [HH.out]) | (refine wpList_load_mid rfl 30 (.tmp 4) rfl w.heap.size 0 rfl (x.map (Value.int .u8)) _ (id_range w x) Try.underlying30 rfl (by rw [List.length_map, HX.out]; exact info30) ?_))
  go_ret
  exact ⟨rfl, (below_alloc (Below.refl _ _) _).trans (hb2.mono (by simp))⟩
theorem bAt_cells {W : World} {g : Nat} {cap wait : Int} {missed : Bool} {v : Value} {mb : Nat} (h : BAt W g cap wait missed v mb) :
    W.cell? ⟨g, 0, none⟩ = some (.int .i64 cap) ∧ W.cell? ⟨g, 1, none⟩ = some (.int .i64 wait) ∧ W.cell? ⟨g, 2, none⟩ = some (.bool missed) ∧ W.cell? ⟨g, 3, none⟩ = some v ∧ W.cell? ⟨g, 4, none⟩ = some (.map (some mb)) ∧ W.frozen? ⟨g, 2, none⟩ = false ∧ W.frozen? ⟨g, 3, none⟩ = false :=
  ⟨(blk_cell h 0).trans rfl, (blk_cell h 1).trans rfl, (blk_cell h 2).trans rfl, (blk_cell h 3).trans rfl, (blk_cell h 4).trans rfl, blk_frozen h 2, blk_frozen h 3⟩
set_option maxHeartbeats 4000000 in
set_option maxRecDepth 100000 in
/-- A full backlog notes that an article was missed. -/
theorem add_full (g : Nat) (cap wait : Int) (missed : Bool) (v : Value) (mb base : Nat) (es : List Ent) (hes : ∀ e ∈ es, e.1.length = 32) (hn : es.length ≤ 1000000) (x : List Int) (hx : x.length = 32) (hz : x ≠ zeroId) (due : Int) (hd : minB due = true) (hh : hasE es x = false) (hf : cap ≤ (es.length : Int)) (w : World)
    (hB : BAt w g cap wait missed v mb) (ho : w.ownsRow base 59 34 v es.length (entsL es)) :
    Calls Try.prog 13 #[.pointer (some ⟨g, 0, none⟩), idV x, .int .i64 due] w fun e w' => e = .returned (.int .i64 9) ∧ ∃ w2, Below w.heap.size w w2 ∧ w' = w2.setCell ⟨g, 2, none⟩ (.bool true) := by
  have heq := eq_zero x hx
  rw [decide_eq_false hz] at heq
  have hu80 := Try.underlying80
  have hlt : g < w.heap.size := (Array.getElem?_eq_some_iff.1 hB).1
  obtain ⟨A, gb, cap', rfl, _, _⟩ := ents_of_own hes ho
  have HX := Aside0.mk hx
  have HD := Aside0.mk hd
  have HH := Aside0.mk hh
  have HC := Aside0.mk (And.intro hes (And.intro hB ho))
  have hfd : decide ((es.length : Int) ≥ cap) = true := decide_eq_true hf
  clear hx hz hd hh hes hB ho
  unfold idV
  go_enter Try.func13, Try.ntmps13
  go_wp2_with (first | (go_at_call 41; refine (minute_is due _).mono ?_; rintro e_ w1 ⟨rfl, rfl⟩; rw [HD.out]) | (go_at_call 16; refine (has_is g cap wait missed _ mb base es HC.out.1 hn x HX.out _ ((Below.heap_alloc w (.cells (idC x) 30) g hlt).trans HC.out.2.1) (HC.out.2.2.alloc _)).mono ?_; rintro e_ w2 ⟨rfl, hb2⟩; rw [HH.out]; have HB2 := Aside0.mk ((below_alloc (Below.refl w.heap.size w) (.cells (idC x) 30)).trans (hb2.mono (by simp))); obtain ⟨hc0, hc1, hc2, hc3, hc4, hf2, hf3⟩ := bAt_cells ((HB2.out.block g hlt).trans HC.out.2.1); clear hb2) | (refine wpList_load_mid rfl 30 (.tmp 4) rfl w.heap.size 0 rfl (x.map (Value.int .u8)) _ (id_range w x) Try.underlying30 rfl (by rw [List.length_map, HX.out]; exact info30) ?_))
  go_quiet (fail)
  go_wp2
  refine bodyPost_ret (results_tmp rfl _ _ _) rfl ⟨rfl, w2.drewN nq, pw_below_drewN HB2.out _, rfl⟩
end Go.Proofs.Ytbhibodgbgndbaa.B
