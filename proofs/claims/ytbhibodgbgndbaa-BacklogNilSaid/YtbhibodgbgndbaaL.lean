/- Add that adds. No condition. -/
import Derived.Test.YtbhibodgbgndbaaK
import Derived.Deep.RegionLaw
namespace Go.Proofs.Ytbhibodgbgndbaa.B
open Go Go.RowKit Go.Proofs Go.Proofs.YtbhibodgbgndbaaW.PrintWords Go.Proofs.YtbhibodgbgndbaaW.PrintLast Go.Proofs.YtbhibodgbgndbaaW.PrintMore
set_option linter.unusedVariables false
set_option linter.unusedSimpArgs false

theorem info59r : ∃ i z, Try.prog.info? 59 = some i ∧ i.zero = some z ∧ i.size = 34 ∧ i.bytes = 48 ∧ z.cells.size = 34 := by
  have h : (Try.prog.info? 59).map (fun i => (i.size, i.bytes)) = some (34, 48) := by kernel_rfl
  obtain ⟨v, h1, h2⟩ := Option.map_eq_some_iff.1 zero59
  obtain ⟨it, h3, h4⟩ := Option.bind_eq_some_iff.1 h1
  rw [h3] at h
  simp at h
  exact ⟨it, v, h3, h4, h.1, h.2, by rw [h2]; rfl⟩
theorem ent_one (x : List Int) (d t : Int) : ∀ u ∈ entL x d t, u.oneCell' = true := by
  intro u hu
  simp only [entL, List.mem_append, List.mem_map, List.mem_cons, List.not_mem_nil, or_false] at hu
  rcases hu with ⟨z, _, rfl⟩ | rfl | rfl <;> rfl

def bldE (a b : Value) : Sem Value := Instr.build 59 #[(0, a), (1, b)]
def bldR (a : Value) : Sem Value := Instr.buildSlice 55 1 #[(0, a)]
@[go_sem ↓] theorem execOp_bldE (ρ : Operand → Value) (dst : Option Tmp) (p q : Operand) (ty : TypeId) (pos : String) (after : Array Edge) (guard : Option (Nat × Bool)) :
    execOp ρ { dst, op := .build 59 #[(0, p), (1, q)], type := ty, pos, after, guard } = (do pure (.value (← bldE (ρ p) (ρ q)))) := by simp [execOp, bldE]
@[go_sem ↓] theorem execOp_bldR (ρ : Operand → Value) (dst : Option Tmp) (p : Operand) (ty : TypeId) (pos : String) (after : Array Edge) (guard : Option (Nat × Bool)) :
    execOp ρ { dst, op := .buildSlice 55 1 #[(0, p)], type := ty, pos, after, guard } = (do pure (.value (← bldR (ρ p)))) := by simp [execOp, bldR]
@[go_sem] theorem run_bldE (x : List Int) (due : Int) (W : World) (hx : Aside0 (x.length = 32)) : (bldE (.agg (x.map (Value.int .u8)).toArray) (.int .i64 due)).run Try.prog W = .ok (.agg (entL x due 0).toArray) W := run_build59 x hx.out due W
@[go_sem] theorem run_bldR (x : List Int) (due t : Int) (W : World) (hx : Aside0 (x.length = 32)) : (bldR (.agg (entL x due t).toArray)).run Try.prog W = .ok (.slice (some ⟨W.heap.size, 0, none⟩) 1 1) (W.alloc (.cells (entL x due t).toArray 59)) := run_buildRow _ (entL_len x hx.out _ _) W

def ld30 (p : Value) : Sem Value := Instr.loadAt 30 p
theorem execOp_ld30 (ρ : Operand → Value) (dst : Option Tmp) (p : Operand) (ty : TypeId) (pos : String) (after : Array Edge) (guard : Option (Nat × Bool)) :
    execOp ρ { dst, op := .load 30 p, type := ty, pos, after, guard } = (do pure (.value (← ld30 (ρ p)))) := by simp [execOp, ld30]
attribute [local go_sem ↓] execOp_ld30
theorem run_ld30 (W : World) (b : Nat) (x : List Int) (hx : x.length = 32) (h : W.rangeAt b 0 (x.map (Value.int .u8))) : (ld30 (.pointer (some ⟨b, 0, none⟩))).run Try.prog W = .ok (.agg (x.map (Value.int .u8)).toArray) W :=
  run_loadAt_mid W b 0 30 _ _ h Try.underlying30 rfl (by rw [List.length_map, hx]; exact info30)
theorem cell_alloc {W : World} {a : Addr} {v : Value} (h : W.cell? a = some v) (o : Obj) : (W.alloc o).cell? a = some v := by
  have hl := World.block_lt_of_cell? _ _ h
  rw [World.cell?_of_block (w := W) (Below.heap_alloc _ _ _ hl)]; exact h
theorem cell_grown {W W' : World} {row : Option Nat} {a : Addr} {v : Value} (h : W.cell? a = some v) (hg : W.grownBy W' row) (hr : some a.block ≠ row) : W'.cell? a = some v := by
  have hl := World.block_lt_of_cell? _ _ h
  rw [hg.cell_far a hl hr]; exact h
theorem fro_alloc {W : World} {a : Addr} {v : Value} (h : W.cell? a = some v) (hf : W.frozen? a = false) (o : Obj) : (W.alloc o).frozen? a = false := by
  have hl := World.block_lt_of_cell? _ _ h
  rw [World.frozen?_of_block (w := W) (Below.heap_alloc _ _ _ hl)]; exact hf
theorem fro_grown {W W' : World} {row : Option Nat} {a : Addr} {v : Value} (h : W.cell? a = some v) (hf : W.frozen? a = false) (hg : W.grownBy W' row) (hr : some a.block ≠ row) : W'.frozen? a = false := by
  have hl := World.block_lt_of_cell? _ _ h
  rw [hg.frozen_far a hl hr]; exact hf
theorem range_grown {W W' : World} {row : Option Nat} {b o : Nat} {cs : List Value} (h : W.rangeAt b o cs) (hg : W.grownBy W' row) (hr : some b ≠ row) : W'.rangeAt b o cs := fun j v hv => cell_grown (h j v hv) hg hr
theorem own_below {w w' : World} {base : Nat} {e : TypeId} {size : Nat} {v : Value} {n : Nat} {xs : List Value} (h : w.ownsRow base e size v n xs) (hb : Below w.heap.size w w') : w'.ownsRow base e size v n xs :=
  own_kept h (fun k hk => hb.block k (h.lt k hk).2)
theorem m63 {n : Nat} (h : n ≤ 1000000) : n + 1 ≤ maxLen := by simp only [maxLen]; omega
theorem m48 {n : Nat} (h : n ≤ 1000000) : (n + 1) * 48 ≤ 140737488355328 := by omega
theorem entsL_append (es : List Ent) (e : Ent) : entsL (es ++ [e]) = entsL es ++ entL e.1 e.2.1 e.2.2 := by simp [entsL]

set_option maxHeartbeats 4000000 in
set_option maxRecDepth 100000 in
/-- What is new goes behind all others. -/
theorem add_okW (g : Nat) (cap wait : Int) (missed : Bool) (v : Value) (mb : Nat) (es : List Ent) (hes : ∀ e ∈ es, e.1.length = 32) (hn : es.length ≤ 1000000) (x : List Int) (hx : x.length = 32) (hz : x ≠ zeroId) (due : Int) (hd : minB due = true) (hh : hasE es x = false) (hf : (es.length : Int) < cap) (w : World)
    (hB : BAt w g cap wait missed v mb) (ho : w.ownsRow 0 59 34 v es.length (entsL es)) (hv : ∀ k, v.ownBlock = some k → k ≠ g) :
    Calls Try.prog 13 #[.pointer (some ⟨g, 0, none⟩), idV x, .int .i64 due] w fun e w' => e = .returned (.int .i64 0) ∧ ∃ w2 w3 v', Below w.heap.size w w2 ∧ w2.grownBy w3 v.ownBlock ∧ w3.ownsRow 0 59 34 v' (es.length + 1) (entsL (es ++ [(x, due, 0)])) ∧ (v'.ownBlock = v.ownBlock ∨ ∃ k, v'.ownBlock = some k ∧ w.heap.size ≤ k) ∧ w' = w3.setCell ⟨g, 3, none⟩ v' := by
  have heq := eq_zero x hx
  rw [decide_eq_false hz] at heq
  have hu80 := Try.underlying80
  have hlt : g < w.heap.size := (Array.getElem?_eq_some_iff.1 hB).1
  obtain ⟨A, gb, cap', rfl, _, _⟩ := ents_of_own hes ho
  have hrow : some g ≠ (Value.slice A es.length cap').ownBlock ∧ some w.heap.size ≠ (Value.slice A es.length cap').ownBlock := ⟨fun e => hv g e.symm rfl, fun e => by have := (ho.lt _ e.symm).2; omega⟩
  have HR := Aside0.mk hrow
  obtain ⟨i0, z0, hi0, hz0, hs0, hb0, hzc0⟩ := info59r
  have HI := Aside0.mk (And.intro hi0 (And.intro hz0 (And.intro hs0 (And.intro hb0 hzc0))))
  clear hrow hi0 hz0 hs0 hb0 hzc0
  have HX := Aside0.mk hx
  have HD := Aside0.mk hd
  have HH := Aside0.mk hh
  have HV := Aside0.mk hv
  have HC := Aside0.mk (And.intro hes (And.intro hB ho))
  have hfd : decide ((es.length : Int) ≥ cap) = false := decide_eq_false (by omega)
  clear hx hz hd hh hes hB ho hv
  unfold idV
  go_enter Try.func13, Try.ntmps13
  go_wp2_with (first | (go_at_call 41; refine (minute_is due _).mono ?_; rintro e_ w1 ⟨rfl, rfl⟩; rw [HD.out]) | (go_at_call 16; refine (has_is g cap wait missed _ mb 0 es HC.out.1 hn x HX.out _ ((Below.heap_alloc w (.cells (idC x) 30) g hlt).trans HC.out.2.1) (HC.out.2.2.alloc _)).mono ?_; rintro e_ w2 ⟨rfl, hb2⟩; rw [HH.out]; have HB2 := Aside0.mk ((below_alloc (Below.refl w.heap.size w) (.cells (idC x) 30)).trans (hb2.mono (by simp))); obtain ⟨hc0, hc1, hc2, hc3, hc4, hf2, hf3⟩ := bAt_cells ((HB2.out.block g hlt).trans HC.out.2.1); have HID := Aside0.mk (show w2.rangeAt w.heap.size 0 (x.map (Value.int .u8)) from fun j v_ hv => by have h0 := id_range w x j v_ hv; exact (hb2.cell (World.block_lt_of_cell? _ _ h0)).trans h0); clear hb2) | (refine wpList_load_mid rfl 30 (.tmp 4) rfl w.heap.size 0 rfl (x.map (Value.int .u8)) _ (id_range w x) Try.underlying30 rfl (by rw [List.length_map, HX.out]; exact info30) ?_))
  go_quiet (fail)
  go_wp2
  have hu30 := Try.underlying30
  have hi30 : (Try.prog.info? 30).map (·.size) = some (x.map (Value.int .u8)).length := by rw [List.length_map, HX.out]; exact info30
  have hid : w2.rangeAt w.heap.size 0 (x.map (Value.int .u8)) := HID.out
  have HW : Aside0 (Below w.heap.size w (w2.drewN nq) ∧ (w2.drewN nq).rangeAt w.heap.size 0 (x.map (Value.int .u8))) := ⟨⟨pw_below_drewN HB2.out _, HID.out⟩⟩
  have q3 : (w2.drewN nq).cell? ⟨g, 3, none⟩ = some (.slice A es.length cap') := hc3
  have qf3 : (w2.drewN nq).frozen? ⟨g, 3, none⟩ = false := hf3
  clear hc0 hc1 hc2 hc3 hc4 hf2 hf3 HB2 HID hid
  generalize w2.drewN nq = W0 at HW q3 qf3 ⊢
  have q3d : W0.drew.cell? ⟨g, 3, none⟩ = some (.slice A es.length cap') := q3
  have qf3d : W0.drew.frozen? ⟨g, 3, none⟩ = false := qf3
  have hl := run_ld30 W0.drew w.heap.size x HX.out HW.out.2
  have hgn : g ≠ W0.heap.size := fun e => by have := HW.out.1.size; omega
  have qa := fun o => cell_alloc (W := W0) q3 o
  go_region_law (first | (refine step_append_lies _ rfl (.tmp 39) (.tmp 43) 55 rfl 0 59 i0 z0 34 48 Try.underlying55 HI.out.1 HI.out.2.1 HI.out.2.2.1 HI.out.2.2.2.1 HI.out.2.2.2.2 (by omega) _ es.length (entsL es) rfl (own_below HC.out.2.2 (below_alloc (below_drew1 HW.out.1) _)) ⟨W0.heap.size, 0, none⟩ 1 1 (entL x due 0) rfl (entL_len x HX.out _ _) (fun j u hu => World.news_of_block (heap_alloc_new _ _) j u hu) (ent_one x due 0) (by omega) (m63 hn) (m48 hn) (Nat.zero_le _) _ rfl ?_; intro g' cap1 w3 hown hgrow hat hlt3; have r3 := cell_grown (cell_alloc (W := W0.drew) q3 _) hgrow HR.out.1; have rf3 : w3.frozen? ⟨g, 3, none⟩ = false := fro_grown (cell_alloc (W := W0.drew) q3 _) (fro_alloc (W := W0.drew) q3 qf3 _) hgrow HR.out.1))
  all_goals (go_wp2; refine bodyPost_ret (results_tmp rfl _ _ _) rfl ⟨rfl, _, w3, _, below_alloc (below_drew1 HW.out.1) _, hgrow, ?_, ?_, rfl⟩)
  all_goals first | (rw [entsL_append]; exact hown) | skip
  all_goals (rcases hat with h | h; exact .inl h.symm; exact .inr ⟨g', rfl, by rw [h]; exact (below_alloc (below_drew1 HW.out.1) _).size⟩)
theorem own_set {w : World} {base : Nat} {e : TypeId} {size : Nat} {v : Value} {n : Nat} {xs : List Value} (h : w.ownsRow base e size v n xs) {a : Addr} (ha : ∀ k, v.ownBlock = some k → k ≠ a.block) (u : Value) : (w.setCell a u).ownsRow base e size v n xs :=
  own_kept h (fun k hk => Below.heap_setCell _ _ _ _ (ha k hk))
theorem bAt_set2 {w : World} {g : Nat} {cap wait : Int} {missed : Bool} {v : Value} {mb : Nat} (h : BAt w g cap wait missed v mb) (b : Bool) : BAt (w.setCell ⟨g, 2, none⟩ (.bool b)) g cap wait b v mb := by
  have hlt : g < w.heap.size := (Array.getElem?_eq_some_iff.1 h).1
  unfold BAt at h ⊢
  simp [World.setCell, Array.getElem?_modify, h]
theorem bAt_set3 {w : World} {g : Nat} {cap wait : Int} {missed : Bool} {v : Value} {mb : Nat} (h : BAt w g cap wait missed v mb) (u : Value) : BAt (w.setCell ⟨g, 3, none⟩ u) g cap wait missed u mb := by
  have hlt : g < w.heap.size := (Array.getElem?_eq_some_iff.1 h).1
  unfold BAt at h ⊢
  simp [World.setCell, Array.getElem?_modify, h]
end Go.Proofs.Ytbhibodgbgndbaa.B
