/- Texts of this seat, joined: S T U V X Y Bb. No condition but those that each part names. -/
import Derived.Test.YtbhibodgbgndbaaMg2
import Derived.Deep.Slices
/- Later of a backlog, told plainly. No condition. -/
namespace Go.Proofs.Ytbhibodgbgndbaa.B
open Go Go.RowKit Go.Proofs Go.Proofs.YtbhibodgbgndbaaW.PrintWords Go.Proofs.YtbhibodgbgndbaaW.PrintLast Go.Proofs.YtbhibodgbgndbaaW.PrintMore
set_option linter.unusedVariables false
set_option linter.unusedSimpArgs false
attribute [local go_sem ↓] execOp_ld30 execOp_ld59 execOp_st59 execOp_alc59
attribute [local go_sem] run_alc59 run_st59 cell_ent32 cell_ent33 set_ent32 set_ent33 fro_ent at_ent32 at_ent33 put_ent32 put_ent33

theorem ld30_box {w w1 : World} {x : List Int} (hx : x.length = 32) (h : w1.rangeAt w.heap.size 0 (x.map (Value.int .u8))) : (ld30 (.pointer (some ⟨w.heap.size, 0, none⟩))).run Try.prog w1 = .ok (.agg (x.map (Value.int .u8)).toArray) w1 := run_ld30 _ _ x hx h
theorem ld30_new (w : World) (x : List Int) (hx : x.length = 32) : (ld30 (.pointer (some ⟨w.heap.size, 0, none⟩))).run Try.prog (w.alloc (.cells (idC x) 30)) = .ok (.agg (x.map (Value.int .u8)).toArray) (w.alloc (.cells (idC x) 30)) := run_ld30 _ _ x hx (id_range w x)
set_option maxHeartbeats 4000000 in
set_option maxRecDepth 100000 in
theorem later_r1 {w : World} {F : Nat → Prop} {g gm : Nat} {s : St} (h : BL w F g gm s) {x : List Int} (hx : Idok x) (now : Int) (hm : minB now = false) :
    Calls Try.prog 20 #[.pointer (some ⟨g, 0, none⟩), idV x, .int .i64 now] w fun e w' => e = .returned (.int .i64 2) ∧ Below w.heap.size w w' := by
  have HM := Aside0.mk hm
  clear h hm
  unfold idV
  go_enter Try.func20, Try.ntmps20
  go_wp2_with (first | (go_at_call 41; refine (minute_is now _).mono ?_; rintro e_ w1 ⟨rfl, rfl⟩; rw [HM.out]))
  go_ret
  exact ⟨rfl, below_alloc (Below.refl _ _) _⟩
set_option maxHeartbeats 4000000 in
set_option maxRecDepth 100000 in
theorem later_r2 {w : World} {F : Nat → Prop} {g gm : Nat} {s : St} (h : BL w F g gm s) {x : List Int} (hx : Idok x) (now : Int) (hm : minB now = true) (hm2 : minB (now + s.wait) = false) (hw : IntKind.wrap .i64 (now + s.wait) = now + s.wait) :
    Calls Try.prog 20 #[.pointer (some ⟨g, 0, none⟩), idV x, .int .i64 now] w fun e w' => e = .returned (.int .i64 2) ∧ Below w.heap.size w w' := by
  have HM := Aside0.mk (And.intro hm hm2)
  have hu80 := Try.underlying80
  obtain ⟨v, h1, h2, h3⟩ := h.blk
  have hlt : g < w.heap.size := (Array.getElem?_eq_some_iff.1 h1).1
  have hc1 : (w.alloc (.cells (idC x) 30)).cell? ⟨g, 1, none⟩ = some (.int .i64 s.wait) := cell_alloc ((blk_cell h1 1).trans rfl) _
  clear h h1 h2 h3 hm hm2
  unfold idV
  go_enter Try.func20, Try.ntmps20
  go_wp2_with (first | (go_at_call 41; refine (minute_is _ _).mono ?_; rintro e_ w1 ⟨rfl, rfl⟩; (first | rw [HM.out.1] | rw [HM.out.2])))
  go_ret
  exact ⟨rfl, below_alloc (Below.refl _ _) _⟩
set_option maxHeartbeats 4000000 in
set_option maxRecDepth 100000 in
theorem later_no {w : World} {F : Nat → Prop} {g gm : Nat} {s : St} (h : BL w F g gm s) {x : List Int} (hx : Idok x) (now : Int) (hm : minB now = true) (hm2 : minB (now + s.wait) = true) (hw : IntKind.wrap .i64 (now + s.wait) = now + s.wait) (hf : (findS s x true).2 ≠ 0) :
    Calls Try.prog 20 #[.pointer (some ⟨g, 0, none⟩), idV x, .int .i64 now] w fun e w' => e = .returned (.int .i64 (findS s x true).2) ∧ Below w.heap.size w w' := by
  have HM := Aside0.mk (And.intro hm hm2)
  have hu80 := Try.underlying80
  obtain ⟨v, h1, h2, h3⟩ := h.blk
  have hlt : g < w.heap.size := (Array.getElem?_eq_some_iff.1 h1).1
  have hc1 : (w.alloc (.cells (idC x) 30)).cell? ⟨g, 1, none⟩ = some (.int .i64 s.wait) := cell_alloc ((blk_cell h1 1).trans rfl) _
  have hl0 := ld30_new w x hx.1
  have HX := Aside0.mk hx
  have HB := Aside0.mk h
  obtain ⟨q, hq⟩ : ∃ q, q = (findS s x true).2 := ⟨_, rfl⟩
  have HQ := Aside0.mk hq
  rw [← hq] at hf ⊢
  have hd : (q == 0) = false := by simpa using hf
  clear h h1 h2 h3 hm hm2 hx hq hf
  unfold idV
  go_enter Try.func20, Try.ntmps20
  go_wp2_with (first | (go_at_call 41; refine (minute_is _ _).mono ?_; rintro e_ w1 ⟨rfl, rfl⟩; (first | rw [HM.out.1] | rw [HM.out.2])) | (go_at_call 44; refine (find_is (HB.out.below (below_alloc (Below.refl _ _) _)) HX.out true).mono ?_; rintro e_ w1 ⟨rfl, hb1⟩; rw [← HQ.out]; have HW := Aside0.mk ((below_alloc (Below.refl w.heap.size w) (.cells (idC x) 30)).trans (hb1.mono (by simp))); clear hb1))
  go_ret
  exact ⟨rfl, HW.out⟩
set_option maxHeartbeats 8000000 in
set_option maxRecDepth 100000 in
theorem later_yes {w : World} {F : Nat → Prop} {g gm : Nat} {s : St} (h : BL w F g gm s) {x : List Int} (hx : Idok x) (now : Int) (hm : minB now = true) (hm2 : minB (now + s.wait) = true) (hw : IntKind.wrap .i64 (now + s.wait) = now + s.wait) (hf : (findS s x true).2 = 0)
    (i : Nat) (hi : (findS s x true).1 = (i : Int)) (d t : Int) (he : s.es[i]? = some (x, d, t)) :
    Calls Try.prog 20 #[.pointer (some ⟨g, 0, none⟩), idV x, .int .i64 now] w fun e w' => e = .returned (.int .i64 0) ∧ After F g gm w w' { cutE s i x with es := s.es.eraseIdx i ++ [(x, now + s.wait, wrap64 (t + 1))] } := by
  have HM := Aside0.mk (And.intro hm hm2)
  have hu80 := Try.underlying80
  obtain ⟨v, h1, h2, h3⟩ := h.blk
  have hlt : g < w.heap.size := (Array.getElem?_eq_some_iff.1 h1).1
  have hc1 : (w.alloc (.cells (idC x) 30)).cell? ⟨g, 1, none⟩ = some (.int .i64 s.wait) := cell_alloc ((blk_cell h1 1).trans rfl) _
  have hl0 := ld30_new w x hx.1
  have HX := Aside0.mk hx
  have HXL : Aside0 (x.length = 32) := ⟨hx.1⟩
  have HB := Aside0.mk h
  have HF := Aside0.mk (And.intro hf (And.intro hi he))
  have p1 : (0 : Int) ≤ (i : Int) := by omega
  have hil : i < s.es.length := (List.getElem?_eq_some_iff.1 he).1
  have p2 : (i : Int) < (s.es.length : Int) := by omega
  clear h h1 h2 h3 hm hm2 hx hf hi he
  unfold idV
  go_enter Try.func20, Try.ntmps20
  go_wp2_with (first | (go_at_call 41; refine (minute_is _ _).mono ?_; rintro e_ w1 ⟨rfl, rfl⟩; (first | rw [HM.out.1] | rw [HM.out.2])) | (go_at_call 44; refine (find_is (HB.out.below (below_alloc (Below.refl _ _) _)) HX.out true).mono ?_; rintro e_ w1 ⟨rfl, hb1⟩; rw [HF.out.1, HF.out.2.1]; have HW := Aside0.mk ((below_alloc (Below.refl w.heap.size w) (.cells (idC x) 30)).trans (hb1.mono (by simp))); have HB1 := Aside0.mk (HB.out.below HW.out); clear hb1; obtain ⟨v, k1, k2, k3⟩ := HB1.out.blk; obtain ⟨A, gb, cp, rfl, hA, hE⟩ := ents_of_own HB.out.wf.l32 k2; have hA' := hA (by omega); subst hA'; have r1 : w1.cell? ⟨g, 1, none⟩ = some (.int .i64 s.wait) := (blk_cell k1 1).trans rfl; have r3 : w1.cell? ⟨g, 3, none⟩ = some (.slice (some ⟨gb, 0, none⟩) s.es.length cp) := (blk_cell k1 3).trans rfl; have hld := run_ld59 w1 gb (i * 34) x d t HX.out.1 (hE i _ HF.out.2.2); have r1a := fun o => cell_alloc (W := w1) r1 o; clear k1 k2 k3 hA hE) | (go_at_call 43; refine (cutS (HB1.out.below (below_alloc (Below.refl _ _) _)) HF.out.2.2).mono ?_; rintro e_ w2 ⟨rfl, F3, B3, hF3, U3⟩))
  obtain ⟨v3, m1, m2, m3⟩ := B3.blk
  have q3 : w2.cell? ⟨g, 3, none⟩ = some v3 := (blk_cell m1 3).trans rfl
  have q3d : w2.drew.cell? ⟨g, 3, none⟩ = some v3 := q3
  have qf3 : w2.frozen? ⟨g, 3, none⟩ = false := blk_frozen m1 3
  have qf3d : w2.drew.frozen? ⟨g, 3, none⟩ = false := qf3
  have qa := fun o => cell_alloc (W := w2) q3 o
  have hN : w2.heap[w1.heap.size]? = some (.cells (entL x (now + s.wait) (wrap64 (t + 1))).toArray 59 (0, 0)) :=
    (U3.block w1.heap.size (by simp) (fun hk => absurd (HB1.out.lt _ hk) (Nat.lt_irrefl _))).trans (heap_alloc_last w1 _)
  have hld2 := run_ld59 w2.drew w1.heap.size 0 x (now + s.wait) (wrap64 (t + 1)) HX.out.1 (fun j u hu => by
    show w2.cell? _ = _
    rw [Nat.zero_add, cell_of_row w2 _ _ _ 59 (0, 0) hN]; simpa using hu)
  obtain ⟨i0, z0, hi0, hz0, hs0, hb0, hzc0⟩ := info59r
  have HI := Aside0.mk (And.intro hi0 (And.intro hz0 (And.intro hs0 (And.intro hb0 hzc0))))
  have hn : (s.es.eraseIdx i).length ≤ 1000000 := B3.wf.len
  have hrow : some g ≠ v3.ownBlock := fun e => (m3 g e.symm).2.1 rfl
  have HR := Aside0.mk hrow
  have HU := Aside0.mk (And.intro B3 (And.intro hF3 (And.intro U3 (And.intro m1 (And.intro m2 (And.intro m3 hN))))))
  clear hi0 hz0 hs0 hb0 hzc0 hrow B3 hF3 U3 m1 m2 m3 hN
  go_region_law (first | (refine step_append_lies _ rfl (.tmp 61) (.tmp 63) 55 rfl 0 59 i0 z0 34 48 Try.underlying55 HI.out.1 HI.out.2.1 HI.out.2.2.1 HI.out.2.2.2.1 HI.out.2.2.2.2 (by omega) _ (s.es.eraseIdx i).length (entsL (s.es.eraseIdx i)) rfl (own_below HU.out.2.2.2.2.1 (below_alloc (below_drew1 (Below.refl _ _)) _)) ⟨w2.heap.size, 0, none⟩ 1 1 (entL x (now + s.wait) (wrap64 (t + 1))) rfl (entL_len x HX.out.1 _ _) (fun j u hu => World.news_of_block (heap_alloc_new _ _) j u hu) (ent_one x _ _) (by omega) (m63 hn) (m48 hn) (Nat.zero_le _) _ rfl ?_; intro g' cap1 w3 hown hgrow hat hlt3; have r3 := cell_grown (cell_alloc (W := w2.drew) q3 _) hgrow HR.out; have rf3 : w3.frozen? ⟨g, 3, none⟩ = false := fro_grown (cell_alloc (W := w2.drew) q3 _) (fro_alloc (W := w2.drew) q3 qf3 _) hgrow HR.out))
  all_goals (go_wp2; refine bodyPost_ret (results_tmp rfl _ _ _) rfl ⟨rfl, ?_⟩)
  all_goals (
    obtain ⟨B3, hF3, U3, m1, m2, m3, hN⟩ := HU.out
    have hx2 : x ∉ (s.es.eraseIdx i).map (·.1) := fun hxm => by
      obtain ⟨h1, h2⟩ := List.getElem?_eq_some_iff.1 HF.out.2.2
      have hnod := HB.out.wf.nod
      have hmm : (s.es.eraseIdx i).map (·.1) = (s.es.map (·.1)).eraseIdx i := by simp [List.eraseIdx_eq_take_drop_succ]
      rw [hmm] at hxm
      obtain ⟨j, hj, hji, hjx⟩ := List.mem_eraseIdx_iff_getElem.1 hxm
      have hxi : (s.es.map (·.1))[i]'(by simpa using h1) = x := by simp [h2]
      exact hji ((List.getElem_inj hnod).1 (hjx.trans hxi.symm))
    have hW2 := B3.wf.add HX.out hx2 (by have h5 := HB.out.wf.few; have h6 : (s.es.eraseIdx i).length = s.es.length - 1 := List.length_eraseIdx_of_lt hil; simp only [h6]; omega) (now + s.wait) (wrap64 (t + 1))
    have hG := B3.grow m1 m3 (below_alloc (below_drew1 (Below.refl _ _)) _) hgrow (by rw [List.length_append, entsL_append]; exact hown) (by
      rcases hat with h | h
      · exact .inl h.symm
      · exact .inr ⟨g', rfl, by rw [h]; exact (below_alloc (below_drew1 (Below.refl _ _)) _).size⟩) hW2
    exact .preB HW.out (.preB (below_alloc (Below.refl _ _) _) (.pre hF3 U3 hG)))
/-- Later, plainly. -/
def latS (s : St) (x : List Int) (now : Int) : St × Int :=
  if minB now = false ∨ minB (now + s.wait) = false then (s, 2)
  else if (findS s x true).2 = 0 then
    ({ cutE s (idxOf s.es x).toNat x with es := s.es.eraseIdx (idxOf s.es x).toNat ++ [(x, now + s.wait, wrap64 ((s.es.getD (idxOf s.es x).toNat ([], 0, 0)).2.2 + 1))] }, 0)
  else (s, (findS s x true).2)
theorem later_is {w : World} {F : Nat → Prop} {g gm : Nat} {s : St} (h : BL w F g gm s) {x : List Int} (hx : Idok x) (now : Int) :
    Calls Try.prog 20 #[.pointer (some ⟨g, 0, none⟩), idV x, .int .i64 now] w fun e w' => e = .returned (.int .i64 (latS s x now).2) ∧ After F g gm w w' (latS s x now).1 := by
  unfold latS
  by_cases hm : minB now = false
  · rw [if_pos (.inl hm)]
    exact (later_r1 h hx now hm).mono fun e w' ⟨he, hb⟩ => ⟨he, .same h hb⟩
  have hm' : minB now = true := by simpa using hm
  have hw : IntKind.wrap .i64 (now + s.wait) = now + s.wait := by
    have h1 := h.wf.wait1
    have h2 := h.wf.wait2
    simp [minB] at hm'
    exact wrap_i64 _ (by omega) (by omega)
  by_cases hm2 : minB (now + s.wait) = false
  · rw [if_pos (.inr hm2)]
    exact (later_r2 h hx now hm' hm2 hw).mono fun e w' ⟨he, hb⟩ => ⟨he, .same h hb⟩
  rw [if_neg (by simp [hm, hm2])]
  have hm2' : minB (now + s.wait) = true := by simpa using hm2
  by_cases hf : (findS s x true).2 = 0
  · rw [if_pos hf]
    obtain ⟨i, ⟨y, d, t⟩, h1, h2, rfl, h4⟩ := find_at hf
    rw [h4]
    have h5 : s.es.getD i ([], 0, 0) = (y, d, t) := by simp [List.getD_eq_getElem?_getD, h2]
    rw [h5]
    exact later_yes h hx now hm' hm2' hw hf i h1 d t h2
  · rw [if_neg hf]
    exact (later_no h hx now hm' hm2' hw hf).mono fun e w' ⟨he, hb⟩ => ⟨he, .same h hb⟩
end Go.Proofs.Ytbhibodgbgndbaa.B
/- Next of a backlog, told plainly. No condition. -/
namespace Go.Proofs.Ytbhibodgbgndbaa.B
open Go Go.RowKit Go.Proofs Go.Proofs.YtbhibodgbgndbaaW.PrintWords Go.Proofs.YtbhibodgbgndbaaW.PrintLast Go.Proofs.YtbhibodgbgndbaaW.PrintMore
set_option linter.unusedVariables false
set_option linter.unusedSimpArgs false
attribute [local go_sem ↓] execOp_ld30 execOp_ld59 execOp_st59 execOp_alc59
attribute [local go_sem] run_alc59 run_st59 cell_ent32 cell_ent33 set_ent32 set_ent33 fro_ent at_ent32 at_ent33 put_ent32 put_ent33

/-- The cells of identities. -/
def idsL (l : List (List Int)) : List Value := l.flatMap fun x => x.map (Value.int .u8)
theorem idsL_append (l : List (List Int)) (x : List Int) : idsL (l ++ [x]) = idsL l ++ x.map (Value.int .u8) := by simp [idsL]
theorem id_one (x : List Int) : ∀ u ∈ x.map (Value.int .u8), u.oneCell' = true := by
  intro u hu
  obtain ⟨z, _, rfl⟩ := List.mem_map.1 hu
  rfl
def zeros32 : List Value := List.replicate 32 (.int .u8 0)
theorem zero30 : ((Try.prog.info? 30).bind (·.zero)).map (·.cells) = some zeros32.toArray := by kernel_rfl
theorem info30r : ∃ i z, Try.prog.info? 30 = some i ∧ i.zero = some z ∧ i.size = 32 ∧ i.bytes = 32 ∧ z.cells.size = 32 := by
  have h : (Try.prog.info? 30).map (fun i => (i.size, i.bytes)) = some (32, 32) := by kernel_rfl
  obtain ⟨v, h1, h2⟩ := Option.map_eq_some_iff.1 zero30
  obtain ⟨it, h3, h4⟩ := Option.bind_eq_some_iff.1 h1
  rw [h3] at h
  simp at h
  exact ⟨it, v, h3, h4, h.1, h.2, by rw [h2]; rfl⟩
theorem run_buildIds (c : List Value) (hc : c.length = 32) (W : World) : (Instr.buildSlice 40 1 #[(0, .agg c.toArray)]).run Try.prog W = .ok (.slice (some ⟨W.heap.size, 0, none⟩) 1 1) (W.alloc (.cells c.toArray 30)) := by
  obtain ⟨v, h1, h2⟩ := Option.map_eq_some_iff.1 zero30
  obtain ⟨it, h3, h4⟩ := Option.bind_eq_some_iff.1 h1
  have hz : it.size = 32 := by have := info30; rw [h3] at this; simpa using this
  refine run_buildSlice W 40 30 1 _ _ it v Try.underlying40 h3 h4 (by rw [hz]; omega) (by rw [hz]; omega) ?_
  rw [hz]
  have e0 : ((Array.range (1 * 32)).map (v.cells[· % v.cells.size]!)) = ([] ++ zeros32 ++ []).toArray := by rw [h2]; kernel_rfl
  rw [e0]
  show Instr.fill (fun i => some (i * 32, 32)) _ [(0, .agg c.toArray)] = _
  rw [fill_step _ [] zeros32 [] 0 _ _ rfl (by simp [Value.cells, hc]; rfl)]
  simp [Instr.fill, Value.cells]
def bldI (a : Value) : Sem Value := Instr.buildSlice 40 1 #[(0, a)]
@[go_sem ↓] theorem execOp_bldI (ρ : Operand → Value) (dst : Option Tmp) (p : Operand) (ty : TypeId) (pos : String) (after : Array Edge) (guard : Option (Nat × Bool)) :
    execOp ρ { dst, op := .buildSlice 40 1 #[(0, p)], type := ty, pos, after, guard } = (do pure (.value (← bldI (ρ p)))) := by simp [execOp, bldI]
@[go_sem] theorem run_bldI (x : List Int) (W : World) (hx : Aside0 (x.length = 32)) : (bldI (.agg (x.map (Value.int .u8)).toArray)).run Try.prog W = .ok (.slice (some ⟨W.heap.size, 0, none⟩) 1 1) (W.alloc (.cells (x.map (Value.int .u8)).toArray 30)) := run_buildIds _ (by simpa using hx.out) W
theorem m32 {n : Nat} (h : n ≤ 1000000) : (n + 1) * 32 ≤ 140737488355328 := by omega

def nextG (out : List (List Int)) (now most : Int) : List Ent → List (List Int) → List (List Int)
  | [], acc => acc
  | e :: es, acc => if most ≤ (acc.length : Int) then acc else if e.2.1 ≤ now ∧ e.1 ∉ out then nextG out now most es (acc ++ [e.1]) else nextG out now most es acc
set_option maxHeartbeats 8000000 in
set_option maxRecDepth 100000 in
theorem next_is {w : World} {F : Nat → Prop} {g gm : Nat} {s : St} (h : BL w F g gm s) (now most : Int) :
    Calls Try.prog 22 #[.pointer (some ⟨g, 0, none⟩), .int .i64 now, .int .i64 most] w fun e w' => ∃ v', e = .returned v' ∧ w'.ownsRow w.heap.size 30 32 v' (nextG s.out now most s.es []).length (idsL (nextG s.out now most s.es [])) ∧ Below w.heap.size w w' := by
  have hu80 := Try.underlying80
  obtain ⟨v, k1, k2, k3⟩ := h.blk
  obtain ⟨A, gb, cp, rfl, hA, hE⟩ := ents_of_own h.wf.l32 k2
  have hc3 : w.cell? ⟨g, 3, none⟩ = some (.slice A s.es.length cp) := (blk_cell k1 3).trans rfl
  have HC4 := Aside0.mk (show w.cell? ⟨g, 4, none⟩ = some (.map (some gm)) from (blk_cell k1 4).trans rfl)
  obtain ⟨i0, z0, hi0, hz0, hs0, hb0, hzc0⟩ := info30r
  have HI := Aside0.mk (And.intro hi0 (And.intro hz0 (And.intro hs0 (And.intro hb0 hzc0))))
  have HB := Aside0.mk (And.intro h (And.intro hA hE))
  have hn := h.wf.len
  clear h k1 k2 k3 hA hE hi0 hz0 hs0 hb0 hzc0
  go_enter Try.func22, Try.ntmps22
  go_wp2
  go_loopw [7, 18] (fun p7 p18 wr => ∃ (i : Nat) (acc : List (List Int)), p18 = .int .i64 i ∧ Aside0 (i ≤ s.es.length ∧ nextG s.out now most s.es [] = nextG s.out now most (s.es.drop i) acc ∧ acc.length ≤ i) ∧ Aside0 (Below w.heap.size w wr) ∧ Aside0 (wr.ownsRow w.heap.size 30 32 p7 acc.length (idsL acc)))
    (fun _ p18 _ => s.es.length - (intOf p18).toNat)
  case atStart => exact ⟨0, [], rfl, ⟨Nat.zero_le _, rfl, Nat.le_refl _⟩, ⟨Below.refl _ _⟩, ⟨World.ownsRow_nil _ _ _ _⟩⟩
  case round =>
    obtain ⟨i, acc, rfl, HD, HW, HO⟩ := hrel
    by_cases hi : i < s.es.length
    · obtain ⟨⟨x, d, t⟩, he⟩ : ∃ e, s.es[i]? = some e := ⟨_, List.getElem?_eq_getElem hi⟩
      have hA2 := HB.out.2.1 (by omega)
      subst hA2
      have hx := HB.out.1.wf.ids _ (List.mem_of_getElem? he)
      have HX := Aside0.mk hx
      have HXL : Aside0 (x.length = 32) := ⟨hx.1⟩
      have hE := HB.out.2.2 i _ he
      have hld := run_ld59 wr gb (i * 34) x d t hx.1 (fun j u hu => by
        have := hE j u hu
        exact (HW.out.cell (World.block_lt_of_cell? _ _ this)).trans this)
      have HEI := Aside0.mk he
      obtain ⟨A7, c7, hv7⟩ : ∃ A7 c7, u7 = .slice A7 acc.length c7 := by
        rcases HO.out.2 with ⟨h1, h2⟩ | ⟨g7, c7, _, h1, _⟩
        · exact ⟨none, 0, by rw [h1, h2]⟩
        · exact ⟨_, c7, h1⟩
      subst hv7
      have HW8 := Aside0.mk (below_alloc HW.out (.cells (entL x d t).toArray 59))
      obtain ⟨W8, hW8⟩ : ∃ W8, W8 = wr.alloc (.cells (entL x d t).toArray 59) := ⟨_, rfl⟩
      have hlk0 : ∀ n, (look78 (.map (some gm)) (.agg (x.map (Value.int .u8)).toArray)).run Try.prog ((wr.alloc (.cells (entL x d t).toArray 59)).drewN n) = .ok (.bool (decide (x ∈ s.out))) ((wr.alloc (.cells (entL x d t).toArray 59)).drewN n) := fun n => (HB.out.1.below (HW8.out.trans (drewN_mk _ n |>.mono HW8.out.size))).map.look HX.out
      have hl30 : ∀ n, (ld30 (.pointer (some ⟨wr.heap.size, 0, none⟩))).run Try.prog ((wr.alloc (.cells (entL x d t).toArray 59)).drewN n) = .ok (.agg (x.map (Value.int .u8)).toArray) ((wr.alloc (.cells (entL x d t).toArray 59)).drewN n) := fun n => run_ld30 _ _ x HX.out.1 (ent_range wr x d t)
      have hl30b : (ld30 (.pointer (some ⟨wr.heap.size, 0, none⟩))).run Try.prog (wr.alloc (.cells (entL x d t).toArray 59)) = .ok (.agg (x.map (Value.int .u8)).toArray) (wr.alloc (.cells (entL x d t).toArray 59)) := run_ld30 _ _ x HX.out.1 (ent_range wr x d t)
      have hc4 : (wr.alloc (.cells (entL x d t).toArray 59)).cell? ⟨g, 4, none⟩ = some (.map (some gm)) := cell_alloc ((HW.out.cell (World.block_lt_of_cell? _ _ HC4.out)).trans HC4.out) _
      clear hx hE he hW8
      by_cases hm : most ≤ (acc.length : Int)
      · have hd1 : decide ((acc.length : Int) ≥ most) = true := decide_eq_true hm
        have HM := Aside0.mk hm
        clear hlk0 hm
        go_wp2
        go_ret
        refine ⟨_, rfl, ?_, below_alloc HW.out _⟩
        have h1 := HD.out.2.1
        rw [drop_at HEI.out, nextG, if_pos HM.out] at h1
        rw [h1]
        exact HO.out.alloc _
      · have hd1 : decide ((acc.length : Int) ≥ most) = false := decide_eq_false (by omega)
        have HM := Aside0.mk hm
        by_cases hdn : d ≤ now
        · have hd2 : decide (d ≤ now) = true := decide_eq_true hdn
          have HDN := Aside0.mk hdn
          by_cases hr : x ∈ s.out
          · rw [decide_eq_true hr] at hlk0
            have HR := Aside0.mk hr
            clear hm hdn hr
            go_wp2
            go_quiet (fail)
            go_wp2
            go_roundw
            case rel =>
              refine ⟨i + 1, acc, by go_num, ⟨by omega, ?_, by have := HD.out.2.2; omega⟩, ⟨pw_below_drewN (below_alloc HW.out _) _⟩, ⟨(HO.out.alloc _).kept (row := none) ⟨rfl, rfl, rfl, Nat.le_refl _, fun _ _ _ => rfl⟩ (by cases A7 <;> simp [Value.ownBlock])⟩⟩
              have h1 := HD.out.2.1
              rw [drop_at HEI.out, nextG, if_neg (Int.not_le.2 HM.out), if_neg (fun h => h.2 HR.out)] at h1
              exact h1
            case measure => simp [intOf]; omega
          · rw [decide_eq_false hr] at hlk0
            have HR := Aside0.mk hr
            clear hm hdn hr
            go_wp2
            go_quiet (fail)
            go_wp2_with (at_builtin; refine wpList_append_lies _ rfl (.tmp 40) (.tmp 43) 40 rfl w.heap.size 30 i0 z0 32 32 Try.underlying40 HI.out.1 HI.out.2.1 HI.out.2.2.1 HI.out.2.2.2.1 HI.out.2.2.2.2 (by omega) _ acc.length (idsL acc) rfl ?qo ⟨wr.heap.size + 1, 0, none⟩ 1 1 (x.map (Value.int .u8)) rfl ?ql ?qn (id_one x) (by omega) ?q6 ?q3 ?qb _ rfl ?_)
            case qo => exact own_below HO.out (below_alloc (pw_below_drewN (below_alloc (Below.refl _ _) _) _) _)
            case ql => rw [List.length_map, HX.out.1]
            case qn =>
              intro j u hu
              have hbk := heap_alloc_new ((wr.alloc (.cells (entL x d t).toArray 59)).drewN nq) (.cells (x.map (Value.int .u8)).toArray 30)
              refine World.news_of_block (cs := (x.map (Value.int .u8)).toArray) (t := 30) (fr := (0, 0)) ?_ j u hu
              simpa using hbk
            case q6 => exact m63 (by have := HD.out.2.2; omega)
            case q3 => exact m32 (by have := HD.out.2.2; omega)
            case qb => have := HW.out.size; simp; omega
            intro g' cap1 w3 hown hgrow hat hlt3
            go_wp2
            go_roundw
            case rel =>
              refine ⟨i + 1, acc ++ [x], by go_num, ⟨by omega, ?_, by have := HD.out.2.2; simp; omega⟩, ⟨?_⟩, ⟨?_⟩⟩
              · have h1 := HD.out.2.1
                rw [drop_at HEI.out, nextG, if_neg (Int.not_le.2 HM.out), if_pos ⟨HDN.out, HR.out⟩] at h1
                exact h1
              · exact (below_alloc (pw_below_drewN (below_alloc HW.out _) _) _).grown hgrow (by have := HW.out.size; simp; omega) (fun k hk => (HO.out.lt k hk).1)
              · rw [List.length_append, idsL_append]; exact hown
            case measure => simp [intOf]; omega
        · have hd2 : decide (d ≤ now) = false := decide_eq_false hdn
          have HDN := Aside0.mk hdn
          clear hlk0 hm hdn
          go_wp2
          go_quiet (fail)
          go_wp2
          go_roundw
          case rel =>
            refine ⟨i + 1, acc, by go_num, ⟨by omega, ?_, by have := HD.out.2.2; omega⟩, ⟨pw_below_drewN (below_alloc HW.out _) _⟩, ⟨(HO.out.alloc _).kept (row := none) ⟨rfl, rfl, rfl, Nat.le_refl _, fun _ _ _ => rfl⟩ (by cases A7 <;> simp [Value.ownBlock])⟩⟩
            have h1 := HD.out.2.1
            rw [drop_at HEI.out, nextG, if_neg (Int.not_le.2 HM.out), if_neg (fun h => by have h0 : d ≤ now := h.1; have := HDN.out; omega)] at h1
            exact h1
          case measure => simp [intOf]; omega
    · have hle := HD.out.1
      go_wp2
      go_ret
      refine ⟨_, rfl, ?_, HW.out⟩
      have h1 := HD.out.2.1
      rw [List.drop_eq_nil_of_le (by omega)] at h1
      rw [h1]
      exact HO.out
end Go.Proofs.Ytbhibodgbgndbaa.B
/- The operations that a law is given ([]Op), read out of memory. No condition. -/
namespace Go.Proofs.Ytbhibodgbgndbaa.B
open Go Go.RowKit Go.Proofs Go.Proofs.YtbhibodgbgndbaaW.PrintWords Go.Proofs.YtbhibodgbgndbaaW.PrintLast Go.Proofs.YtbhibodgbgndbaaW.PrintMore
set_option linter.unusedVariables false
set_option linter.unusedSimpArgs false

structure OpV where
  kind : Int
  id : List Int
  now : Int
  most : Int
  ids : List (List Int)
instance : Inhabited OpV := ⟨⟨0, [], 0, 0, []⟩⟩
structure OpAt (W : World) (ad : Addr) (o : OpV) : Prop where
  kind : W.cell? ad = some (.int .i64 o.kind)
  idok : Idok o.id
  id : W.rangeAt ad.block (ad.off + 1) (o.id.map (Value.int .u8))
  now : W.cell? ⟨ad.block, ad.off + 33, none⟩ = some (.int .i64 o.now)
  most : W.cell? ⟨ad.block, ad.off + 34, none⟩ = some (.int .i64 o.most)
  wfk : (Lit.int .i64 o.kind).wf = true ∧ (Lit.int .i64 o.now).wf = true ∧ (Lit.int .i64 o.most).wf = true
  idsok : ∀ x ∈ o.ids, Idok x
  idsn : o.ids.length ≤ maxLen
  ids : ∃ A C, W.cell? ⟨ad.block, ad.off + 35, none⟩ = some (.slice A o.ids.length C) ∧ o.ids.length ≤ C ∧ (A = none → C = 0) ∧ ∀ (i : Nat) (x : List Int), o.ids[i]? = some x → ∃ a, A = some a ∧ ∀ j u, (x.map (Value.int .u8))[j]? = some u → W.cell? (a.add (i * 32 + j)) = some u
def OpsAt (W : World) (A : Option Addr) (l : List OpV) : Prop := ∀ i o, l[i]? = some o → ∃ a, A = some a ∧ OpAt W (a.add (i * 36)) o

section
variable {P : Program} {H : Type} {enc : TypeId × Value → H} {w : World} {base : Nat} {spare : Nat → Bool} {held : Bool}
theorem mapM_get {α β : Type} {f : α → Option β} : ∀ {l : List α} {r : List β}, l.mapM f = some r → ∀ (i : Nat) (a : α), l[i]? = some a → ∃ b, f a = some b
  | [], _, _, i, a, h => by simp at h
  | c :: l, r, h, i, a, hi => by
    rw [List.mapM_cons] at h
    obtain ⟨b, h1, h2⟩ := Option.bind_eq_some_iff.1 h
    obtain ⟨bs, h3, h4⟩ := Option.bind_eq_some_iff.1 h2
    cases i with
    | zero => simp at hi; subst hi; exact ⟨b, h1⟩
    | succ i => exact mapM_get h3 i a (by simpa using hi)
theorem open_int1 {t : TypeId} {k : IntKind} {fuel : Nat} {cs : List Value} {x : DataW H × List MemPlace} (ht : P.underlying t = some (.int k)) (hc : cs.length = 1) (h : DataW.trod enc P w base spare held fuel t cs = some x) :
    ∃ z, cs = [.int k z] ∧ (Lit.int k z).wf = true := by
  cases fuel with
  | zero => simp [DataW.trod] at h
  | succ n =>
    match cs, hc with
    | [v], _ =>
      unfold DataW.trod at h
      rw [ht] at h
      cases v <;> simp at h
      obtain ⟨⟨rfl, h1⟩, _⟩ := h
      exact ⟨_, rfl, h1⟩
theorem open_id (u29 : P.underlying 29 = some (.array 32 5)) (u5 : P.underlying 5 = some (.int .u8)) (c29 : P.cellsOf 29 = 32) (c5 : P.cellsOf 5 = 1) {fuel : Nat} {cs : List Value} {x : DataW H × List MemPlace} (h : DataW.trod enc P w base spare held fuel 29 cs = some x) : ∃ z : List Int, cs = z.map (Value.int .u8) ∧ Idok z := by
  cases fuel with
  | zero => simp [DataW.trod] at h
  | succ n =>
    unfold DataW.trod at h
    rw [u29] at h
    simp only [c29, c5] at h
    by_cases hl : cs.length = 32
    · rw [if_pos hl] at h
      obtain ⟨r, hr, _⟩ := Option.map_eq_some_iff.1 h
      have hz : ∀ i, i < 32 → ∃ z : Int, cs[i]? = some (.int .u8 z) ∧ (Lit.int .u8 z).wf = true := fun i hi => by
        obtain ⟨b, hb⟩ := mapM_get hr i i (by simp [hi])
        have e : (cs.drop (i * 1)).take 1 = [cs[i]'(by omega)] := by
          rw [Nat.mul_one, List.drop_eq_getElem_cons (by omega), List.take_succ_cons, List.take_zero]
        rw [e] at hb
        obtain ⟨z, h1, h2⟩ := open_int1 u5 rfl hb
        exact ⟨z, by rw [List.getElem?_eq_getElem (by omega)]; simpa using h1, h2⟩
      obtain ⟨f, hf⟩ := Go.Deep.choose_lt hz
      refine ⟨(List.range 32).map f, ?_, by simp, fun z hz => ?_⟩
      · apply List.ext_getElem?
        intro i
        by_cases hi : i < 32
        · rw [(hf i hi).1]; simp [hi]
        · rw [List.getElem?_eq_none (by omega), List.getElem?_eq_none (by simp; omega)]
      · obtain ⟨i, hi, rfl⟩ := List.mem_map.1 hz
        exact (hf i (List.mem_range.1 hi)).2
    · rw [if_neg hl] at h; simp at h
theorem open_ids (u29 : P.underlying 29 = some (.array 32 5)) (u5 : P.underlying 5 = some (.int .u8)) (c29 : P.cellsOf 29 = 32) (c5 : P.cellsOf 5 = 1) (u31 : P.underlying 31 = some (.slice 29)) {fuel : Nat} {cs : List Value} {x : DataW H × List MemPlace} (h : DataW.trod enc P w base spare held fuel 31 cs = some x) : ∃ (A : Option Addr) (C : Nat) (l : List (List Int)), cs = [.slice A l.length C] ∧ l.length ≤ C ∧ C ≤ maxLen ∧ (A = none → C = 0) ∧ (∀ x ∈ l, Idok x) ∧
    ∀ (i : Nat) (x : List Int), l[i]? = some x → ∃ a, A = some a ∧ ∀ j u, (x.map (Value.int .u8))[j]? = some u → w.cell? (a.add (i * 32 + j)) = some u := by
  rcases Go.Deep.open_slice u31 h with ⟨rfl, _⟩ | ⟨a, len, cap, m, n, D, Pl, rfl, hb, hl, hm, hmm, _, hx⟩
  · exact ⟨none, 0, [], rfl, Nat.le_refl _, Nat.zero_le _, fun _ => rfl, by simp, by simp⟩
  · have hle : len ≤ m := by rw [hmm]; split <;> omega
    obtain ⟨f, hf⟩ := Go.Deep.choose_lt (n := len) (p := fun i (z : List Int) => Idok z ∧ w.cells? base (a.add (i * 32)) 32 = some (z.map (Value.int .u8))) (fun i hi => by
      obtain ⟨cs', h1, h2⟩ := hx i (by omega)
      obtain ⟨z, rfl, hz⟩ := open_id u29 u5 c29 c5 h2
      exact ⟨z, hz, by rw [c29] at h1; exact h1⟩)
    refine ⟨some a, cap, (List.range len).map f, by simp, by simpa using hl, hm, by simp, fun x hx => ?_, fun i x hi => ⟨a, rfl, fun j u hu => ?_⟩⟩
    · obtain ⟨i, hi, rfl⟩ := List.mem_map.1 hx
      exact (hf i (List.mem_range.1 hi)).1
    · have hil := (List.getElem?_eq_some_iff.1 hi).1
      simp at hil
      have hxe : f i = x := by simpa [hil] using hi
      subst hxe
      obtain ⟨_, h2, h3⟩ := World.cells?_some (hf i hil).2
      have hj := (List.getElem?_eq_some_iff.1 hu).1
      have := h3 j (by omega)
      rw [Go.Deep.add_add] at this
      rw [this]; exact hu
theorem open_op (u29 : P.underlying 29 = some (.array 32 5)) (u5 : P.underlying 5 = some (.int .u8)) (c29 : P.cellsOf 29 = 32) (c5 : P.cellsOf 5 = 1) (u31 : P.underlying 31 = some (.slice 29)) {fs : Array Field} (u33 : P.underlying 33 = some (.struct fs)) (hfs : fs.toList.map (fun f => (f.type, f.offset)) = [(3, 0), (29, 1), (3, 33), (3, 34), (31, 35)]) (u3 : P.underlying 3 = some (.int .i64)) (c3 : P.cellsOf 3 = 1) (c31 : P.cellsOf 31 = 1) (c33 : P.cellsOf 33 = 36) {fuel : Nat} {ad : Addr} {cs : List Value} {x : DataW H × List MemPlace} (hc : w.cells? base ad 36 = some cs) (h : DataW.trod enc P w base spare held fuel 33 cs = some x) : ∃ o, OpAt w ad o := by
  obtain ⟨_, hl, hcell⟩ := World.cells?_some hc
  cases fuel with
  | zero => simp [DataW.trod] at h
  | succ n =>
    unfold DataW.trod at h
    rw [u33] at h
    simp only [c33] at h
    rw [if_pos hl] at h
    obtain ⟨r, hr, _⟩ := Option.map_eq_some_iff.1 h
    have fld : ∀ (i : Nat) (t o : Nat), (fs.toList.map (fun f => (f.type, f.offset)))[i]? = some (t, o) → ∃ b, DataW.trod enc P w base spare held n t ((cs.drop o).take (P.cellsOf t)) = some b := fun i t o hi => by
      rw [List.getElem?_map] at hi
      obtain ⟨f, hf, e⟩ := Option.map_eq_some_iff.1 hi
      cases e
      exact mapM_get hr i f hf
    rw [hfs] at fld
    obtain ⟨b0, g0⟩ := fld 0 3 0 rfl
    obtain ⟨b1, g1⟩ := fld 1 29 1 rfl
    obtain ⟨b2, g2⟩ := fld 2 3 33 rfl
    obtain ⟨b3, g3⟩ := fld 3 3 34 rfl
    obtain ⟨b4, g4⟩ := fld 4 31 35 rfl
    rw [c3] at g0 g2 g3
    rw [c29] at g1
    rw [c31] at g4
    obtain ⟨z0, e0, w0⟩ := open_int1 u3 (by simp [hl]) g0
    obtain ⟨z1, e1, w1⟩ := open_id u29 u5 c29 c5 g1
    obtain ⟨z2, e2, w2⟩ := open_int1 u3 (by simp [hl]) g2
    obtain ⟨z3, e3, w3⟩ := open_int1 u3 (by simp [hl]) g3
    obtain ⟨A, C, l, e4, hlc, hcm, hA, hid, hcl⟩ := open_ids u29 u5 c29 c5 u31 g4
    have one : ∀ (k : Nat) (v : Value), (cs.drop k).take 1 = [v] → cs[k]? = some v := fun k v h => by
      have := congrArg (fun l => l[0]?) h
      simpa using this
    have a0 : ∀ k, k ≠ 0 → ad.add k = ⟨ad.block, ad.off + k, none⟩ := fun k hk => by unfold Addr.add; rw [if_neg hk]
    have a00 : ad.add 0 = ad := by unfold Addr.add; rw [if_pos rfl]
    refine ⟨⟨z0, z1, z2, z3, l⟩, ?_, w1, fun j v hv => ?_, ?_, ?_, ⟨w0, w2, w3⟩, hid, Nat.le_trans hlc hcm, A, C, ?_, hlc, hA, hcl⟩
    · have := hcell 0 (by omega)
      rw [a00] at this
      rw [this]; exact one 0 _ e0
    · have hj := (List.getElem?_eq_some_iff.1 hv).1
      rw [List.length_map, w1.1] at hj
      have := hcell (1 + j) (by omega)
      rw [a0 _ (by omega), ← Nat.add_assoc] at this
      rw [this]
      rw [← e1, List.getElem?_take_of_lt (by omega), List.getElem?_drop] at hv
      exact hv
    · have := hcell 33 (by omega)
      rw [a0 _ (by omega)] at this
      rw [this]; exact one 33 _ e2
    · have := hcell 34 (by omega)
      rw [a0 _ (by omega)] at this
      rw [this]; exact one 34 _ e3
    · have := hcell 35 (by omega)
      rw [a0 _ (by omega)] at this
      rw [this]; exact one 35 _ e4
theorem cells5' : Try.prog.cellsOf 5 = 1 := by kernel_rfl
theorem cells29 : Try.prog.cellsOf 29 = 32 := by kernel_rfl
theorem cells33 : Try.prog.cellsOf 33 = 36 := by kernel_rfl
theorem cells3 : Try.prog.cellsOf 3 = 1 := by kernel_rfl
theorem cells31 : Try.prog.cellsOf 31 = 1 := by kernel_rfl
/-- The argument of type []Op, opened. -/
theorem open_ops {fuel : Nat} {cs : List Value} {x : DataW H × List MemPlace} (h : DataW.trod enc Try.prog w base spare held fuel 22 cs = some x) : ∃ (A : Option Addr) (C : Nat) (l : List OpV), cs = [.slice A l.length C] ∧ l.length ≤ maxLen ∧ OpsAt w A l := by
  rcases Go.Deep.open_slice Try.underlying22 h with ⟨rfl, _⟩ | ⟨a, len, cap, m, n, D, Pl, rfl, hb, hl, hm, hmm, _, hx⟩
  · exact ⟨none, 0, [], rfl, Nat.zero_le _, fun i o hi => by simp at hi⟩
  · have hle : len ≤ m := by rw [hmm]; split <;> omega
    obtain ⟨f, hf⟩ := Go.Deep.choose_lt (n := len) (p := fun i (o : OpV) => OpAt w (a.add (i * 36)) o) (fun i hi => by
      obtain ⟨cs', h1, h2⟩ := hx i (by omega)
      rw [cells33] at h1
      exact open_op Try.underlying29 Try.underlying5 cells29 cells5' Try.underlying31 Try.underlying33 (by kernel_rfl) Try.underlying3 cells3 cells31 cells33 h1 h2)
    refine ⟨some a, cap, (List.range len).map f, by simp, by simp; omega, fun i o hi => ⟨a, rfl, ?_⟩⟩
    have hil := (List.getElem?_eq_some_iff.1 hi).1
    simp at hil
    have hxe : f i = o := by simpa [hil] using hi
    subst hxe
    exact hf i hil
end
theorem OpAt.below {B : Nat} {w w' : World} {ad : Addr} {o : OpV} (h : OpAt w ad o) (hb : Below w.heap.size w w') : OpAt w' ad o := by
  have c : ∀ {a : Addr} {v : Value}, w.cell? a = some v → w'.cell? a = some v := fun h0 => (hb.cell (World.block_lt_of_cell? _ _ h0)).trans h0
  obtain ⟨A, C, h1, h2, h3, h4⟩ := h.ids
  exact ⟨c h.kind, h.idok, fun j v hv => c (h.id j v hv), c h.now, c h.most, h.wfk, h.idsok, h.idsn, A, C, c h1, h2, h3, fun i x hi => by
    obtain ⟨a, e, k⟩ := h4 i x hi
    exact ⟨a, e, fun j u hu => c (k j u hu)⟩⟩
theorem OpsAt.below {w w' : World} {A : Option Addr} {l : List OpV} (h : OpsAt w A l) (hb : Below w.heap.size w w') : OpsAt w' A l := fun i o hi => by
  obtain ⟨a, e, k⟩ := h i o hi
  exact ⟨a, e, k.below (B := 0) hb⟩
end Go.Proofs.Ytbhibodgbgndbaa.B
/- The law's small and known. No condition. -/
namespace Go.Proofs.Ytbhibodgbgndbaa.B
open Go Go.RowKit Go.Proofs Go.Proofs.YtbhibodgbgndbaaW.PrintWords Go.Proofs.YtbhibodgbgndbaaW.PrintLast Go.Proofs.YtbhibodgbgndbaaW.PrintMore
set_option linter.unusedVariables false
set_option linter.unusedSimpArgs false

def smallB (l : List OpV) : Bool := l.all (fun o => decide (o.ids.length ≤ 20)) && decide (l.length ≤ 40)
theorem drop_at' {α : Type} {es : List α} {i : Nat} {e : α} (h : es[i]? = some e) : es.drop i = e :: es.drop (i + 1) := by
  obtain ⟨hi, rfl⟩ := List.getElem?_eq_some_iff.1 h
  exact List.drop_eq_getElem_cons hi
set_option maxHeartbeats 4000000 in
set_option maxRecDepth 100000 in
theorem small_is (A : Option Addr) (C : Nat) (l : List OpV) (hl : l.length ≤ maxLen) (w : World) (h : OpsAt w A l) :
    Calls Try.prog 11 #[.slice A l.length C] w fun e w' => e = .returned (.bool (smallB l)) ∧ w' = w := by
  have hu33 := Try.underlying33
  have HO := Aside0.mk h
  have hm : l.length ≤ 9223372036854775807 := by simpa [maxLen] using hl
  clear h hl
  go_enter Try.func11, Try.ntmps11
  go_wp2
  go_loopw [3] (fun p3 wr => ∃ (i : Nat), p3 = .int .i64 i ∧ Aside0 (i ≤ l.length ∧ smallB l = ((l.drop i).all (fun o => decide (o.ids.length ≤ 20)) && decide (l.length ≤ 40))) ∧ wr = w)
    (fun p3 _ => l.length - (intOf p3).toNat)
  case atStart => exact ⟨0, rfl, ⟨Nat.zero_le _, rfl⟩, rfl⟩
  case round =>
    obtain ⟨i, rfl, HD, rfl⟩ := hrel
    by_cases hi : i < l.length
    · obtain ⟨o, he⟩ : ∃ o, l[i]? = some o := ⟨_, List.getElem?_eq_getElem hi⟩
      obtain ⟨a, rfl, hO⟩ := HO.out i o he
      obtain ⟨A5, C5, hc, _⟩ := hO.ids
      have HEI := Aside0.mk he
      have p1 : (0 : Int) ≤ (i : Int) := by omega
      have p2 : (i : Int) < (l.length : Int) := by omega
      have p3 := wrap_i64 ((i : Int) + 1) (by omega) (by omega)
      clear he hO
      by_cases hs : o.ids.length ≤ 20
      · have hd : decide ((o.ids.length : Int) > 20) = false := decide_eq_false (by omega)
        have HS := Aside0.mk hs
        clear hs
        go_wp2
        go_roundw
        case rel =>
          refine ⟨i + 1, by go_num, ⟨by omega, ?_⟩, trivial⟩
          have h1 := HD.out.2
          rw [drop_at' HEI.out, List.all_cons, decide_eq_true HS.out, Bool.true_and] at h1
          exact h1
        case measure => simp [intOf]; omega
      · have hd : decide ((o.ids.length : Int) > 20) = true := decide_eq_true (by omega)
        have HS := Aside0.mk hs
        clear hs
        go_wp2
        go_ret
        have h1 := HD.out.2
        rw [drop_at' HEI.out, List.all_cons, decide_eq_false HS.out, Bool.false_and, Bool.false_and] at h1
        exact ⟨by rw [h1]; rfl, rfl⟩
    · have hle := HD.out.1
      have h1 := HD.out.2
      rw [List.drop_eq_nil_of_le (by omega)] at h1
      have H1 := Aside0.mk h1
      clear h1
      go_wp2
      go_ret
      exact ⟨by rw [H1.out]; simp; omega, rfl⟩
end Go.Proofs.Ytbhibodgbgndbaa.B
/- Equality of entries; the law's known. No condition. -/
namespace Go.Proofs.Ytbhibodgbgndbaa.B
open Go Go.RowKit Go.Proofs Go.Proofs.YtbhibodgbgndbaaW.PrintWords Go.Proofs.YtbhibodgbgndbaaW.PrintLast Go.Proofs.YtbhibodgbgndbaaW.PrintMore
set_option linter.unusedVariables false
set_option linter.unusedSimpArgs false

theorem info3 : (Try.prog.info? 3).map (·.size) = some 1 := by kernel_rfl
theorem agg30 (w : World) : (isAgg 30).run Try.prog w = .ok true w := by simp [isAgg, run_underlying Try.underlying30]
theorem agg3 (w : World) : (isAgg 3).run Try.prog w = .ok false w := by simp [isAgg, run_underlying Try.underlying3]
theorem part_id (w : World) (x : List Int) (hx : x.length = 32) (a t : Int) : (part 30 (entL x a t).toArray 0).run Try.prog w = .ok (idV x) w := by
  obtain ⟨i0, hi, hz⟩ := Option.map_eq_some_iff.1 info30
  have e : (List.take 32 (entL x a t)).toArray = idC x := by
    unfold entL idC
    rw [List.take_left' (by simpa using hx)]
  simp [part, sizeOf, typeInfo, hi, hz, agg30, e, idV, entL_len x hx]
theorem part_32 (w : World) (x : List Int) (hx : x.length = 32) (a t : Int) : (part 3 (entL x a t).toArray 32).run Try.prog w = .ok (.int .i64 a) w := by
  obtain ⟨i0, hi, hz⟩ := Option.map_eq_some_iff.1 info3
  have h := at_ent32 x a t ⟨hx⟩
  simp [part, sizeOf, typeInfo, hi, hz, agg3, h, entL_len x hx]
  exact (List.getElem?_eq_some_iff.1 h).2
theorem part_33 (w : World) (x : List Int) (hx : x.length = 32) (a t : Int) : (part 3 (entL x a t).toArray 33).run Try.prog w = .ok (.int .i64 t) w := by
  obtain ⟨i0, hi, hz⟩ := Option.map_eq_some_iff.1 info3
  have h := at_ent33 x a t ⟨hx⟩
  simp [part, sizeOf, typeInfo, hi, hz, agg3, h, entL_len x hx]
  exact (List.getElem?_eq_some_iff.1 h).2
theorem fields59 : (Try.prog.fieldsOf 59).toList.map (fun f => (f.name == "_", f.type, f.offset)) = [(false, 30, 0), (false, 3, 32), (false, 3, 33)] := by kernel_rfl
theorem eqEnt_gen {P : Program} (d : Nat) (w : World) (X Y : Array Value) (V W : Value) (a b t u : Int) (q : Prop) [Decidable q] (hs : P.stoodInHeld 59 = false) (hu : P.underlying 59 = some (.struct (P.fieldsOf 59)))
    (hf : (P.fieldsOf 59).toList.map (fun f => (f.name == "_", f.type, f.offset)) = [(false, 30, 0), (false, 3, 32), (false, 3, 33)])
    (hq : (Op.equalIn d 30 V W).run P w = .ok (decide q) w) (hi1 : (Op.equalIn d 3 (.int .i64 a) (.int .i64 b)).run P w = .ok (a == b) w) (hi2 : (Op.equalIn d 3 (.int .i64 t) (.int .i64 u)).run P w = .ok (t == u) w)
    (px : (part 30 X 0).run P w = .ok V w) (py : (part 30 Y 0).run P w = .ok W w) (px2 : (part 3 X 32).run P w = .ok (.int .i64 a) w) (py2 : (part 3 Y 32).run P w = .ok (.int .i64 b) w) (px3 : (part 3 X 33).run P w = .ok (.int .i64 t) w) (py3 : (part 3 Y 33).run P w = .ok (.int .i64 u) w) :
    (Op.equalIn (d + 1) 59 (.agg X) (.agg Y)).run P w = .ok (decide (q ∧ a = b ∧ t = u)) w := by
  rw [run_equalIn_struct w d 59 _ _ hu hs]
  generalize (P.fieldsOf 59).toList = fs at hf
  obtain ⟨f0, fs1, rfl, e0, hf⟩ := List.map_eq_cons_iff.1 hf
  obtain ⟨f1, fs2, rfl, e1, hf⟩ := List.map_eq_cons_iff.1 hf
  obtain ⟨f2, fs3, rfl, e2, hf⟩ := List.map_eq_cons_iff.1 hf
  obtain rfl := List.map_eq_nil_iff.1 hf
  simp only [Prod.mk.injEq] at e0 e1 e2
  obtain ⟨n0, t0, o0⟩ := e0
  obtain ⟨n1, t1, o1⟩ := e1
  obtain ⟨n2, t2, o2⟩ := e2
  have m0 : f0.name ≠ "_" := by simpa using n0
  have m1 : f1.name ≠ "_" := by simpa using n1
  have m2 : f2.name ≠ "_" := by simpa using n2
  simp only [Op.eqFields, if_pos m0, if_pos m1, if_pos m2, t0, o0, t1, o1, t2, o2]
  simp only [Sem.run_bind, px, py, px2, py2, px3, py3, Result.andThen_ok, hq]
  by_cases h1 : q
  · rw [decide_eq_true h1]
    simp only [Bool.not_true, Bool.false_eq_true, if_false, Sem.run_bind, px2, py2, Result.andThen_ok, hi1]
    by_cases h2 : a = b
    · rw [show (a == b) = true by simpa using h2]
      simp only [Bool.not_true, Bool.false_eq_true, if_false, Sem.run_bind, px3, py3, Result.andThen_ok, hi2]
      by_cases h3 : t = u
      · rw [show (t == u) = true by simpa using h3, decide_eq_true ⟨h1, h2, h3⟩]
        simp
      · rw [show (t == u) = false by simpa using h3, decide_eq_false (fun h => h3 h.2.2)]
        simp
    · rw [show (a == b) = false by simpa using h2, decide_eq_false (fun h => h2 h.2.1)]
      simp
  · rw [decide_eq_false h1, decide_eq_false (fun h => h1 h.1)]
    simp
theorem stood59 : Try.prog.stoodInHeld 59 = false := by kernel_rfl
theorem under59 : Try.prog.underlying 59 = some (.struct (Try.prog.fieldsOf 59)) := by kernel_rfl
theorem run_eqEnt (w : World) (x y : List Int) (hx : x.length = 32) (hy : y.length = 32) (a b t u : Int) : (Op.equalIn 10000 59 (.agg (entL x a t).toArray) (.agg (entL y b u).toArray)).run Try.prog w = .ok (decide (x = y ∧ a = b ∧ t = u)) w :=
  eqEnt_gen 9999 w _ _ _ _ a b t u (x = y) stood59 under59 fields59 (run_eqId 9997 w x y hx hy) (run_equalIn_int w 9998 3 .i64 .i64 a b Try.underlying3) (run_equalIn_int w 9998 3 .i64 .i64 t u Try.underlying3)
    (part_id w x hx a t) (part_id w y hy b u) (part_32 w x hx a t) (part_32 w y hy b u) (part_33 w x hx a t) (part_33 w y hy b u)
end Go.Proofs.Ytbhibodgbgndbaa.B
/- The law's known. No condition. -/
namespace Go.Proofs.Ytbhibodgbgndbaa.B
open Go Go.RowKit Go.Proofs Go.Proofs.YtbhibodgbgndbaaW.PrintWords Go.Proofs.YtbhibodgbgndbaaW.PrintLast Go.Proofs.YtbhibodgbgndbaaW.PrintMore
set_option linter.unusedVariables false
set_option linter.unusedSimpArgs false

/-- The identity whose first byte is n. -/
def idN (n : Int) : List Int := n :: List.replicate 31 0
theorem idN_len (n : Int) : (idN n).length = 32 := by simp [idN]
theorem idN_ok (n : Int) (h : (Lit.int .u8 n).wf = true) : Idok (idN n) := ⟨idN_len n, fun z hz => by
  rcases List.mem_cons.1 hz with rfl | hz
  · exact h
  · rw [List.eq_of_mem_replicate hz]; decide⟩
theorem zero30' : (Try.prog.info? 30).bind (·.zero) = some (.agg zeros32.toArray) := by kernel_rfl
theorem run_build1 (n : Int) (W : World) : (Instr.build 30 #[(0, Value.int .u8 n)]).run Try.prog W = .ok (.agg ((idN n).map (Value.int .u8)).toArray) W := by
  refine run_build W 30 _ _ ?_
  obtain ⟨it, h3, h4⟩ := Option.bind_eq_some_iff.1 zero30'
  obtain ⟨i5, h5, h6⟩ := Option.map_eq_some_iff.1 info5
  unfold Program.built
  simp only [h3, Try.underlying30, h4, h5, h6]
  have e1 : (Value.agg zeros32.toArray).cells = ([] ++ [Value.int .u8 0] ++ List.replicate 31 (Value.int .u8 0)).toArray := rfl
  rw [e1, fill_step _ [] _ _ 0 _ _ (by simp) (by simp [Value.cells])]
  simp [Instr.fill, Value.cells, idN]
def bldN (a : Value) : Sem Value := Instr.build 30 #[(0, a)]
@[go_sem ↓] theorem execOp_bldN (ρ : Operand → Value) (dst : Option Tmp) (p : Operand) (ty : TypeId) (pos : String) (after : Array Edge) (guard : Option (Nat × Bool)) :
    execOp ρ { dst, op := .build 30 #[(0, p)], type := ty, pos, after, guard } = (do pure (.value (← bldN (ρ p)))) := by simp [execOp, bldN]
@[go_sem] theorem run_bldN (n : Int) (W : World) : (bldN (Value.int .u8 n)).run Try.prog W = .ok (.agg ((idN n).map (Value.int .u8)).toArray) W := run_build1 n W
theorem run_build59c (x : List Int) (hx : x.length = 32) (due tr : Int) (W : World) : (Instr.build 59 #[(0, .agg (x.map (Value.int .u8)).toArray), (1, .int .i64 due), (2, .int .i64 tr)]).run Try.prog W = .ok (.agg (entL x due tr).toArray) W := by
  refine run_build W 59 _ _ ?_
  obtain ⟨fs, hu, hm⟩ := places59
  obtain ⟨v, h1, h2⟩ := Option.map_eq_some_iff.1 zero59
  obtain ⟨it, h3, h4⟩ := Option.bind_eq_some_iff.1 h1
  unfold Program.built
  simp only [h3, hu, h4, hm, h2]
  have e1 : zeros34 = [] ++ List.replicate 32 (.int .u8 0) ++ [.int .i64 0, .int .i64 0] := rfl
  rw [e1, fill_step _ [] _ _ 0 _ _ (by simp) (by simp [Value.cells, hx])]
  have e2 : ([] ++ (Value.agg (x.map (Value.int .u8)).toArray).cells.toList ++ [Value.int .i64 0, Value.int .i64 0] : List Value) = (x.map (Value.int .u8)) ++ [Value.int .i64 0] ++ [Value.int .i64 0] := by simp [Value.cells]
  rw [e2, fill_step _ _ _ _ 1 _ _ (by simp [hx]) (by simp [Value.cells])]
  have e3 : (x.map (Value.int .u8) ++ (Value.int .i64 due).cells.toList ++ [Value.int .i64 0] : List Value) = (x.map (Value.int .u8) ++ [Value.int .i64 due]) ++ [Value.int .i64 0] ++ [] := by simp [Value.cells]
  rw [e3, fill_step _ _ _ _ 2 _ _ (by simp [hx]) (by simp [Value.cells])]
  simp [Instr.fill, entL, Value.cells]
def bldE3 (a b c : Value) : Sem Value := Instr.build 59 #[(0, a), (1, b), (2, c)]
@[go_sem ↓] theorem execOp_bldE3 (ρ : Operand → Value) (dst : Option Tmp) (p q r : Operand) (ty : TypeId) (pos : String) (after : Array Edge) (guard : Option (Nat × Bool)) :
    execOp ρ { dst, op := .build 59 #[(0, p), (1, q), (2, r)], type := ty, pos, after, guard } = (do pure (.value (← bldE3 (ρ p) (ρ q) (ρ r)))) := by simp [execOp, bldE3]
theorem run_bldE3 (x : List Int) (due tr : Int) (W : World) (hx : x.length = 32) : (bldE3 (.agg (x.map (Value.int .u8)).toArray) (.int .i64 due) (.int .i64 tr)).run Try.prog W = .ok (.agg (entL x due tr).toArray) W := run_build59c x hx due tr W

attribute [local go_sem ↓] execOp_ld30 execOp_ld59
def k0 : St := ⟨2, 5, false, [], []⟩
def k1 : St := ⟨2, 5, false, [(idN 1, 10, 0)], []⟩
def k2 : St := ⟨2, 5, false, [(idN 1, 10, 0), (idN 2, 10, 0)], []⟩
def k3 : St := ⟨2, 5, false, [(idN 1, 10, 0), (idN 2, 10, 0)], [idN 1]⟩
def k4 : St := ⟨2, 5, false, [(idN 2, 10, 0), (idN 1, 17, 1)], []⟩
theorem ke1 : addS k0 (idN 1) 10 = (k1, 0) := by kernel_rfl
theorem ke2 : addS k1 (idN 2) 10 = (k2, 0) := by kernel_rfl
theorem ke3 : offS k2 (idN 1) = (k3, 0) := by kernel_rfl
theorem ke4 : latS k3 (idN 1) 12 = (k4, 0) := by kernel_rfl
theorem ok1 : Idok (idN 1) := idN_ok 1 (by decide)
theorem ok2 : Idok (idN 2) := idN_ok 2 (by decide)
theorem kc1 {w : World} {F : Nat → Prop} {g gm : Nat} (h : BL w F g gm k0) : Calls Try.prog 13 #[.pointer (some ⟨g, 0, none⟩), .agg ((idN 1).map (Value.int .u8)).toArray, .int .i64 10] w fun e w' => e = .returned (.int .i64 0) ∧ After F g gm w w' k1 := by
  have := add_is h ok1 10
  rw [ke1] at this; exact this
theorem kc2 {w : World} {F : Nat → Prop} {g gm : Nat} (h : BL w F g gm k1) : Calls Try.prog 13 #[.pointer (some ⟨g, 0, none⟩), .agg ((idN 2).map (Value.int .u8)).toArray, .int .i64 10] w fun e w' => e = .returned (.int .i64 0) ∧ After F g gm w w' k2 := by
  have := add_is h ok2 10
  rw [ke2] at this; exact this
theorem kc3 {w : World} {F : Nat → Prop} {g gm : Nat} (h : BL w F g gm k2) : Calls Try.prog 18 #[.pointer (some ⟨g, 0, none⟩), .agg ((idN 1).map (Value.int .u8)).toArray] w fun e w' => e = .returned (.int .i64 0) ∧ After F g gm w w' k3 := by
  have := offered_is h ok1
  rw [ke3] at this; exact this
theorem kc4 {w : World} {F : Nat → Prop} {g gm : Nat} (h : BL w F g gm k3) : Calls Try.prog 20 #[.pointer (some ⟨g, 0, none⟩), .agg ((idN 1).map (Value.int .u8)).toArray, .int .i64 12] w fun e w' => e = .returned (.int .i64 0) ∧ After F g gm w w' k4 := by
  have := later_is h ok1 12
  rw [ke4] at this; exact this
theorem kc5 {w : World} {F : Nat → Prop} {g gm : Nat} (h : BL w F g gm k4) : Calls Try.prog 27 #[.pointer (some ⟨g, 0, none⟩)] w fun e w' => ∃ gb cp, e = .returned (.slice (some ⟨gb, 0, none⟩) 2 cp) ∧ w'.rangeAt gb 0 ((idN 2).map (Value.int .u8)) ∧ w'.rangeAt gb 34 (entL (idN 1) 17 1) ∧ Below w.heap.size w w' := by
  refine (all_is h).mono ?_
  rintro e w' ⟨v', rfl, ho, hb⟩
  obtain ⟨gb, cp, rfl, _, _⟩ := ho.form (by decide)
  have hl32 : ∀ e ∈ k4.es, e.1.length = 32 := by decide
  obtain ⟨A, gb', cp', hv, hA, hE⟩ := ents_of_own hl32 ho
  cases hv
  have := hA (by decide)
  cases this
  exact ⟨_, _, rfl, id_of_ent _ _ _ _ _ _ (hE 0 _ rfl), hE 1 _ rfl, hb⟩
/-- What a call has made itself lies from B on. -/
structure On (B : Nat) (w0 w : World) (F : Nat → Prop) : Prop where
  below : Below B w0 w
  own : ∀ k, F k → B ≤ k
  size : B ≤ w.heap.size
theorem On.step {B : Nat} {w0 w w1 : World} {F F1 : Nat → Prop} (h : On B w0 w F) (hF : ∀ k, F1 k → F k ∨ w.heap.size ≤ k) (hU : Upd F w w1) : On B w0 w1 F1 :=
  ⟨h.below.trans (hU.below h.size h.own), fun k hk => by
    rcases hF k hk with h1 | h1
    · exact h.own k h1
    · exact Nat.le_trans h.size h1, Nat.le_trans h.size hU.size⟩
theorem On.read {B : Nat} {w0 w w1 : World} {F : Nat → Prop} (h : On B w0 w F) (hb : Below w.heap.size w w1) : On B w0 w1 F := ⟨h.below.trans (hb.mono h.size), h.own, Nat.le_trans h.size hb.size⟩
set_option maxHeartbeats 8000000 in
set_option maxRecDepth 100000 in
theorem known_is (w : World) : Calls Try.prog 10 #[] w fun e w' => e = .returned (.bool true) ∧ Below w.heap.size w w' := by
  have hb3 := fun W => run_bldE3 (idN 1) 17 1 W (idN_len 1)
  have he := fun W => run_eqEnt W (idN 1) (idN 1) (idN_len 1) (idN_len 1) 17 17 1 1
  rw [decide_eq_true ⟨rfl, rfl, rfl⟩] at he
  have hi := fun W : World => show (Op.equalIn 10000 30 (.agg ((idN 2).map (Value.int .u8)).toArray) (.agg ((idN 2).map (Value.int .u8)).toArray)).run Try.prog W = .ok (decide (idN 2 = idN 2)) W from run_eqId 9998 W (idN 2) (idN 2) (idN_len 2) (idN_len 2)
  rw [decide_eq_true rfl] at hi
  go_enter Try.func10, Try.ntmps10
  go_wp2_with (first
    | (go_at_call 12; refine (newS 2 5 (by decide) (by decide) (by decide) (by decide) _).mono ?_; rintro e_ w0 ⟨g, gm, rfl, hb0, HB0, hq1, hq2⟩)
    | (go_at_call 13; refine (kc2 HB1).mono ?_; rintro e_ w2 ⟨rfl, F2, HB2, hF2, U2⟩)
    | (go_at_call 13; refine (kc1 HB0).mono ?_; rintro e_ w1 ⟨rfl, F1, HB1, hF1, U1⟩)
    | (go_at_call 18; refine (kc3 HB2).mono ?_; rintro e_ w3 ⟨rfl, F3, HB3, hF3, U3⟩)
    | (go_at_call 20; refine (kc4 HB3).mono ?_; rintro e_ w4 ⟨rfl, F4, HB4, hF4, U4⟩)
    | (go_at_call 27; refine (kc5 HB4).mono ?_; rintro e_ w5 ⟨gb, cp, rfl, hr0, hr1, hb5⟩; have hld := run_ld30 w5 gb (idN 2) (idN_len 2) hr0; have hld9 := run_ld59 w5 gb 34 (idN 1) 17 1 (idN_len 1) hr1; clear hr0 hr1))
  go_ret
  have o0 : On w.heap.size w w0 (fun k => k = g ∨ k = gm) := ⟨hb0, by rintro k (rfl | rfl) <;> assumption, hb0.size⟩
  have o4 := (((o0.step hF1 U1).step hF2 U2).step hF3 U3).step hF4 U4
  exact ⟨rfl, o4.below.trans (hb5.mono o4.size)⟩
end Go.Proofs.Ytbhibodgbgndbaa.B
/- What the laws share: identities out of the argument, what Add has done, one backlog in a round. No condition. -/
namespace Go.Proofs.Ytbhibodgbgndbaa.B
open Go Go.RowKit Go.Proofs Go.Proofs.YtbhibodgbgndbaaW.PrintWords Go.Proofs.YtbhibodgbgndbaaW.PrintLast Go.Proofs.YtbhibodgbgndbaaW.PrintMore
set_option linter.unusedVariables false
set_option linter.unusedSimpArgs false

/-! an identity in the block that was made last; an identity out of the argument -/
def alc30 : Sem Value := Instr.alloc 30 true (.tuple #[])
theorem execOp_alc30 (ρ : Operand → Value) (dst : Option Tmp) (ty : TypeId) (pos : String) (after : Array Edge) (guard : Option (Nat × Bool)) :
    execOp ρ { dst, op := .alloc 30, type := ty, pos, after, guard } = (do pure (.value (← alc30))) := by simp [execOp, alc30]
theorem run_alc30 (W : World) : alc30.run Try.prog W = .ok (.pointer (some ⟨W.heap.size, 0, none⟩)) (W.alloc (.cells zeros32.toArray 30)) := by
  obtain ⟨it, h3, h4⟩ := Option.bind_eq_some_iff.1 zero30'
  simp [alc30, Instr.alloc, zeroValue, typeInfo, h3, h4, newVar, newRow, Value.cells, Result.andThen]
def st30 (p v : Value) : Sem Unit := Instr.storeAt 30 p v
theorem execOp_st30 (ρ : Operand → Value) (dst : Option Tmp) (p x : Operand) (ty : TypeId) (pos : String) (after : Array Edge) (guard : Option (Nat × Bool)) :
    execOp ρ { dst, op := .store 30 p x, type := ty, pos, after, guard } = (do st30 (ρ p) (ρ x); pure .skip) := by simp [execOp, st30]
theorem run_st30 (W : World) (N : Nat) (x : List Int) (hN : W.heap.size = N) (hx : Aside0 (x.length = 32)) : (st30 (.pointer (some ⟨N, 0, none⟩)) (.agg (x.map (Value.int .u8)).toArray)).run Try.prog (W.alloc (.cells zeros32.toArray 30)) = .ok () (W.alloc (.cells (idC x) 30)) := by
  subst hN
  refine run_storeAt_new W 30 _ _ (by simpa [hx.out] using info30) (by simp [zeros32, hx.out]) (all_oneCell_toArray (id_one x))
def ld29 (p : Value) : Sem Value := Instr.loadAt 29 p
theorem execOp_ld29 (ρ : Operand → Value) (dst : Option Tmp) (p : Operand) (ty : TypeId) (pos : String) (after : Array Edge) (guard : Option (Nat × Bool)) :
    execOp ρ { dst, op := .load 29 p, type := ty, pos, after, guard } = (do pure (.value (← ld29 (ρ p)))) := by simp [execOp, ld29]
theorem info29 : (Try.prog.info? 29).map (·.size) = some 32 := by kernel_rfl
theorem run_ld29 (W : World) (b o : Nat) (x : List Int) (hx : x.length = 32) (h : W.rangeAt b o (x.map (Value.int .u8))) : (ld29 (.pointer (some ⟨b, o, none⟩))).run Try.prog W = .ok (.agg (x.map (Value.int .u8)).toArray) W :=
  run_loadAt_mid W b o 29 _ _ h Try.underlying29 rfl (by rw [List.length_map, hx]; exact info29)
theorem idok_zero : Idok zeroId := ⟨by simp [zeroId], fun z hz => by rw [List.eq_of_mem_replicate hz]; decide⟩

/-- What Add has done, seen by the law. -/
theorem add_seen (s : St) (x : List Int) (hw : WF s) (hz : zeroId ∉ s.es.map (·.1)) : ∃ b9 b0 z r : Bool, ((addS s x 1).2 == 9) = b9 ∧ ((addS s x 1).2 == 0) = b0 ∧ decide (x = zeroId) = z ∧ decide (x ∈ (addS s x 1).1.es.map (·.1)) = r ∧
    (addS s x 1).1.cap = s.cap ∧ zeroId ∉ (addS s x 1).1.es.map (·.1) ∧
    ((b9 = true ∧ b0 = false ∧ z = false ∧ r = false ∧ (addS s x 1).1.missed = true ∧ ((addS s x 1).1.es.length : Int) = s.cap) ∨ (b9 = false ∧ b0 = true ∧ z = false ∧ r = true) ∨ (b9 = false ∧ b0 = false ∧ z = true ∧ r = false) ∨ (b9 = false ∧ b0 = false ∧ z = false ∧ r = true)) := by
  refine ⟨_, _, _, _, rfl, rfl, rfl, rfl, ?_⟩
  unfold addS
  by_cases h1 : x = zeroId
  · subst h1
    rw [if_pos rfl]
    exact ⟨rfl, hz, .inr (.inr (.inl ⟨rfl, rfl, decide_eq_true rfl, decide_eq_false hz⟩))⟩
  · rw [if_neg h1, if_neg (by decide)]
    by_cases h2 : x ∈ s.es.map (·.1)
    · rw [if_pos h2]
      exact ⟨rfl, hz, .inr (.inr (.inr ⟨rfl, rfl, decide_eq_false h1, decide_eq_true h2⟩))⟩
    · rw [if_neg h2]
      by_cases h3 : s.cap ≤ (s.es.length : Int)
      · rw [if_pos h3]
        have := hw.few
        exact ⟨rfl, hz, .inl ⟨rfl, rfl, decide_eq_false h1, decide_eq_false h2, rfl, by show (s.es.length : Int) = s.cap; omega⟩⟩
      · rw [if_neg h3]
        refine ⟨rfl, ?_, .inr (.inl ⟨rfl, rfl, decide_eq_false h1, decide_eq_true (by simp)⟩)⟩
        simp only [List.map_append, List.mem_append, not_or]
        exact ⟨hz, by simpa using fun e => h1 e.symm⟩
theorem addS_few (s : St) (x : List Int) (d : Int) (hw : WF s) : ((addS s x d).1.es.length : Int) ≤ s.cap := by
  have h := hw.few
  unfold addS
  split
  · exact h
  · split
    · exact h
    · split
      · exact h
      · split
        · exact h
        · simp; omega
theorem addS_wf (s : St) (x : List Int) (d : Int) (hw : WF s) (hx : Idok x) : WF (addS s x d).1 := by
  unfold addS
  split
  · exact hw
  · split
    · exact hw
    · split
      · exact hw
      · rename_i hn
        split
        · exact ⟨hw.cap1, hw.cap2, hw.wait1, hw.wait2, hw.few, hw.ids, hw.nod, hw.sub⟩
        · exact hw.add hx hn (by omega) d 0
theorem rem_seen (s : St) (x : List Int) (hw : WF s) (hz : zeroId ∉ s.es.map (·.1)) : (remS s x).2 = decide (x ∈ s.es.map (·.1)) ∧ decide (x ∈ (remS s x).1.es.map (·.1)) = false ∧ (remS s x).1.cap = s.cap ∧ zeroId ∉ (remS s x).1.es.map (·.1) := by
  unfold remS
  by_cases h : x ∈ s.es.map (·.1)
  · rw [if_pos h]
    obtain ⟨i, e, k1, k2, k3⟩ := idx_some x s.es 0 h
    have k4 : idxOf s.es x = ((0 + i : Nat) : Int) := k1
    rw [Nat.zero_add] at k4
    have k5 : (idxOf s.es x).toNat = i := by rw [k4]; simp
    rw [k5]
    have hmm : (s.es.eraseIdx i).map (·.1) = (s.es.map (·.1)).eraseIdx i := by simp [List.eraseIdx_eq_take_drop_succ]
    refine ⟨(decide_eq_true h).symm, decide_eq_false (fun hx => ?_), rfl, fun hx => ?_⟩
    · have hx : x ∈ (s.es.eraseIdx i).map (·.1) := hx
      rw [hmm] at hx
      obtain ⟨j, hj, hji, hjx⟩ := List.mem_eraseIdx_iff_getElem.1 hx
      obtain ⟨h1, h2⟩ := List.getElem?_eq_some_iff.1 k2
      have hxi : (s.es.map (·.1))[i]'(by simpa using h1) = x := by simp [h2, k3]
      exact hji ((List.getElem_inj hw.nod).1 (hjx.trans hxi.symm))
    · have hx : zeroId ∈ (s.es.eraseIdx i).map (·.1) := hx
      rw [hmm] at hx
      exact hz (List.mem_of_mem_eraseIdx hx)
  · rw [if_neg h]
    exact ⟨(decide_eq_false h).symm, decide_eq_false h, rfl, hz⟩

attribute [local go_sem ↓] execOp_ld30 execOp_ld29 execOp_alc30 execOp_st30
attribute [local go_sem] run_alc30 run_st30
theorem box_far {w w1 : World} {F : Nat → Prop} {x : List Int} (hU : Upd F (w.alloc (.cells (idC x) 30)) w1) (hF : ∀ k, F k → k < w.heap.size) : w1.rangeAt w.heap.size 0 (x.map (Value.int .u8)) := fun j v_ hv => by
  have h0 := id_range w x j v_ hv
  have hb := hU.block w.heap.size (by simp) (fun hk => absurd (hF _ hk) (Nat.lt_irrefl _))
  exact (World.cell?_of_block (w := w.alloc (.cells (idC x) 30)) hb).trans h0
theorem range_below {w w1 : World} {b o : Nat} {cs : List Value} (h : w.rangeAt b o cs) (hb : Below w.heap.size w w1) : w1.rangeAt b o cs := fun j v hv => (hb.cell (World.block_lt_of_cell? _ _ (h j v hv))).trans (h j v hv)
theorem range_upd {w w1 : World} {F : Nat → Prop} {b o : Nat} {cs : List Value} (h : w.rangeAt b o cs) (hU : Upd F w w1) (hF : ¬ F b) : w1.rangeAt b o cs := fun j v hv =>
  (World.cell?_of_block (w := w) (hU.block b (World.block_lt_of_cell? _ _ (h j v hv)) hF)).trans (h j v hv)
theorem op_at {w w2 : World} {a : Addr} {l : List OpV} {i : Nat} {o : OpV} (h : OpsAt w (some a) l) (he : l[i]? = some o) (hb : Below w.heap.size w w2) : OpAt w2 (a.add (i * 36)) o := by
  obtain ⟨a', e, k⟩ := (h.below hb) i o he
  cases e; exact k
theorem not_own {w : World} {o : Obj} {F F1 : Nat → Prop} (h : ∀ k, F1 k → F k ∨ (w.alloc o).heap.size ≤ k) (hF : ∀ k, F k → k < w.heap.size) : ¬ F1 w.heap.size := fun hk => by
  rcases h _ hk with h1 | h1
  · exact absurd (hF _ h1) (Nat.lt_irrefl _)
  · simp at h1; omega
theorem drew_bl {w : World} {F : Nat → Prop} {g gm : Nat} {s : St} (h : BL w F g gm s) : BL w.drew F g gm s := h.kept fun _ _ => rfl
/-- What a round of a law knows of the one backlog. -/
structure Rd (w wr : World) (F : Nat → Prop) (g gm : Nat) (s : St) (n : Int) : Prop where
  on : On w.heap.size w wr F
  bl : BL wr F g gm s
  nz : zeroId ∉ s.es.map (·.1)
  cap : s.cap = n
end Go.Proofs.Ytbhibodgbgndbaa.B
