/- Later of a backlog, told plainly. No condition. -/
import Derived.Test.YtbhibodgbgndbaaR
namespace Go.Proofs.Ytbhibodgbgndbaa.B
open Go Go.RowKit Go.Proofs Go.Proofs.YtbhibodgbgndbaaW.PrintWords Go.Proofs.YtbhibodgbgndbaaW.PrintLast Go.Proofs.YtbhibodgbgndbaaW.PrintMore
set_option linter.unusedVariables false
set_option linter.unusedSimpArgs false
attribute [local go_sem ↓] execOp_ld30 execOp_ld59 execOp_st59 execOp_alc59
attribute [local go_sem] run_alc59 run_st59 cell_ent32 cell_ent33 set_ent32 set_ent33 fro_ent at_ent32 at_ent33 put_ent32 put_ent33

theorem ld30_box {w w1 : World} {x : List Int} (hx : x.length = 32) (h : w1.rangeAt w.heap.size 0 (x.map (Value.int .u8))) : (ld30 (.pointer (some ⟨w.heap.size, 0, none⟩))).run Try.prog w1 = .ok (.agg (x.map (Value.int .u8)).toArray) w1 := run_ld30 _ _ x hx h
theorem ld30_new (w : World) (x : List Int) (hx : x.length = 32) : (ld30 (.pointer (some ⟨w.heap.size, 0, none⟩))).run Try.prog (w.alloc (.cells (idC x) 30)) = .ok (.agg (x.map (Value.int .u8)).toArray) (w.alloc (.cells (idC x) 30)) := run_ld30 _ _ x hx (id_range w x)
set_option maxHeartbeats 4000000 in
set_option maxRecDepth 100000 in
theorem later_r1 {w : World} {F : Nat → Prop} {g gm : Nat} {s : St} (h : BL w F g gm s) {x : List Int} (hx : Idok x) (now : Int) (hm : minB now = false) :
    Calls Try.prog 20 #[.pointer (some ⟨g, 0, none⟩), idV x, .int .i64 now] w fun e w' => e = .returned (.int .i64 2) ∧ Below w.heap.size w w' := by
  have HM := Aside0.mk hm
  clear h hm
  unfold idV
  go_enter Try.func20, Try.ntmps20
  go_wp2_with (first | (go_at_call 41; refine (minute_is now _).mono ?_; rintro e_ w1 ⟨rfl, rfl⟩; rw [HM.out]))
  go_ret
  exact ⟨rfl, below_alloc (Below.refl _ _) _⟩
set_option maxHeartbeats 4000000 in
set_option maxRecDepth 100000 in
theorem later_r2 {w : World} {F : Nat → Prop} {g gm : Nat} {s : St} (h : BL w F g gm s) {x : List Int} (hx : Idok x) (now : Int) (hm : minB now = true) (hm2 : minB (now + s.wait) = false) (hw : IntKind.wrap .i64 (now + s.wait) = now + s.wait) :
    Calls Try.prog 20 #[.pointer (some ⟨g, 0, none⟩), idV x, .int .i64 now] w fun e w' => e = .returned (.int .i64 2) ∧ Below w.heap.size w w' := by
  have HM := Aside0.mk (And.intro hm hm2)
  have hu80 := Try.underlying80
  obtain ⟨v, h1, h2, h3⟩ := h.blk
  have hlt : g < w.heap.size := (Array.getElem?_eq_some_iff.1 h1).1
  have hc1 : (w.alloc (.cells (idC x) 30)).cell? ⟨g, 1, none⟩ = some (.int .i64 s.wait) := cell_alloc ((blk_cell h1 1).trans rfl) _
  clear h h1 h2 h3 hm hm2
  unfold idV
  go_enter Try.func20, Try.ntmps20
  go_wp2_with (first | (go_at_call 41; refine (minute_is _ _).mono ?_; rintro e_ w1 ⟨rfl, rfl⟩; (first | rw [HM.out.1] | rw [HM.out.2])))
  go_ret
  exact ⟨rfl, below_alloc (Below.refl _ _) _⟩
set_option maxHeartbeats 4000000 in
set_option maxRecDepth 100000 in
theorem later_no {w : World} {F : Nat → Prop} {g gm : Nat} {s : St} (h : BL w F g gm s) {x : List Int} (hx : Idok x) (now : Int) (hm : minB now = true) (hm2 : minB (now + s.wait) = true) (hw : IntKind.wrap .i64 (now + s.wait) = now + s.wait) (hf : (findS s x true).2 ≠ 0) :
    Calls Try.prog 20 #[.pointer (some ⟨g, 0, none⟩), idV x, .int .i64 now] w fun e w' => e = .returned (.int .i64 (findS s x true).2) ∧ Below w.heap.size w w' := by
  have HM := Aside0.mk (And.intro hm hm2)
  have hu80 := Try.underlying80
  obtain ⟨v, h1, h2, h3⟩ := h.blk
  have hlt : g < w.heap.size := (Array.getElem?_eq_some_iff.1 h1).1
  have hc1 : (w.alloc (.cells (idC x) 30)).cell? ⟨g, 1, none⟩ = some (.int .i64 s.wait) := cell_alloc ((blk_cell h1 1).trans rfl) _
  have hl0 := ld30_new w x hx.1
  have HX := Aside0.mk hx
  have HB := Aside0.mk h
  obtain ⟨q, hq⟩ : ∃ q, q = (findS s x true).2 := ⟨_, rfl⟩
  have HQ := Aside0.mk hq
  rw [← hq] at hf ⊢
  have hd : (q == 0) = false := by simpa using hf
  clear h h1 h2 h3 hm hm2 hx hq hf
  unfold idV
  go_enter Try.func20, Try.ntmps20
  go_wp2_with (first | (go_at_call 41; refine (minute_is _ _).mono ?_; rintro e_ w1 ⟨rfl, rfl⟩; (first | rw [HM.out.1] | rw [HM.out.2])) | (go_at_call 44; refine (find_is (HB.out.below (below_alloc (Below.refl _ _) _)) HX.out true).mono ?_; rintro e_ w1 ⟨rfl, hb1⟩; rw [← HQ.out]; have HW := Aside0.mk ((below_alloc (Below.refl w.heap.size w) (.cells (idC x) 30)).trans (hb1.mono (by simp))); clear hb1))
  go_ret
  exact ⟨rfl, HW.out⟩
set_option maxHeartbeats 8000000 in
set_option maxRecDepth 100000 in
theorem later_yes {w : World} {F : Nat → Prop} {g gm : Nat} {s : St} (h : BL w F g gm s) {x : List Int} (hx : Idok x) (now : Int) (hm : minB now = true) (hm2 : minB (now + s.wait) = true) (hw : IntKind.wrap .i64 (now + s.wait) = now + s.wait) (hf : (findS s x true).2 = 0)
    (i : Nat) (hi : (findS s x true).1 = (i : Int)) (d t : Int) (he : s.es[i]? = some (x, d, t)) :
    Calls Try.prog 20 #[.pointer (some ⟨g, 0, none⟩), idV x, .int .i64 now] w fun e w' => e = .returned (.int .i64 0) ∧ After F g gm w w' { cutE s i x with es := s.es.eraseIdx i ++ [(x, now + s.wait, wrap64 (t + 1))] } := by
  have HM := Aside0.mk (And.intro hm hm2)
  have hu80 := Try.underlying80
  obtain ⟨v, h1, h2, h3⟩ := h.blk
  have hlt : g < w.heap.size := (Array.getElem?_eq_some_iff.1 h1).1
  have hc1 : (w.alloc (.cells (idC x) 30)).cell? ⟨g, 1, none⟩ = some (.int .i64 s.wait) := cell_alloc ((blk_cell h1 1).trans rfl) _
  have hl0 := ld30_new w x hx.1
  have HX := Aside0.mk hx
  have HXL : Aside0 (x.length = 32) := ⟨hx.1⟩
  have HB := Aside0.mk h
  have HF := Aside0.mk (And.intro hf (And.intro hi he))
  have p1 : (0 : Int) ≤ (i : Int) := by omega
  have hil : i < s.es.length := (List.getElem?_eq_some_iff.1 he).1
  have p2 : (i : Int) < (s.es.length : Int) := by omega
  clear h h1 h2 h3 hm hm2 hx hf hi he
  unfold idV
  go_enter Try.func20, Try.ntmps20
  go_wp2_with (first | (go_at_call 41; refine (minute_is _ _).mono ?_; rintro e_ w1 ⟨rfl, rfl⟩; (first | rw [HM.out.1] | rw [HM.out.2])) | (go_at_call 44; refine (find_is (HB.out.below (below_alloc (Below.refl _ _) _)) HX.out true).mono ?_; rintro e_ w1 ⟨rfl, hb1⟩; rw [HF.out.1, HF.out.2.1]; have HW := Aside0.mk ((below_alloc (Below.refl w.heap.size w) (.cells (idC x) 30)).trans (hb1.mono (by simp))); have HB1 := Aside0.mk (HB.out.below HW.out); clear hb1; obtain ⟨v, k1, k2, k3⟩ := HB1.out.blk; obtain ⟨A, gb, cp, rfl, hA, hE⟩ := ents_of_own HB.out.wf.l32 k2; have hA' := hA (by omega); subst hA'; have r1 : w1.cell? ⟨g, 1, none⟩ = some (.int .i64 s.wait) := (blk_cell k1 1).trans rfl; have r3 : w1.cell? ⟨g, 3, none⟩ = some (.slice (some ⟨gb, 0, none⟩) s.es.length cp) := (blk_cell k1 3).trans rfl; have hld := run_ld59 w1 gb (i * 34) x d t HX.out.1 (hE i _ HF.out.2.2); have r1a := fun o => cell_alloc (W := w1) r1 o; clear k1 k2 k3 hA hE) | (go_at_call 43; refine (cutS (HB1.out.below (below_alloc (Below.refl _ _) _)) HF.out.2.2).mono ?_; rintro e_ w2 ⟨rfl, F3, B3, hF3, U3⟩))
  obtain ⟨v3, m1, m2, m3⟩ := B3.blk
  have q3 : w2.cell? ⟨g, 3, none⟩ = some v3 := (blk_cell m1 3).trans rfl
  have q3d : w2.drew.cell? ⟨g, 3, none⟩ = some v3 := q3
  have qf3 : w2.frozen? ⟨g, 3, none⟩ = false := blk_frozen m1 3
  have qf3d : w2.drew.frozen? ⟨g, 3, none⟩ = false := qf3
  have qa := fun o => cell_alloc (W := w2) q3 o
  have hN : w2.heap[w1.heap.size]? = some (.cells (entL x (now + s.wait) (wrap64 (t + 1))).toArray 59 (0, 0)) :=
    (U3.block w1.heap.size (by simp) (fun hk => absurd (HB1.out.lt _ hk) (Nat.lt_irrefl _))).trans (heap_alloc_last w1 _)
  have hld2 := run_ld59 w2.drew w1.heap.size 0 x (now + s.wait) (wrap64 (t + 1)) HX.out.1 (fun j u hu => by
    show w2.cell? _ = _
    rw [Nat.zero_add, cell_of_row w2 _ _ _ 59 (0, 0) hN]; simpa using hu)
  obtain ⟨i0, z0, hi0, hz0, hs0, hb0, hzc0⟩ := info59r
  have HI := Aside0.mk (And.intro hi0 (And.intro hz0 (And.intro hs0 (And.intro hb0 hzc0))))
  have hn : (s.es.eraseIdx i).length ≤ 1000000 := B3.wf.len
  have hrow : some g ≠ v3.ownBlock := fun e => (m3 g e.symm).2.1 rfl
  have HR := Aside0.mk hrow
  have HU := Aside0.mk (And.intro B3 (And.intro hF3 (And.intro U3 (And.intro m1 (And.intro m2 (And.intro m3 hN))))))
  clear hi0 hz0 hs0 hb0 hzc0 hrow B3 hF3 U3 m1 m2 m3 hN
  go_region_law (first | (refine step_append_lies _ rfl (.tmp 61) (.tmp 63) 55 rfl 0 59 i0 z0 34 48 Try.underlying55 HI.out.1 HI.out.2.1 HI.out.2.2.1 HI.out.2.2.2.1 HI.out.2.2.2.2 (by omega) _ (s.es.eraseIdx i).length (entsL (s.es.eraseIdx i)) rfl (own_below HU.out.2.2.2.2.1 (below_alloc (below_drew1 (Below.refl _ _)) _)) ⟨w2.heap.size, 0, none⟩ 1 1 (entL x (now + s.wait) (wrap64 (t + 1))) rfl (entL_len x HX.out.1 _ _) (fun j u hu => World.news_of_block (heap_alloc_new _ _) j u hu) (ent_one x _ _) (by omega) (m63 hn) (m48 hn) (Nat.zero_le _) _ rfl ?_; intro g' cap1 w3 hown hgrow hat hlt3; have r3 := cell_grown (cell_alloc (W := w2.drew) q3 _) hgrow HR.out; have rf3 : w3.frozen? ⟨g, 3, none⟩ = false := fro_grown (cell_alloc (W := w2.drew) q3 _) (fro_alloc (W := w2.drew) q3 qf3 _) hgrow HR.out))
  all_goals (go_wp2; refine bodyPost_ret (results_tmp rfl _ _ _) rfl ⟨rfl, ?_⟩)
  all_goals (
    obtain ⟨B3, hF3, U3, m1, m2, m3, hN⟩ := HU.out
    have hx2 : x ∉ (s.es.eraseIdx i).map (·.1) := fun hxm => by
      obtain ⟨h1, h2⟩ := List.getElem?_eq_some_iff.1 HF.out.2.2
      have hnod := HB.out.wf.nod
      have hmm : (s.es.eraseIdx i).map (·.1) = (s.es.map (·.1)).eraseIdx i := by simp [List.eraseIdx_eq_take_drop_succ]
      rw [hmm] at hxm
      obtain ⟨j, hj, hji, hjx⟩ := List.mem_eraseIdx_iff_getElem.1 hxm
      have hxi : (s.es.map (·.1))[i]'(by simpa using h1) = x := by simp [h2]
      exact hji ((List.getElem_inj hnod).1 (hjx.trans hxi.symm))
    have hW2 := B3.wf.add HX.out hx2 (by have h5 := HB.out.wf.few; have h6 : (s.es.eraseIdx i).length = s.es.length - 1 := List.length_eraseIdx_of_lt hil; simp only [h6]; omega) (now + s.wait) (wrap64 (t + 1))
    have hG := B3.grow m1 m3 (below_alloc (below_drew1 (Below.refl _ _)) _) hgrow (by rw [List.length_append, entsL_append]; exact hown) (by
      rcases hat with h | h
      · exact .inl h.symm
      · exact .inr ⟨g', rfl, by rw [h]; exact (below_alloc (below_drew1 (Below.refl _ _)) _).size⟩) hW2
    exact .preB HW.out (.preB (below_alloc (Below.refl _ _) _) (.pre hF3 U3 hG)))
/-- Later, plainly. -/
def latS (s : St) (x : List Int) (now : Int) : St × Int :=
  if minB now = false ∨ minB (now + s.wait) = false then (s, 2)
  else if (findS s x true).2 = 0 then
    ({ cutE s (idxOf s.es x).toNat x with es := s.es.eraseIdx (idxOf s.es x).toNat ++ [(x, now + s.wait, wrap64 ((s.es.getD (idxOf s.es x).toNat ([], 0, 0)).2.2 + 1))] }, 0)
  else (s, (findS s x true).2)
theorem later_is {w : World} {F : Nat → Prop} {g gm : Nat} {s : St} (h : BL w F g gm s) {x : List Int} (hx : Idok x) (now : Int) :
    Calls Try.prog 20 #[.pointer (some ⟨g, 0, none⟩), idV x, .int .i64 now] w fun e w' => e = .returned (.int .i64 (latS s x now).2) ∧ After F g gm w w' (latS s x now).1 := by
  unfold latS
  by_cases hm : minB now = false
  · rw [if_pos (.inl hm)]
    exact (later_r1 h hx now hm).mono fun e w' ⟨he, hb⟩ => ⟨he, .same h hb⟩
  have hm' : minB now = true := by simpa using hm
  have hw : IntKind.wrap .i64 (now + s.wait) = now + s.wait := by
    have h1 := h.wf.wait1
    have h2 := h.wf.wait2
    simp [minB] at hm'
    exact wrap_i64 _ (by omega) (by omega)
  by_cases hm2 : minB (now + s.wait) = false
  · rw [if_pos (.inr hm2)]
    exact (later_r2 h hx now hm' hm2 hw).mono fun e w' ⟨he, hb⟩ => ⟨he, .same h hb⟩
  rw [if_neg (by simp [hm, hm2])]
  have hm2' : minB (now + s.wait) = true := by simpa using hm2
  by_cases hf : (findS s x true).2 = 0
  · rw [if_pos hf]
    obtain ⟨i, ⟨y, d, t⟩, h1, h2, rfl, h4⟩ := find_at hf
    rw [h4]
    have h5 : s.es.getD i ([], 0, 0) = (y, d, t) := by simp [List.getD_eq_getElem?_getD, h2]
    rw [h5]
    exact later_yes h hx now hm' hm2' hw hf i h1 d t h2
  · rw [if_neg hf]
    exact (later_no h hx now hm' hm2' hw hf).mono fun e w' ⟨he, hb⟩ => ⟨he, .same h hb⟩
end Go.Proofs.Ytbhibodgbgndbaa.B
