/- slices.Delete of one entry. Condition: at most 1000000 entries. -/
import Derived.Test.YtbhibodgbgndbaaM
import Derived.Lib.SliceRun
namespace Go.Proofs.Ytbhibodgbgndbaa.B
open Go Go.RowKit Go.Proofs Go.Proofs.YtbhibodgbgndbaaW.PrintWords Go.Proofs.YtbhibodgbgndbaaW.PrintLast Go.Proofs.YtbhibodgbgndbaaW.PrintMore
set_option linter.unusedVariables false
set_option linter.unusedSimpArgs false

theorem heap_setCells (b : Nat) (t : TypeId) (fr : Nat × Nat) : ∀ (vs : List Value) (o : Nat) (W : World) (cur : List Value), W.heap[b]? = some (.cells cur.toArray t fr) → o + vs.length ≤ cur.length →
    (W.setCells b o vs).heap[b]? = some (.cells (cur.take o ++ vs ++ cur.drop (o + vs.length)).toArray t fr)
  | [], o, W, cur, h, hl => by simpa [World.setCells] using h
  | v :: vs, o, W, cur, h, hl => by
    simp only [List.length_cons] at hl
    rw [World.setCells]
    have h1 : (W.setCell ⟨b, o, none⟩ v).heap[b]? = some (.cells (cur.set o v).toArray t fr) := by
      simp [World.setCell, Array.getElem?_modify, h]
    rw [heap_setCells b t fr vs (o + 1) _ _ h1 (by simp; omega)]
    congr 3
    have e1 : (cur.set o v).take (o + 1) = cur.take o ++ [v] := by
      rw [List.take_add_one, List.take_set_of_le (Nat.le_refl o)]
      simp [List.getElem?_set, show o < cur.length by omega]
    have e2 : (cur.set o v).drop (o + 1 + vs.length) = cur.drop (o + (v :: vs).length) := by
      rw [List.drop_set_of_lt (by omega)]
      congr 1
      simp only [List.length_cons]; omega
    rw [e1, e2]; simp
theorem grown_setCells (b : Nat) : ∀ (vs : List Value) (o : Nat) (W : World), W.grownBy (W.setCells b o vs) (some b)
  | [], o, W => World.grownBy.refl _ _
  | v :: vs, o, W => by
    rw [World.setCells]
    have h1 : W.grownBy (W.setCell ⟨b, o, none⟩ v) (some b) := ⟨rfl, rfl, rfl, by simp [World.setCell], fun k _ hk => Below.heap_setCell _ _ _ _ (fun e => hk (by simp [e]))⟩
    exact h1.trans (grown_setCells b vs (o + 1) _)
theorem entsL_len (es : List Ent) (hes : ∀ e ∈ es, e.1.length = 32) : (entsL es).length = es.length * 34 := by
  induction es with
  | nil => rfl
  | cons e es ih =>
    have h1 := entL_len e.1 (hes e (by simp)) e.2.1 e.2.2
    have h2 := ih (fun e h => hes e (by simp [h]))
    show (entL e.1 e.2.1 e.2.2 ++ entsL es).length = _
    rw [List.length_append, h1, h2]; simp only [List.length_cons]; omega
theorem entsL_take (es : List Ent) (hes : ∀ e ∈ es, e.1.length = 32) (i : Nat) (hi : i ≤ es.length) : (entsL es).take (i * 34) = entsL (es.take i) := by
  conv => lhs; rw [← List.take_append_drop i es]
  unfold entsL
  rw [List.flatMap_append]
  have := entsL_len (es.take i) (fun e h => hes e (List.mem_of_mem_take h))
  rw [List.length_take, Nat.min_eq_left hi] at this
  exact List.take_left' this
theorem entsL_drop (es : List Ent) (hes : ∀ e ∈ es, e.1.length = 32) (i : Nat) (hi : i ≤ es.length) : (entsL es).drop (i * 34) = entsL (es.drop i) := by
  conv => lhs; rw [← List.take_append_drop i es]
  unfold entsL
  rw [List.flatMap_append]
  have := entsL_len (es.take i) (fun e h => hes e (List.mem_of_mem_take h))
  rw [List.length_take, Nat.min_eq_left hi] at this
  exact List.drop_left' this
theorem entsL_one (es : List Ent) : ∀ u ∈ entsL es, u.oneCell' = true := by
  intro u hu
  obtain ⟨e, _, he⟩ := List.mem_flatMap.1 hu
  exact ent_one _ _ _ u he
theorem zero59v (w : World) : ∃ z, (zeroValue 59).run Try.prog w = .ok z w ∧ z.cells = zeros34.toArray := by
  obtain ⟨v, h1, h2⟩ := Option.map_eq_some_iff.1 zero59
  obtain ⟨it, h3, h4⟩ := Option.bind_eq_some_iff.1 h1
  exact ⟨v, by simp [zeroValue, typeInfo, h3, h4], h2⟩
theorem run_clear1 (W : World) (b o c : Nat) (ty : TypeId) (hc : ∀ j, j < 34 → (W.cell? ⟨b, o + j, none⟩).isSome = true) (hf : ∀ j, j < 34 → W.frozen? ⟨b, o + j, none⟩ = false) :
    (Builtin.clear_ #[55] ty #[.slice (some ⟨b, o, none⟩) 1 c]).run Try.prog W = .ok (.tuple #[]) (W.setCells b o zeros34) := by
  obtain ⟨z, hz, hzc⟩ := zero59v W
  have hst := run_storeCells_cells (P := Try.prog) b o zeros34 0 W (by simpa [zeros34] using hc) (by simpa [zeros34] using hf) (by decide)
  simp only [Nat.add_zero] at hst
  have hcz : (Builtin.zeroCells z.cells 1).toList = zeros34 := by rw [hzc]; kernel_rfl
  simp [Builtin.clear_, run_underlying Try.underlying55, hz, hcz, hst]

set_option maxHeartbeats 4000000 in
set_option maxRecDepth 100000 in
theorem delete_is (es : List Ent) (hes : ∀ e ∈ es, e.1.length = 32) (hn : es.length ≤ 1000000) (i : Nat) (hi : i < es.length) (gb cap : Nat) (w : World)
    (ho : w.ownsRow 0 59 34 (.slice (some ⟨gb, 0, none⟩) es.length cap) es.length (entsL es)) :
    Calls Try.prog 65 #[.slice (some ⟨gb, 0, none⟩) es.length cap, .int .i64 i, .int .i64 ((i : Int) + 1)] w fun e w' => e = .returned (.slice (some ⟨gb, 0, none⟩) (es.length - 1) cap) ∧
      w'.ownsRow 0 59 34 (.slice (some ⟨gb, 0, none⟩) (es.length - 1) cap) (es.length - 1) (entsL (es.eraseIdx i)) ∧ w.grownBy w' (some gb) := by
  obtain ⟨i0, z0, hi0, hz0, hs0, hb0, hzc0⟩ := info59r
  obtain ⟨hlen, h2⟩ := ho
  have hel := entsL_len es hes
  obtain ⟨cur, hblk, hcap, hm, hsz, htk⟩ : ∃ cur : Array Value, w.heap[gb]? = some (.cells cur 59 (0, 0)) ∧ es.length ≤ cap ∧ cap ≤ maxLen ∧ cur.size = cap * 34 ∧ cur.toList.take (es.length * 34) = entsL es := by
    rcases h2 with ⟨h, h0⟩ | ⟨g, cap', cur, h, _, hh, h3, h4, h5, h6⟩
    · omega
    · cases h; exact ⟨cur, hh, h3, h4, h5, h6⟩
  have hm' : cap ≤ 9223372036854775807 := by simpa [maxLen] using hm
  -- what moves
  have hdl : (entsL (es.drop (i + 1))).length = (es.length - (i + 1)) * 34 := by rw [entsL_len _ (fun e h => hes e (List.mem_of_mem_drop h)), List.length_drop]
  have hcc : ∀ k, w.cell? ⟨gb, k, none⟩ = cur[k]? := fun k => cell_of_row w gb k cur 59 (0, 0) hblk
  have hff : ∀ k, w.frozen? ⟨gb, k, none⟩ = false := fun k => by simp [World.frozen?, hblk]
  have hcur : ∀ k, k < es.length * 34 → cur[k]? = (entsL es)[k]? := fun k hk => by rw [← htk, List.getElem?_take_of_lt hk]; simp
  obtain ⟨A, hA, hsrc⟩ : ∃ A : Addr, (if cap = i + 1 then some (⟨gb, 0, none⟩ : Addr) else some ⟨gb, (i + 1) * 34, none⟩) = some A ∧ Aside0 (∀ t u, (entsL (es.drop (i + 1)))[t]? = some u → w.drew.cell? (A.add t) = some u) := by
    by_cases h : cap = i + 1
    · refine ⟨⟨gb, 0, none⟩, by simp [h], ⟨fun t u hu => ?_⟩⟩
      have h0 : (entsL (es.drop (i + 1))).length = 0 := by rw [hdl]; omega
      rw [List.length_eq_zero_iff.1 h0] at hu
      simp at hu
    · refine ⟨⟨gb, (i + 1) * 34, none⟩, by simp [h], ⟨fun t u hu => ?_⟩⟩
      have ht := (List.getElem?_eq_some_iff.1 hu).1
      rw [hdl] at ht
      have e2 : (⟨gb, (i + 1) * 34, none⟩ : Addr).add t = ⟨gb, (i + 1) * 34 + t, none⟩ := by unfold Addr.add; split <;> simp_all
      rw [e2]
      show w.cell? _ = _
      rw [hcc, hcur _ (by omega), ← hu, ← entsL_drop es hes (i + 1) (by omega), List.getElem?_drop]
  have s1 := Aside0.mk hdl
  have s2 := Aside0.mk (entsL_one (es.drop (i + 1)))
  have s3 : Aside0 (∀ j, j < (entsL (es.drop (i + 1))).length → (w.drew.cell? ⟨gb, 0 + i * 34 + j, none⟩).isSome = true ∧ w.drew.frozen? ⟨gb, 0 + i * 34 + j, none⟩ = false) := ⟨fun j hj => by
    rw [hdl] at hj
    refine ⟨?_, hff _⟩
    show (w.cell? _).isSome = true
    rw [hcc, hcur _ (by omega), List.getElem?_eq_getElem (by omega)]; rfl⟩
  obtain ⟨W1, hW1⟩ : ∃ W1, W1 = w.drew.setCells gb (0 + i * 34) (entsL (es.drop (i + 1))) := ⟨_, rfl⟩
  have hb1 : W1.heap[gb]? = some (.cells (cur.toList.take (0 + i * 34) ++ entsL (es.drop (i + 1)) ++ cur.toList.drop (0 + i * 34 + (entsL (es.drop (i + 1))).length)).toArray 59 (0, 0)) := by
    rw [hW1]; exact heap_setCells gb 59 (0, 0) _ _ _ cur.toList hblk (by simp [hdl, hsz]; omega)
  have hl1 : (cur.toList.take (0 + i * 34) ++ entsL (es.drop (i + 1)) ++ cur.toList.drop (0 + i * 34 + (entsL (es.drop (i + 1))).length)).length = cap * 34 := by simp [hdl, hsz]; omega
  have hcl : ∀ ty, (Builtin.clear_ #[55] ty #[.slice (some ⟨gb, (es.length - 1) * 34, none⟩) 1 (cap - (es.length - 1))]).run Try.prog W1 = .ok (.tuple #[]) (W1.setCells gb ((es.length - 1) * 34) zeros34) := fun ty => by
    refine run_clear1 W1 gb _ _ ty (fun j hj => ?_) (fun j hj => by simp [World.frozen?, hb1])
    rw [cell_of_row W1 gb _ _ 59 (0, 0) hb1, List.getElem?_toArray, List.getElem?_eq_getElem (by rw [hl1]; omega)]; rfl
  have em : i + (es.length - (i + 1)) = es.length - 1 := by omega
  have hcl : ∀ ty, (Builtin.clear_ #[55] ty #[.slice (some ⟨gb, (i + (es.length - (i + 1))) * 34, none⟩) (es.length - (i + (es.length - (i + 1)))) (cap - (i + (es.length - (i + 1))))]).run Try.prog W1 = .ok (.tuple #[]) (W1.setCells gb ((es.length - 1) * 34) zeros34) := fun ty => by
    rw [em, show es.length - (es.length - 1) = 1 by omega]; exact hcl ty
  clear em
  have hW := Aside0.mk hW1
  have HI := Aside0.mk (And.intro hi0 (And.intro hz0 (And.intro hs0 (And.intro hb0 hzc0))))
  have HX := Aside0.mk (And.intro hes (And.intro hb1 (And.intro hl1 (And.intro htk (And.intro hsz (And.intro hm (And.intro hblk hel)))))))
  have p1 : ((i : Int) + 1).toNat = i + 1 := by omega
  have p2 : (0 : Int) ≤ (i : Int) + 1 := by omega
  have p3 : (i : Int) + 1 ≤ (es.length : Int) := by omega
  have p4 : (i : Int) + 1 ≤ (cap : Int) := by omega
  have p5 : (i : Int) ≤ (cap : Int) := by omega
  clear hi0 hz0 hs0 hb0 hzc0 hb1 hl1 htk hsz hm hW1 hblk hdl hcc hff hcur hes hel hlen h2
  go_enter Try.func65, Try.ntmps65
  go_wp2
  go_region_law (first | (refine step_append_room rfl (.tmp 22) (.tmp 25) 55 rfl 59 i0 34 Try.underlying55 HI.out.1 HI.out.2.2.1 gb 0 i cap (by simp [Act.eval, Act.put]) A (es.length - (i + 1)) (cap - (i + 1)) (entsL (es.drop (i + 1))) (by simp [Act.eval, Act.put]) s1.out hsrc.out s2.out (by omega) s3.out ?_; rw [← hW.out]))
  go_wp2
  go_ret
  obtain ⟨hes, hb1, hl1, htk, hsz, hm, hblk, hel⟩ := HX.out
  have em : i + (es.length - (i + 1)) = es.length - 1 := by omega
  have hg1 : w.grownBy W1 (some gb) := by
    rw [hW.out]; exact World.grownBy.trans (b := w.drew) ⟨rfl, rfl, rfl, Nat.le_refl _, fun _ _ _ => rfl⟩ (grown_setCells gb _ _ _)
  have hb2 := heap_setCells gb 59 (0, 0) zeros34 ((es.length - 1) * 34) W1 _ hb1 (by rw [hl1]; simp [zeros34]; omega)
  have hse := s1.out
  refine ⟨by rw [← em]; rfl, ⟨?_, .inr ⟨gb, cap, _, rfl, Nat.zero_le _, hb2, by omega, hm, ?_, ?_⟩⟩, hg1.trans (grown_setCells gb _ _ _)⟩
  · rw [entsL_len _ (fun e h => hes e (List.mem_of_mem_eraseIdx h)), List.length_eraseIdx_of_lt hi]
  · have e5 : zeros34.length = 34 := rfl
    simp only [List.size_toArray, List.length_append, List.length_take, List.length_drop, e5] at hl1 ⊢
    omega
  · have e4 : List.take (0 + i * 34) cur.toList = entsL (es.take i) := by
      rw [Nat.zero_add, ← entsL_take es hes i (by omega), ← htk, List.take_take, Nat.min_eq_left (by omega)]
    have e6 : (entsL (es.take i) ++ entsL (es.drop (i + 1))).length = (es.length - 1) * 34 := by
      rw [List.length_append, hse, entsL_len _ (fun e h => hes e (List.mem_of_mem_take h)), List.length_take]; omega
    rw [e4]
    have e7 : entsL (es.eraseIdx i) = entsL (es.take i) ++ entsL (es.drop (i + 1)) := by
      rw [List.eraseIdx_eq_take_drop_succ]; simp [entsL]
    rw [e7]
    generalize entsL (es.take i) ++ entsL (es.drop (i + 1)) = Z at e6 ⊢
    rw [List.take_append_of_le_length (l₁ := Z) (by omega), List.take_of_length_le (l := Z) (by omega)]
    simp only [List.append_assoc]
    exact List.take_left' e6
end Go.Proofs.Ytbhibodgbgndbaa.B
