/- Texts of this seat, joined: M N O P Q R. No condition but those that each part names. -/
import Derived.Test.YtbhibodgbgndbaaMg1
import Derived.Lib.SliceRun
/- Add of a backlog, told plainly. No condition. -/
namespace Go.Proofs.Ytbhibodgbgndbaa.B
open Go Go.RowKit Go.Proofs Go.Proofs.YtbhibodgbgndbaaW.PrintWords Go.Proofs.YtbhibodgbgndbaaW.PrintLast Go.Proofs.YtbhibodgbgndbaaW.PrintMore
set_option linter.unusedVariables false
set_option linter.unusedSimpArgs false

theorem idxGo_ge (y : List Int) : ∀ (es : List Ent) (i : Nat), y ∈ es.map (·.1) → (i : Int) ≤ idxGo y es i
  | [], i, h => by simp at h
  | e :: es, i, h => by
    unfold idxGo
    by_cases he : e.1 = y
    · rw [if_pos he]; exact Int.le_refl _
    · rw [if_neg he]
      have : y ∈ es.map (·.1) := by
        rcases List.mem_cons.1 h with h | h
        · exact absurd h.symm he
        · exact h
      have := idxGo_ge y es (i + 1) this
      omega
theorem idxGo_no (y : List Int) : ∀ (es : List Ent) (i : Nat), y ∉ es.map (·.1) → idxGo y es i = -1
  | [], i, h => rfl
  | e :: es, i, h => by
    unfold idxGo
    rw [if_neg (fun he => h (by simp [he]))]
    exact idxGo_no y es (i + 1) (fun hh => h (by rw [List.map_cons]; exact List.mem_cons_of_mem _ hh))
theorem has_eq (es : List Ent) (y : List Int) : hasE es y = decide (y ∈ es.map (·.1)) := by
  unfold hasE idxOf
  by_cases h : y ∈ es.map (·.1)
  · rw [decide_eq_true h]; exact decide_eq_true (by have := idxGo_ge y es 0 h; omega)
  · rw [decide_eq_false h, idxGo_no y es 0 h]; rfl
/-- Add, plainly: the state behind it and the error's number. -/
def addS (s : St) (x : List Int) (due : Int) : St × Int :=
  if x = zeroId then (s, 1) else if minB due = false then (s, 2) else if x ∈ s.es.map (·.1) then (s, 7)
  else if s.cap ≤ (s.es.length : Int) then ({ s with missed := true }, 9) else ({ s with es := s.es ++ [(x, due, 0)] }, 0)
theorem WF.add {s : St} (h : WF s) {x : List Int} (hx : Idok x) (hn : x ∉ s.es.map (·.1)) (hf : (s.es.length : Int) < s.cap) (d t : Int) : WF { s with es := s.es ++ [(x, d, t)] } :=
  ⟨h.cap1, h.cap2, h.wait1, h.wait2, by simp; omega, fun e he => by
    rcases List.mem_append.1 he with he | he
    · exact h.ids e he
    · simp at he; subst he; exact hx, by
    simp only [List.map_append, List.map_cons, List.map_nil]
    exact List.nodup_append.2 ⟨h.nod, by simp, by rintro a ha b hb rfl; simp at hb; subst hb; exact hn ha⟩, fun y hy => by
    simp only [List.map_append, List.mem_append]; exact .inl (h.sub y hy)⟩
/-- An entry more. -/
theorem BL.grow {w w2 w3 : World} {F : Nat → Prop} {g gm : Nat} {s : St} (h : BL w F g gm s) {v v' : Value} (hB : BAt w g s.cap s.wait s.missed v gm) (hv : ∀ k, v.ownBlock = some k → F k ∧ k ≠ g ∧ k ≠ gm) (hb : Below w.heap.size w w2) (hg : w2.grownBy w3 v.ownBlock)
    {es : List Ent} (ho : w3.ownsRow 0 59 34 v' es.length (entsL es)) (hat : v'.ownBlock = v.ownBlock ∨ ∃ k, v'.ownBlock = some k ∧ w.heap.size ≤ k) (hw : WF { s with es := es }) :
    After F g gm w (w3.setCell ⟨g, 3, none⟩ v') { s with es := es } := by
  have hgl := h.lt g h.fg
  have hml := h.lt gm h.fm
  have hs2 := hb.size
  have hs3 := hg.size
  have e1 : w3.heap[g]? = w.heap[g]? := (hg.block g (by omega) (fun e => (hv g e.symm).2.1 rfl)).trans (hb.block g hgl)
  have e2 : (w3.setCell ⟨g, 3, none⟩ v').heap[gm]? = w.heap[gm]? := by
    rw [Below.heap_setCell _ _ _ _ (by exact fun e => h.ne e.symm)]
    exact (hg.block gm (by omega) (fun e => (hv gm e.symm).2.2 rfl)).trans (hb.block gm hml)
  have hU : Upd F w w3 := (Upd.of_below (F := F) hb).trans (Upd.grown (F := F) hg (fun k hk => (hv k hk).1)) (fun k hk => .inl hk)
  have hn3 : ∀ k, v'.ownBlock = some k → k < w3.heap.size := fun k hk => (ho.lt k hk).2
  have hd : ∀ k, v'.ownBlock = some k → k ≠ g ∧ k ≠ gm := fun k hk => by
    rcases hat with h1 | ⟨k', h1, h2⟩
    · exact (hv k (h1 ▸ hk)).2
    · rw [hk] at h1; cases h1; omega
  refine ⟨fun k => F k ∨ v'.ownBlock = some k, ⟨⟨v', bAt_set3 (e1.trans hB) v', own_set ho (fun k hk => (hd k hk).1) v', fun k hk => ⟨.inr hk, hd k hk⟩⟩, h.map.kept e2, .inl h.fg, .inl h.fm, h.ne, ?_, hw⟩, ?_, ?_⟩
  · rintro k (hk | hk)
    · have := h.lt k hk; simp [World.setCell]; omega
    · have := hn3 k hk; simp [World.setCell]; omega
  · rintro k (hk | hk)
    · exact .inl hk
    · rcases hat with h1 | ⟨k', h1, h2⟩
      · exact .inl (hv k (h1 ▸ hk)).1
      · rw [hk] at h1; cases h1; exact .inr h2
  · exact hU.trans (Upd.set (F := F) h.fg v') (fun k hk => .inl hk)
theorem After.flag {w w2 : World} {F : Nat → Prop} {g gm : Nat} {s : St} (h : BL w F g gm s) (hb : Below w.heap.size w w2) (b : Bool) : After F g gm w (w2.setCell ⟨g, 2, none⟩ (.bool b)) { s with missed := b } := by
  have h2 := h.below hb
  obtain ⟨v, h3, h4, h5⟩ := h2.blk
  refine ⟨F, ⟨⟨v, bAt_set2 h3 b, own_set h4 (fun k hk => (h5 k hk).2.1) _, h5⟩, h2.map.kept (Below.heap_setCell _ _ _ _ (fun e => h.ne e.symm)), h.fg, h.fm, h.ne, fun k hk => ?_, ⟨h.wf.cap1, h.wf.cap2, h.wf.wait1, h.wf.wait2, h.wf.few, h.wf.ids, h.wf.nod, h.wf.sub⟩⟩, fun k hk => .inl hk, (Upd.of_below (F := F) hb).trans (Upd.set (F := F) h.fg _) (fun k hk => .inl hk)⟩
  have := h2.lt k hk; simp [World.setCell]; exact this
theorem add_is {w : World} {F : Nat → Prop} {g gm : Nat} {s : St} (h : BL w F g gm s) {x : List Int} (hx : Idok x) (due : Int) :
    Calls Try.prog 13 #[.pointer (some ⟨g, 0, none⟩), idV x, .int .i64 due] w fun e w' => e = .returned (.int .i64 (addS s x due).2) ∧ After F g gm w w' (addS s x due).1 := by
  obtain ⟨v, h1, h2, h3⟩ := h.blk
  unfold addS
  by_cases hz : x = zeroId
  · subst hz
    rw [if_pos rfl]
    exact (add_zero g due w).mono fun e w' ⟨he, hb⟩ => ⟨he, .same h hb⟩
  rw [if_neg hz]
  by_cases hd : minB due = false
  · rw [if_pos hd]
    exact (add_range g x hx.1 hz due hd w).mono fun e w' ⟨he, hb⟩ => ⟨he, .same h hb⟩
  rw [if_neg hd]
  have hd2 : minB due = true := by simpa using hd
  by_cases hm : x ∈ s.es.map (·.1)
  · rw [if_pos hm]
    exact (add_dup g s.cap s.wait s.missed v gm 0 s.es h.wf.l32 h.wf.len x hx.1 hz due hd2 (by rw [has_eq, decide_eq_true hm]) w h1 h2).mono fun e w' ⟨he, hb⟩ => ⟨he, .same h hb⟩
  rw [if_neg hm]
  by_cases hf : s.cap ≤ (s.es.length : Int)
  · rw [if_pos hf]
    refine (add_full g s.cap s.wait s.missed v gm 0 s.es h.wf.l32 h.wf.len x hx.1 hz due hd2 (by rw [has_eq, decide_eq_false hm]) hf w h1 h2).mono ?_
    rintro e w' ⟨he, w2, hb, rfl⟩
    exact ⟨he, .flag h hb true⟩
  · rw [if_neg hf]
    refine (add_okW g s.cap s.wait s.missed v gm s.es h.wf.l32 h.wf.len x hx.1 hz due hd2 (by rw [has_eq, decide_eq_false hm]) (by omega) w h1 h2 (fun k hk => (h3 k hk).2.1)).mono ?_
    rintro e w' ⟨he, w2, w3, v', hb, hg, ho, hat, rfl⟩
    exact ⟨he, h.grow h1 h3 hb hg (by simpa using ho) hat (h.wf.add hx hm (by omega) due 0)⟩
/-! the reading calls -/
theorem lenS {w : World} {F : Nat → Prop} {g gm : Nat} {s : St} (h : BL w F g gm s) : Calls Try.prog 14 #[.pointer (some ⟨g, 0, none⟩)] w fun e w' => e = .returned (.int .i64 (s.es.length : Int)) ∧ w' = w := by
  obtain ⟨v, h1, h2, h3⟩ := h.blk
  exact len_is g s.cap s.wait s.missed v gm 0 s.es h.wf.l32 w h1 h2
theorem missedS {w : World} {F : Nat → Prop} {g gm : Nat} {s : St} (h : BL w F g gm s) : Calls Try.prog 15 #[.pointer (some ⟨g, 0, none⟩)] w fun e w' => e = .returned (.bool s.missed) ∧ w' = w := by
  obtain ⟨v, h1, h2, h3⟩ := h.blk
  exact missed_is g s.cap s.wait s.missed v gm w h1
theorem hasS {w : World} {F : Nat → Prop} {g gm : Nat} {s : St} (h : BL w F g gm s) {x : List Int} (hx : Idok x) : Calls Try.prog 16 #[.pointer (some ⟨g, 0, none⟩), idV x] w fun e w' => e = .returned (.bool (decide (x ∈ s.es.map (·.1)))) ∧ Below w.heap.size w w' := by
  obtain ⟨v, h1, h2, h3⟩ := h.blk
  rw [← has_eq]
  exact has_is g s.cap s.wait s.missed v gm 0 s.es h.wf.l32 h.wf.len x hx.1 w h1 h2
theorem idxS {w : World} {F : Nat → Prop} {g gm : Nat} {s : St} (h : BL w F g gm s) {x : List Int} (hx : Idok x) : Calls Try.prog 42 #[.pointer (some ⟨g, 0, none⟩), idV x] w fun e w' => e = .returned (.int .i64 (idxOf s.es x)) ∧ Below w.heap.size w w' := by
  obtain ⟨v, h1, h2, h3⟩ := h.blk
  exact idx_is g s.cap s.wait s.missed v gm 0 s.es h.wf.l32 h.wf.len x hx.1 w h1 h2
/-- A new backlog. -/
theorem newS (cap wait : Int) (h1 : 1 ≤ cap) (h2 : cap ≤ 4096) (h3 : 0 ≤ wait) (h4 : wait ≤ 100000) (w : World) :
    Calls Try.prog 12 #[.int .i64 cap, .int .i64 wait] w fun e w' => ∃ g gm, e = .returned (.tuple #[.pointer (some ⟨g, 0, none⟩), .int .i64 0]) ∧ Below w.heap.size w w' ∧
      BL w' (fun k => k = g ∨ k = gm) g gm ⟨cap, wait, false, [], []⟩ ∧ w.heap.size ≤ g ∧ w.heap.size ≤ gm := by
  refine (new_is cap wait h1 h2 h3 h4 w).mono ?_
  rintro e w' ⟨he, rfl⟩
  refine ⟨w.heap.size + 1, w.heap.size, he, below_alloc (below_alloc (Below.refl _ _) _) _, ⟨⟨_, ?_, World.ownsRow_nil _ _ _ _, fun k hk => by simp [Value.ownBlock] at hk⟩, ?_, .inl rfl, .inr rfl, by omega, ?_, ⟨h1, h2, h3, h4, by simp; omega, by simp, by simp, by simp⟩⟩, by omega, by omega⟩
  · have := heap_alloc_new (w.alloc (.map #[] 0)) (.cells #[.int .i64 cap, .int .i64 wait, .bool false, .slice none 0 0, .map (some w.heap.size)] 80)
    simpa [BAt] using this
  · exact (OutAt.made w).kept (Below.heap_alloc _ _ _ (by simp))
  · rintro k (rfl | rfl)
    · simp
    · simp; omega
end Go.Proofs.Ytbhibodgbgndbaa.B
/- slices.Delete of one entry. Condition: at most 1000000 entries. -/
namespace Go.Proofs.Ytbhibodgbgndbaa.B
open Go Go.RowKit Go.Proofs Go.Proofs.YtbhibodgbgndbaaW.PrintWords Go.Proofs.YtbhibodgbgndbaaW.PrintLast Go.Proofs.YtbhibodgbgndbaaW.PrintMore
set_option linter.unusedVariables false
set_option linter.unusedSimpArgs false

theorem heap_setCells (b : Nat) (t : TypeId) (fr : Nat × Nat) : ∀ (vs : List Value) (o : Nat) (W : World) (cur : List Value), W.heap[b]? = some (.cells cur.toArray t fr) → o + vs.length ≤ cur.length →
    (W.setCells b o vs).heap[b]? = some (.cells (cur.take o ++ vs ++ cur.drop (o + vs.length)).toArray t fr)
  | [], o, W, cur, h, hl => by simpa [World.setCells] using h
  | v :: vs, o, W, cur, h, hl => by
    simp only [List.length_cons] at hl
    rw [World.setCells]
    have h1 : (W.setCell ⟨b, o, none⟩ v).heap[b]? = some (.cells (cur.set o v).toArray t fr) := by
      simp [World.setCell, Array.getElem?_modify, h]
    rw [heap_setCells b t fr vs (o + 1) _ _ h1 (by simp; omega)]
    congr 3
    have e1 : (cur.set o v).take (o + 1) = cur.take o ++ [v] := by
      rw [List.take_add_one, List.take_set_of_le (Nat.le_refl o)]
      simp [List.getElem?_set, show o < cur.length by omega]
    have e2 : (cur.set o v).drop (o + 1 + vs.length) = cur.drop (o + (v :: vs).length) := by
      rw [List.drop_set_of_lt (by omega)]
      congr 1
      simp only [List.length_cons]; omega
    rw [e1, e2]; simp
theorem grown_setCells (b : Nat) : ∀ (vs : List Value) (o : Nat) (W : World), W.grownBy (W.setCells b o vs) (some b)
  | [], o, W => World.grownBy.refl _ _
  | v :: vs, o, W => by
    rw [World.setCells]
    have h1 : W.grownBy (W.setCell ⟨b, o, none⟩ v) (some b) := ⟨rfl, rfl, rfl, by simp [World.setCell], fun k _ hk => Below.heap_setCell _ _ _ _ (fun e => hk (by simp [e]))⟩
    exact h1.trans (grown_setCells b vs (o + 1) _)
theorem entsL_len (es : List Ent) (hes : ∀ e ∈ es, e.1.length = 32) : (entsL es).length = es.length * 34 := by
  induction es with
  | nil => rfl
  | cons e es ih =>
    have h1 := entL_len e.1 (hes e (by simp)) e.2.1 e.2.2
    have h2 := ih (fun e h => hes e (by simp [h]))
    show (entL e.1 e.2.1 e.2.2 ++ entsL es).length = _
    rw [List.length_append, h1, h2]; simp only [List.length_cons]; omega
theorem entsL_take (es : List Ent) (hes : ∀ e ∈ es, e.1.length = 32) (i : Nat) (hi : i ≤ es.length) : (entsL es).take (i * 34) = entsL (es.take i) := by
  conv => lhs; rw [← List.take_append_drop i es]
  unfold entsL
  rw [List.flatMap_append]
  have := entsL_len (es.take i) (fun e h => hes e (List.mem_of_mem_take h))
  rw [List.length_take, Nat.min_eq_left hi] at this
  exact List.take_left' this
theorem entsL_drop (es : List Ent) (hes : ∀ e ∈ es, e.1.length = 32) (i : Nat) (hi : i ≤ es.length) : (entsL es).drop (i * 34) = entsL (es.drop i) := by
  conv => lhs; rw [← List.take_append_drop i es]
  unfold entsL
  rw [List.flatMap_append]
  have := entsL_len (es.take i) (fun e h => hes e (List.mem_of_mem_take h))
  rw [List.length_take, Nat.min_eq_left hi] at this
  exact List.drop_left' this
theorem entsL_one (es : List Ent) : ∀ u ∈ entsL es, u.oneCell' = true := by
  intro u hu
  obtain ⟨e, _, he⟩ := List.mem_flatMap.1 hu
  exact ent_one _ _ _ u he
theorem zero59v (w : World) : ∃ z, (zeroValue 59).run Try.prog w = .ok z w ∧ z.cells = zeros34.toArray := by
  obtain ⟨v, h1, h2⟩ := Option.map_eq_some_iff.1 zero59
  obtain ⟨it, h3, h4⟩ := Option.bind_eq_some_iff.1 h1
  exact ⟨v, by simp [zeroValue, typeInfo, h3, h4], h2⟩
theorem run_clear1 (W : World) (b o c : Nat) (ty : TypeId) (hc : ∀ j, j < 34 → (W.cell? ⟨b, o + j, none⟩).isSome = true) (hf : ∀ j, j < 34 → W.frozen? ⟨b, o + j, none⟩ = false) :
    (Builtin.clear_ #[55] ty #[.slice (some ⟨b, o, none⟩) 1 c]).run Try.prog W = .ok (.tuple #[]) (W.setCells b o zeros34) := by
  obtain ⟨z, hz, hzc⟩ := zero59v W
  have hst := run_storeCells_cells (P := Try.prog) b o zeros34 0 W (by simpa [zeros34] using hc) (by simpa [zeros34] using hf) (by decide)
  simp only [Nat.add_zero] at hst
  have hcz : (Builtin.zeroCells z.cells 1).toList = zeros34 := by rw [hzc]; kernel_rfl
  simp [Builtin.clear_, run_underlying Try.underlying55, hz, hcz, hst]

set_option maxHeartbeats 4000000 in
set_option maxRecDepth 100000 in
theorem delete_is (es : List Ent) (hes : ∀ e ∈ es, e.1.length = 32) (hn : es.length ≤ 1000000) (i : Nat) (hi : i < es.length) (gb cap : Nat) (w : World)
    (ho : w.ownsRow 0 59 34 (.slice (some ⟨gb, 0, none⟩) es.length cap) es.length (entsL es)) :
    Calls Try.prog 65 #[.slice (some ⟨gb, 0, none⟩) es.length cap, .int .i64 i, .int .i64 ((i : Int) + 1)] w fun e w' => e = .returned (.slice (some ⟨gb, 0, none⟩) (es.length - 1) cap) ∧
      w'.ownsRow 0 59 34 (.slice (some ⟨gb, 0, none⟩) (es.length - 1) cap) (es.length - 1) (entsL (es.eraseIdx i)) ∧ w.grownBy w' (some gb) := by
  obtain ⟨i0, z0, hi0, hz0, hs0, hb0, hzc0⟩ := info59r
  obtain ⟨hlen, h2⟩ := ho
  have hel := entsL_len es hes
  obtain ⟨cur, hblk, hcap, hm, hsz, htk⟩ : ∃ cur : Array Value, w.heap[gb]? = some (.cells cur 59 (0, 0)) ∧ es.length ≤ cap ∧ cap ≤ maxLen ∧ cur.size = cap * 34 ∧ cur.toList.take (es.length * 34) = entsL es := by
    rcases h2 with ⟨h, h0⟩ | ⟨g, cap', cur, h, _, hh, h3, h4, h5, h6⟩
    · omega
    · cases h; exact ⟨cur, hh, h3, h4, h5, h6⟩
  have hm' : cap ≤ 9223372036854775807 := by simpa [maxLen] using hm
  -- what moves
  have hdl : (entsL (es.drop (i + 1))).length = (es.length - (i + 1)) * 34 := by rw [entsL_len _ (fun e h => hes e (List.mem_of_mem_drop h)), List.length_drop]
  have hcc : ∀ k, w.cell? ⟨gb, k, none⟩ = cur[k]? := fun k => cell_of_row w gb k cur 59 (0, 0) hblk
  have hff : ∀ k, w.frozen? ⟨gb, k, none⟩ = false := fun k => by simp [World.frozen?, hblk]
  have hcur : ∀ k, k < es.length * 34 → cur[k]? = (entsL es)[k]? := fun k hk => by rw [← htk, List.getElem?_take_of_lt hk]; simp
  obtain ⟨A, hA, hsrc⟩ : ∃ A : Addr, (if cap = i + 1 then some (⟨gb, 0, none⟩ : Addr) else some ⟨gb, (i + 1) * 34, none⟩) = some A ∧ Aside0 (∀ t u, (entsL (es.drop (i + 1)))[t]? = some u → w.drew.cell? (A.add t) = some u) := by
    by_cases h : cap = i + 1
    · refine ⟨⟨gb, 0, none⟩, by simp [h], ⟨fun t u hu => ?_⟩⟩
      have h0 : (entsL (es.drop (i + 1))).length = 0 := by rw [hdl]; omega
      rw [List.length_eq_zero_iff.1 h0] at hu
      simp at hu
    · refine ⟨⟨gb, (i + 1) * 34, none⟩, by simp [h], ⟨fun t u hu => ?_⟩⟩
      have ht := (List.getElem?_eq_some_iff.1 hu).1
      rw [hdl] at ht
      have e2 : (⟨gb, (i + 1) * 34, none⟩ : Addr).add t = ⟨gb, (i + 1) * 34 + t, none⟩ := by unfold Addr.add; split <;> simp_all
      rw [e2]
      show w.cell? _ = _
      rw [hcc, hcur _ (by omega), ← hu, ← entsL_drop es hes (i + 1) (by omega), List.getElem?_drop]
  have s1 := Aside0.mk hdl
  have s2 := Aside0.mk (entsL_one (es.drop (i + 1)))
  have s3 : Aside0 (∀ j, j < (entsL (es.drop (i + 1))).length → (w.drew.cell? ⟨gb, 0 + i * 34 + j, none⟩).isSome = true ∧ w.drew.frozen? ⟨gb, 0 + i * 34 + j, none⟩ = false) := ⟨fun j hj => by
    rw [hdl] at hj
    refine ⟨?_, hff _⟩
    show (w.cell? _).isSome = true
    rw [hcc, hcur _ (by omega), List.getElem?_eq_getElem (by omega)]; rfl⟩
  obtain ⟨W1, hW1⟩ : ∃ W1, W1 = w.drew.setCells gb (0 + i * 34) (entsL (es.drop (i + 1))) := ⟨_, rfl⟩
  have hb1 : W1.heap[gb]? = some (.cells (cur.toList.take (0 + i * 34) ++ entsL (es.drop (i + 1)) ++ cur.toList.drop (0 + i * 34 + (entsL (es.drop (i + 1))).length)).toArray 59 (0, 0)) := by
    rw [hW1]; exact heap_setCells gb 59 (0, 0) _ _ _ cur.toList hblk (by simp [hdl, hsz]; omega)
  have hl1 : (cur.toList.take (0 + i * 34) ++ entsL (es.drop (i + 1)) ++ cur.toList.drop (0 + i * 34 + (entsL (es.drop (i + 1))).length)).length = cap * 34 := by simp [hdl, hsz]; omega
  have hcl : ∀ ty, (Builtin.clear_ #[55] ty #[.slice (some ⟨gb, (es.length - 1) * 34, none⟩) 1 (cap - (es.length - 1))]).run Try.prog W1 = .ok (.tuple #[]) (W1.setCells gb ((es.length - 1) * 34) zeros34) := fun ty => by
    refine run_clear1 W1 gb _ _ ty (fun j hj => ?_) (fun j hj => by simp [World.frozen?, hb1])
    rw [cell_of_row W1 gb _ _ 59 (0, 0) hb1, List.getElem?_toArray, List.getElem?_eq_getElem (by rw [hl1]; omega)]; rfl
  have em : i + (es.length - (i + 1)) = es.length - 1 := by omega
  have hcl : ∀ ty, (Builtin.clear_ #[55] ty #[.slice (some ⟨gb, (i + (es.length - (i + 1))) * 34, none⟩) (es.length - (i + (es.length - (i + 1)))) (cap - (i + (es.length - (i + 1))))]).run Try.prog W1 = .ok (.tuple #[]) (W1.setCells gb ((es.length - 1) * 34) zeros34) := fun ty => by
    rw [em, show es.length - (es.length - 1) = 1 by omega]; exact hcl ty
  clear em
  have hW := Aside0.mk hW1
  have HI := Aside0.mk (And.intro hi0 (And.intro hz0 (And.intro hs0 (And.intro hb0 hzc0))))
  have HX := Aside0.mk (And.intro hes (And.intro hb1 (And.intro hl1 (And.intro htk (And.intro hsz (And.intro hm (And.intro hblk hel)))))))
  have p1 : ((i : Int) + 1).toNat = i + 1 := by omega
  have p2 : (0 : Int) ≤ (i : Int) + 1 := by omega
  have p3 : (i : Int) + 1 ≤ (es.length : Int) := by omega
  have p4 : (i : Int) + 1 ≤ (cap : Int) := by omega
  have p5 : (i : Int) ≤ (cap : Int) := by omega
  clear hi0 hz0 hs0 hb0 hzc0 hb1 hl1 htk hsz hm hW1 hblk hdl hcc hff hcur hes hel hlen h2
  go_enter Try.func65, Try.ntmps65
  go_wp2
  go_region_law (first | (refine step_append_room rfl (.tmp 22) (.tmp 25) 55 rfl 59 i0 34 Try.underlying55 HI.out.1 HI.out.2.2.1 gb 0 i cap (by simp [Act.eval, Act.put]) A (es.length - (i + 1)) (cap - (i + 1)) (entsL (es.drop (i + 1))) (by simp [Act.eval, Act.put]) s1.out hsrc.out s2.out (by omega) s3.out ?_; rw [← hW.out]))
  go_wp2
  go_ret
  obtain ⟨hes, hb1, hl1, htk, hsz, hm, hblk, hel⟩ := HX.out
  have em : i + (es.length - (i + 1)) = es.length - 1 := by omega
  have hg1 : w.grownBy W1 (some gb) := by
    rw [hW.out]; exact World.grownBy.trans (b := w.drew) ⟨rfl, rfl, rfl, Nat.le_refl _, fun _ _ _ => rfl⟩ (grown_setCells gb _ _ _)
  have hb2 := heap_setCells gb 59 (0, 0) zeros34 ((es.length - 1) * 34) W1 _ hb1 (by rw [hl1]; simp [zeros34]; omega)
  have hse := s1.out
  refine ⟨by rw [← em]; rfl, ⟨?_, .inr ⟨gb, cap, _, rfl, Nat.zero_le _, hb2, by omega, hm, ?_, ?_⟩⟩, hg1.trans (grown_setCells gb _ _ _)⟩
  · rw [entsL_len _ (fun e h => hes e (List.mem_of_mem_eraseIdx h)), List.length_eraseIdx_of_lt hi]
  · have e5 : zeros34.length = 34 := rfl
    simp only [List.size_toArray, List.length_append, List.length_take, List.length_drop, e5] at hl1 ⊢
    omega
  · have e4 : List.take (0 + i * 34) cur.toList = entsL (es.take i) := by
      rw [Nat.zero_add, ← entsL_take es hes i (by omega), ← htk, List.take_take, Nat.min_eq_left (by omega)]
    have e6 : (entsL (es.take i) ++ entsL (es.drop (i + 1))).length = (es.length - 1) * 34 := by
      rw [List.length_append, hse, entsL_len _ (fun e h => hes e (List.mem_of_mem_take h)), List.length_take]; omega
    rw [e4]
    have e7 : entsL (es.eraseIdx i) = entsL (es.take i) ++ entsL (es.drop (i + 1)) := by
      rw [List.eraseIdx_eq_take_drop_succ]; simp [entsL]
    rw [e7]
    generalize entsL (es.take i) ++ entsL (es.drop (i + 1)) = Z at e6 ⊢
    rw [List.take_append_of_le_length (l₁ := Z) (by omega), List.take_of_length_le (l := Z) (by omega)]
    simp only [List.append_assoc]
    exact List.take_left' e6
end Go.Proofs.Ytbhibodgbgndbaa.B
/- cut and find of a backlog. No condition. -/
namespace Go.Proofs.Ytbhibodgbgndbaa.B
open Go Go.RowKit Go.Proofs Go.Proofs.YtbhibodgbgndbaaW.PrintWords Go.Proofs.YtbhibodgbgndbaaW.PrintLast Go.Proofs.YtbhibodgbgndbaaW.PrintMore
set_option linter.unusedVariables false
set_option linter.unusedSimpArgs false

theorem wrap_i64 (n : Int) (h1 : -9223372036854775808 ≤ n) (h2 : n ≤ 9223372036854775807) : IntKind.wrap .i64 n = n := by rw [IntKind.wrap_i64]; omega
theorem id_of_ent (w : World) (b o : Nat) (x : List Int) (d t : Int) (h : w.rangeAt b o (entL x d t)) : w.rangeAt b o (x.map (Value.int .u8)) := fun j v hv => by
  have hj := (List.getElem?_eq_some_iff.1 hv).1
  exact h j v (by unfold entL; rw [List.getElem?_append_left hj]; exact hv)
set_option maxHeartbeats 4000000 in
set_option maxRecDepth 100000 in
theorem cut_is (g gm gb : Nat) (cap wait : Int) (missed : Bool) (cp : Nat) (es : List Ent) (hes : ∀ e ∈ es, e.1.length = 32) (hn : es.length ≤ 1000000) (i : Nat) (e : Ent) (he : es[i]? = some e) (hid : Idok e.1) (out : List (List Int)) (w : World)
    (hB : BAt w g cap wait missed (.slice (some ⟨gb, 0, none⟩) es.length cp) gm) (ho : w.ownsRow 0 59 34 (.slice (some ⟨gb, 0, none⟩) es.length cp) es.length (entsL es)) (hO : OutAt w gm out) (h1 : gb ≠ g) (h2 : gb ≠ gm) (h3 : g ≠ gm) :
    Calls Try.prog 43 #[.pointer (some ⟨g, 0, none⟩), .int .i64 i] w fun e' w' => e' = .returned (.tuple #[]) ∧ ∃ w1 w2, w.grownBy w1 (some gm) ∧ OutAt w1 gm (out.erase e.1) ∧ w1.grownBy w2 (some gb) ∧
      w2.ownsRow 0 59 34 (.slice (some ⟨gb, 0, none⟩) (es.length - 1) cp) (es.length - 1) (entsL (es.eraseIdx i)) ∧ w' = w2.setCell ⟨g, 3, none⟩ (.slice (some ⟨gb, 0, none⟩) (es.length - 1) cp) := by
  have hu80 := Try.underlying80
  have hu30 := Try.underlying30
  obtain ⟨hi, hie⟩ := List.getElem?_eq_some_iff.1 he
  have hgl : g < w.heap.size := (Array.getElem?_eq_some_iff.1 hB).1
  have hgbl : gb < w.heap.size := (ho.lt gb rfl).2
  have hml := hO.lt
  obtain ⟨A, gb', cp', hv, hA, hE⟩ := ents_of_own hes ho
  cases hv
  have hA' := hA (by omega)
  cases hA'
  obtain ⟨hc0, hc1, hc2, hc3, hc4, hf2, hf3⟩ := bAt_cells hB
  have hr : w.rangeAt gb (i * 34) (e.1.map (Value.int .u8)) := id_of_ent w gb (i * 34) e.1 _ _ (hE i e he)
  have hi30 : (Try.prog.info? 30).map (·.size) = some (e.1.map (Value.int .u8)).length := by rw [List.length_map, hid.1]; exact info30
  have p1 : (0 : Int) ≤ (i : Int) := by omega
  have p2 : (i : Int) < (es.length : Int) := by omega
  have hw1 := wrap_i64 ((i : Int) + 1) (by omega) (by omega)
  have HX := Aside0.mk (And.intro hes (And.intro hid (And.intro hB (And.intro ho (And.intro hO (And.intro hf3 he))))))
  have HN := Aside0.mk (And.intro h1 (And.intro h2 (And.intro h3 (And.intro hgl (And.intro hgbl hml)))))
  clear hes hid hB ho hO hf3 he h1 h2 h3 hgl hgbl hml hE hA hc0 hc1 hc2 hf2 hie
  go_enter Try.func43, Try.ntmps43
  go_wp2
  go_region_held3 (fun w' => w'.cell? ⟨g, 3, none⟩ = some (.slice (some ⟨gb, 0, none⟩) es.length cp) ∧ w'.cell? ⟨g, 4, none⟩ = some (.map (some gm)) ∧ w'.rangeAt gb (i * 34) (e.1.map (Value.int .u8)))
    (first | go_keep_ranges | (go_split_ands; refine ⟨cell_grown (by assumption) (by assumption) (by simpa using HN.out.2.2.1), cell_grown (by assumption) (by assumption) (by simpa using HN.out.2.2.1), range_grown (by assumption) (by assumption) (by simpa using HN.out.2.1)⟩))
    (first | (refine step_del rfl (.tmp 7) (.tmp 15) rfl gm out (HX.out.2.2.2.2.1.kept rfl) e.1 HX.out.2.1 rfl rfl ?_; intro w1 ho1 hg1))
  replace hg1 : w.grownBy w1 (some gm) := ⟨hg1.os, hg1.tape, hg1.output, hg1.size, hg1.block⟩
  have r3 : w1.cell? ⟨g, 3, none⟩ = some (.slice (some ⟨gb, 0, none⟩) es.length cp) := cell_grown (W := w) hc3 hg1 (by simpa using HN.out.2.2.1)
  have rf3 : w1.frozen? ⟨g, 3, none⟩ = false := fro_grown (W := w) hc3 HX.out.2.2.2.2.2.1 hg1 (by simpa using HN.out.2.2.1)
  have ho2 := Aside0.mk (own_kept (w' := w1) HX.out.2.2.2.1 (fun k hk => by cases hk; exact hg1.block gb HN.out.2.2.2.2.1 (by simpa using HN.out.2.1)))
  have HG := Aside0.mk hg1
  have HO1 := Aside0.mk ho1
  clear hg1 ho1 hr
  go_wp2_with (first | (go_at_call 65; refine (delete_is es HX.out.1 hn i hi gb cp w1 ho2.out).mono ?_; rintro e_ w2 ⟨rfl, hod, hg2⟩; have r4 := cell_grown r3 hg2 (by simpa using fun e => HN.out.1 e.symm); have rf4 := fro_grown r3 rf3 hg2 (by simpa using fun e => HN.out.1 e.symm)))
  refine bodyPost_end (v := .tuple #[]) (results_none rfl _ _ _) rfl ?_
  exact ⟨rfl, w1, w2, HG.out, HO1.out, hg2, hod, rfl⟩
end Go.Proofs.Ytbhibodgbgndbaa.B
/- cut, find, Offered, Drop of a backlog, told plainly. No condition. -/
namespace Go.Proofs.Ytbhibodgbgndbaa.B
open Go Go.RowKit Go.Proofs Go.Proofs.YtbhibodgbgndbaaW.PrintWords Go.Proofs.YtbhibodgbgndbaaW.PrintLast Go.Proofs.YtbhibodgbgndbaaW.PrintMore
set_option linter.unusedVariables false
set_option linter.unusedSimpArgs false

theorem WF.cut {s : St} (h : WF s) (hout : s.out.Nodup) {i : Nat} {e : Ent} (he : s.es[i]? = some e) : WF { s with es := s.es.eraseIdx i, out := s.out.erase e.1 } := by
  obtain ⟨hi, hie⟩ := List.getElem?_eq_some_iff.1 he
  have hm : (s.es.eraseIdx i).map (·.1) = (s.es.map (·.1)).eraseIdx i := by simp [List.eraseIdx_eq_take_drop_succ]
  refine ⟨h.cap1, h.cap2, h.wait1, h.wait2, ?_, fun e he => h.ids e (List.mem_of_mem_eraseIdx he), ?_, fun y hy => ?_⟩
  · have := h.few; simp [List.length_eraseIdx_of_lt hi]; omega
  · rw [hm]; exact h.nod.sublist (List.eraseIdx_sublist _ _)
  · have h1 := hout.mem_erase_iff.1 hy
    have h2 := h.sub y h1.2
    rw [hm]
    obtain ⟨j, hj, hjy⟩ := List.getElem_of_mem h2
    have hji : j ≠ i := by
      rintro rfl
      apply h1.1
      rw [← hjy]; simp [hie]
    exact List.mem_eraseIdx_iff_getElem.2 ⟨j, hj, hji, hjy⟩
theorem cutS {w : World} {F : Nat → Prop} {g gm : Nat} {s : St} (h : BL w F g gm s) {i : Nat} {e : Ent} (he : s.es[i]? = some e) :
    Calls Try.prog 43 #[.pointer (some ⟨g, 0, none⟩), .int .i64 i] w fun e' w' => e' = .returned (.tuple #[]) ∧ After F g gm w w' { s with es := s.es.eraseIdx i, out := s.out.erase e.1 } := by
  obtain ⟨v, h1, h2, h3⟩ := h.blk
  obtain ⟨hi, hie⟩ := List.getElem?_eq_some_iff.1 he
  obtain ⟨gb, cp, rfl, _, hgl⟩ := h2.form (by omega)
  obtain ⟨k1, k2, k3⟩ := h3 gb rfl
  refine (cut_is g gm gb s.cap s.wait s.missed cp s.es h.wf.l32 h.wf.len i e he (h.wf.ids e (List.mem_of_getElem? he)) s.out w h1 h2 h.map k2 k3 h.ne).mono ?_
  rintro e' w' ⟨rfl, w1, w2, hg1, hO, hg2, ho, rfl⟩
  refine ⟨rfl, ?_⟩
  have l1 := h.lt g h.fg
  have l2 := h.lt gm h.fm
  have z1 := hg1.size
  have z2 := hg2.size
  have b1 : w2.heap[g]? = w.heap[g]? := (hg2.block g (by omega) (by simpa using fun e => k2 e.symm)).trans (hg1.block g l1 (by simpa using h.ne))
  have b2 : (w2.setCell ⟨g, 3, none⟩ (.slice (some ⟨gb, 0, none⟩) (s.es.length - 1) cp)).heap[gm]? = w1.heap[gm]? := by
    rw [Below.heap_setCell _ _ _ _ (fun e => h.ne e.symm)]
    exact hg2.block gm (by omega) (by simpa using fun e => k3 e.symm)
  have hU : Upd F w w2 := (Upd.grown (F := F) hg1 (by rintro k hk; cases hk; exact h.fm)).trans (Upd.grown (F := F) hg2 (by rintro k hk; cases hk; exact k1)) (fun k hk => .inl hk)
  have hle : (s.es.eraseIdx i).length = s.es.length - 1 := List.length_eraseIdx_of_lt hi
  refine ⟨F, ⟨⟨_, bAt_set3 (b1.trans h1) _, ?_, fun k hk => by cases hk; exact ⟨k1, k2, k3⟩⟩, hO.kept b2, h.fg, h.fm, h.ne, fun k hk => ?_, h.wf.cut h.map.nodup he⟩, fun k hk => .inl hk, hU.trans (Upd.set (F := F) h.fg _) (fun k hk => .inl hk)⟩
  · show World.ownsRow _ _ _ _ _ (s.es.eraseIdx i).length _
    rw [hle]
    exact own_set ho (fun k hk => by cases hk; exact k2) _
  · have := h.lt k hk; simp [World.setCell]; omega
theorem idx_some (y : List Int) : ∀ (es : List Ent) (k : Nat), y ∈ es.map (·.1) → ∃ (i : Nat) (e : Ent), idxGo y es k = ((k + i : Nat) : Int) ∧ es[i]? = some e ∧ e.1 = y
  | [], k, h => by simp at h
  | e :: es, k, h => by
    by_cases he : e.1 = y
    · exact ⟨0, e, by unfold idxGo; rw [if_pos he]; rfl, rfl, he⟩
    · have : y ∈ es.map (·.1) := by
        rcases List.mem_cons.1 h with h | h
        · exact absurd h.symm he
        · exact h
      obtain ⟨i, e2, h1, h2, h3⟩ := idx_some y es (k + 1) this
      exact ⟨i + 1, e2, by unfold idxGo; rw [if_neg he, h1]; congr 1; omega, by simpa using h2, h3⟩
def look78 (m x : Value) : Sem Value := Instr.lookup 78 m x false
@[go_sem ↓] theorem execOp_look78 (ρ : Operand → Value) (dst : Option Tmp) (m x : Operand) (ty : TypeId) (pos : String) (after : Array Edge) (guard : Option (Nat × Bool)) :
    execOp ρ { dst, op := .lookup 78 m x false, type := ty, pos, after, guard } = (do pure (.value (← look78 (ρ m) (ρ x)))) := by simp [execOp, look78]
attribute [local go_sem ↓] execOp_ld30
set_option maxHeartbeats 4000000 in
set_option maxRecDepth 100000 in
theorem find_none (w : World) (F : Nat → Prop) (g gm : Nat) (s : St) (h : BL w F g gm s) (x : List Int) (hx : Idok x) (b : Bool) (hn : x ∉ s.es.map (·.1)) :
    Calls Try.prog 44 #[.pointer (some ⟨g, 0, none⟩), idV x, .bool b] w fun e w' => e = .returned (.tuple #[.int .i64 0, .int .i64 8]) ∧ Below w.heap.size w w' := by
  have HX := Aside0.mk hx
  have HB := Aside0.mk h
  have HI : idxOf s.es x = -1 := idxGo_no x s.es 0 hn
  clear hx h
  unfold idV
  go_enter Try.func44, Try.ntmps44
  go_wp2_with (first | (go_at_call 42; refine (idxS (HB.out.below (below_alloc (Below.refl _ _) _)) HX.out).mono ?_; rintro e_ w1 ⟨rfl, hb1⟩; rw [HI]) | (refine wpList_load_mid rfl 30 (.tmp 4) rfl w.heap.size 0 rfl (x.map (Value.int .u8)) _ (id_range w x) Try.underlying30 rfl (by rw [List.length_map, HX.out.1]; exact info30) ?_))
  go_ret2
  exact ⟨rfl, (below_alloc (Below.refl _ _) _).trans (hb1.mono (by simp))⟩
set_option maxHeartbeats 4000000 in
set_option maxRecDepth 100000 in
theorem find_hit (w : World) (F : Nat → Prop) (g gm : Nat) (s : St) (h : BL w F g gm s) (x : List Int) (hx : Idok x) (b : Bool) (i : Nat) (hi : idxOf s.es x = (i : Int)) (hr : decide (x ∈ s.out) = b) :
    Calls Try.prog 44 #[.pointer (some ⟨g, 0, none⟩), idV x, .bool b] w fun e w' => e = .returned (.tuple #[.int .i64 i, .int .i64 0]) ∧ Below w.heap.size w w' := by
  have HX := Aside0.mk hx
  have HB := Aside0.mk h
  have HI := Aside0.mk hi
  have HR := Aside0.mk hr
  have hu80 := Try.underlying80
  have hu30 := Try.underlying30
  have hi30 : (Try.prog.info? 30).map (·.size) = some (x.map (Value.int .u8)).length := by rw [List.length_map, hx.1]; exact info30
  have hd : decide ((i : Int) < 0) = false := decide_eq_false (by omega)
  clear hx h hi hr
  unfold idV
  go_enter Try.func44, Try.ntmps44
  go_wp2_with (first | (go_at_call 42; refine (idxS (HB.out.below (below_alloc (Below.refl _ _) _)) HX.out).mono ?_; rintro e_ w1 ⟨rfl, hb1⟩; rw [HI.out]; have HW := Aside0.mk ((below_alloc (Below.refl w.heap.size w) (.cells (idC x) 30)).trans (hb1.mono (by simp))); have HID := (show w1.rangeAt w.heap.size 0 (x.map (Value.int .u8)) from fun j v_ hv => by have h0 := id_range w x j v_ hv; exact (hb1.cell (World.block_lt_of_cell? _ _ h0)).trans h0); obtain ⟨v, h1, h2, h3⟩ := (HB.out.below HW.out).blk; have hc4 : w1.cell? ⟨g, 4, none⟩ = some (.map (some gm)) := (blk_cell h1 4).trans rfl; have hlk := fun W hW => ((HB.out.below HW.out).map.kept (w' := W) hW).look HX.out; rw [HR.out] at hlk; clear h1 h2 h3 hb1) | (refine wpList_load_mid rfl 30 (.tmp 4) rfl w.heap.size 0 rfl (x.map (Value.int .u8)) _ (id_range w x) Try.underlying30 rfl (by rw [List.length_map, HX.out.1]; exact info30) ?_))
  have hlk2 : ∀ n, (look78 (.map (some gm)) (.agg (x.map (Value.int .u8)).toArray)).run Try.prog (w1.drewN n) = .ok (.bool b) (w1.drewN n) := fun n => hlk _ rfl
  have hlk3 : (look78 (.map (some gm)) (.agg (x.map (Value.int .u8)).toArray)).run Try.prog w1 = .ok (.bool b) w1 := hlk _ rfl
  have hld2 : ∀ n, (ld30 (.pointer (some ⟨w.heap.size, 0, none⟩))).run Try.prog (w1.drewN n) = .ok (.agg (x.map (Value.int .u8)).toArray) (w1.drewN n) := fun n => run_ld30 _ _ x HX.out.1 HID
  have hld3 : (ld30 (.pointer (some ⟨w.heap.size, 0, none⟩))).run Try.prog w1 = .ok (.agg (x.map (Value.int .u8)).toArray) w1 := run_ld30 _ _ x HX.out.1 HID
  clear hlk
  go_quiet (fail)
  go_wp2
  go_ret2
  exact ⟨by first | rfl | simp, pw_below_drewN HW.out _⟩
set_option maxHeartbeats 4000000 in
set_option maxRecDepth 100000 in
theorem find_miss (w : World) (F : Nat → Prop) (g gm : Nat) (s : St) (h : BL w F g gm s) (x : List Int) (hx : Idok x) (b : Bool) (i : Nat) (hi : idxOf s.es x = (i : Int)) (r : Bool) (hr : decide (x ∈ s.out) = r) (hne : r ≠ b) :
    Calls Try.prog 44 #[.pointer (some ⟨g, 0, none⟩), idV x, .bool b] w fun e w' => e = .returned (.tuple #[.int .i64 0, .int .i64 10]) ∧ Below w.heap.size w w' := by
  have HX := Aside0.mk hx
  have HB := Aside0.mk h
  have HI := Aside0.mk hi
  have HR := Aside0.mk hr
  have hu80 := Try.underlying80
  have hu30 := Try.underlying30
  have hi30 : (Try.prog.info? 30).map (·.size) = some (x.map (Value.int .u8)).length := by rw [List.length_map, hx.1]; exact info30
  have hq : (r == b) = false := by simpa using hne
  have hd : decide ((i : Int) < 0) = false := decide_eq_false (by omega)
  clear hx h hi hr
  unfold idV
  go_enter Try.func44, Try.ntmps44
  go_wp2_with (first | (go_at_call 42; refine (idxS (HB.out.below (below_alloc (Below.refl _ _) _)) HX.out).mono ?_; rintro e_ w1 ⟨rfl, hb1⟩; rw [HI.out]; have HW := Aside0.mk ((below_alloc (Below.refl w.heap.size w) (.cells (idC x) 30)).trans (hb1.mono (by simp))); have HID := (show w1.rangeAt w.heap.size 0 (x.map (Value.int .u8)) from fun j v_ hv => by have h0 := id_range w x j v_ hv; exact (hb1.cell (World.block_lt_of_cell? _ _ h0)).trans h0); obtain ⟨v, h1, h2, h3⟩ := (HB.out.below HW.out).blk; have hc4 : w1.cell? ⟨g, 4, none⟩ = some (.map (some gm)) := (blk_cell h1 4).trans rfl; have hlk := fun W hW => ((HB.out.below HW.out).map.kept (w' := W) hW).look HX.out; rw [HR.out] at hlk; clear h1 h2 h3 hb1) | (refine wpList_load_mid rfl 30 (.tmp 4) rfl w.heap.size 0 rfl (x.map (Value.int .u8)) _ (id_range w x) Try.underlying30 rfl (by rw [List.length_map, HX.out.1]; exact info30) ?_))
  have hlk2 : ∀ n, (look78 (.map (some gm)) (.agg (x.map (Value.int .u8)).toArray)).run Try.prog (w1.drewN n) = .ok (.bool r) (w1.drewN n) := fun n => hlk _ rfl
  have hlk3 : (look78 (.map (some gm)) (.agg (x.map (Value.int .u8)).toArray)).run Try.prog w1 = .ok (.bool r) w1 := hlk _ rfl
  have hld2 : ∀ n, (ld30 (.pointer (some ⟨w.heap.size, 0, none⟩))).run Try.prog (w1.drewN n) = .ok (.agg (x.map (Value.int .u8)).toArray) (w1.drewN n) := fun n => run_ld30 _ _ x HX.out.1 HID
  have hld3 : (ld30 (.pointer (some ⟨w.heap.size, 0, none⟩))).run Try.prog w1 = .ok (.agg (x.map (Value.int .u8)).toArray) w1 := run_ld30 _ _ x HX.out.1 HID
  clear hlk
  go_quiet (fail)
  go_wp2
  go_ret2
  exact ⟨by first | rfl | simp, pw_below_drewN HW.out _⟩
/-- find, plainly. -/
def findS (s : St) (x : List Int) (b : Bool) : Int × Int := if x ∈ s.es.map (·.1) then (if decide (x ∈ s.out) = b then (idxOf s.es x, 0) else (0, 10)) else (0, 8)
theorem find_is {w : World} {F : Nat → Prop} {g gm : Nat} {s : St} (h : BL w F g gm s) {x : List Int} (hx : Idok x) (b : Bool) :
    Calls Try.prog 44 #[.pointer (some ⟨g, 0, none⟩), idV x, .bool b] w fun e w' => e = .returned (.tuple #[.int .i64 (findS s x b).1, .int .i64 (findS s x b).2]) ∧ Below w.heap.size w w' := by
  unfold findS
  by_cases hm : x ∈ s.es.map (·.1)
  · rw [if_pos hm]
    obtain ⟨i, e, h1, h2, h3⟩ := idx_some x s.es 0 hm
    have hi : idxOf s.es x = ((0 + i : Nat) : Int) := h1
    by_cases hr : decide (x ∈ s.out) = b
    · rw [if_pos hr, hi]
      exact find_hit w F g gm s h x hx b _ hi hr
    · rw [if_neg hr]
      exact find_miss w F g gm s h x hx b _ hi _ rfl hr
  · rw [if_neg hm]
    exact find_none w F g gm s h x hx b hm
end Go.Proofs.Ytbhibodgbgndbaa.B
/- Offered, Answered, Remove, Drop of a backlog, told plainly. No condition. -/
namespace Go.Proofs.Ytbhibodgbgndbaa.B
open Go Go.RowKit Go.Proofs Go.Proofs.YtbhibodgbgndbaaW.PrintWords Go.Proofs.YtbhibodgbgndbaaW.PrintLast Go.Proofs.YtbhibodgbgndbaaW.PrintMore
set_option linter.unusedVariables false
set_option linter.unusedSimpArgs false

def upd78 (m x v : Value) : Sem Unit := Instr.mapUpdate 78 m x v
@[go_sem ↓] theorem execOp_upd78 (ρ : Operand → Value) (dst : Option Tmp) (m x v : Operand) (ty : TypeId) (pos : String) (after : Array Edge) (guard : Option (Nat × Bool)) :
    execOp ρ { dst, op := .mapUpdate 78 m x v, type := ty, pos, after, guard } = (do upd78 (ρ m) (ρ x) (ρ v); pure .skip) := by simp [execOp, upd78]
theorem box_range {w w1 : World} {x : List Int} (hb : Below (w.heap.size + 1) (w.alloc (.cells (idC x) 30)) w1) : w1.rangeAt w.heap.size 0 (x.map (Value.int .u8)) := fun j v_ hv => by
  have h0 := id_range w x j v_ hv
  exact (hb.cell (by show w.heap.size < _; omega)).trans h0
theorem box_range2 {w w1 : World} {x : List Int} (hb : Below (w.alloc (.cells (idC x) 30)).heap.size (w.alloc (.cells (idC x) 30)) w1) : w1.rangeAt w.heap.size 0 (x.map (Value.int .u8)) := box_range (by simpa using hb)
theorem drewN_mk (W : World) (n : Nat) : Below W.heap.size W (W.drewN n) := pw_below_drewN (Below.refl _ _) n
/-- Offered, plainly. -/
def offS (s : St) (x : List Int) : St × Int := if (findS s x false).2 = 0 then ({ s with out := putO x s.out }, 0) else (s, (findS s x false).2)
theorem find0 {s : St} {x : List Int} {b : Bool} (h : (findS s x b).2 = 0) : x ∈ s.es.map (·.1) ∧ decide (x ∈ s.out) = b ∧ (findS s x b).1 = idxOf s.es x := by
  unfold findS at h ⊢
  by_cases hm : x ∈ s.es.map (·.1)
  · rw [if_pos hm] at h ⊢
    by_cases hr : decide (x ∈ s.out) = b
    · rw [if_pos hr]; exact ⟨hm, hr, rfl⟩
    · rw [if_neg hr] at h; simp at h
  · rw [if_neg hm] at h; simp at h
theorem BL.put {w w1 w2 : World} {F : Nat → Prop} {g gm : Nat} {s : St} (h : BL w F g gm s) (hb : Below w.heap.size w w1) (hg : w1.grownBy w2 (some gm)) {o : List (List Int)} (ho : OutAt w2 gm o) (hs : ∀ y ∈ o, y ∈ s.es.map (·.1)) : After F g gm w w2 { s with out := o } := by
  have h1 := h.below hb
  obtain ⟨v, k1, k2, k3⟩ := h1.blk
  have l1 := h1.lt g h.fg
  refine ⟨F, ⟨⟨v, (hg.block g l1 (by simpa using h.ne)).trans k1, k2.kept hg ?_, k3⟩, ho, h.fg, h.fm, h.ne, fun k hk => Nat.lt_of_lt_of_le (h1.lt k hk) hg.size, ⟨h.wf.cap1, h.wf.cap2, h.wf.wait1, h.wf.wait2, h.wf.few, h.wf.ids, h.wf.nod, hs⟩⟩, fun k hk => .inl hk, (Upd.of_below (F := F) hb).trans (Upd.grown (F := F) hg (by rintro k hk; cases hk; exact h.fm)) (fun k hk => .inl hk)⟩
  by_cases e : v.ownBlock = some gm
  · exact absurd rfl (k3 gm e).2.2
  · exact .inr e
set_option maxHeartbeats 4000000 in
set_option maxRecDepth 100000 in
theorem off_yes {w : World} {F : Nat → Prop} {g gm : Nat} {s : St} (h : BL w F g gm s) {x : List Int} (hx : Idok x) (hf : (findS s x false).2 = 0) :
    Calls Try.prog 18 #[.pointer (some ⟨g, 0, none⟩), idV x] w fun e w' => e = .returned (.int .i64 0) ∧ After F g gm w w' { s with out := putO x s.out } := by
  have HX := Aside0.mk hx
  have HB := Aside0.mk h
  have HF := Aside0.mk hf
  have hu80 := Try.underlying80
  have hu30 := Try.underlying30
  have hi30 : (Try.prog.info? 30).map (·.size) = some (x.map (Value.int .u8)).length := by rw [List.length_map, hx.1]; exact info30
  clear hx h hf
  unfold idV
  go_enter Try.func18, Try.ntmps18
  go_wp2_with (first | (go_at_call 44; refine (find_is (HB.out.below (below_alloc (Below.refl _ _) _)) HX.out false).mono ?_; rintro e_ w1 ⟨rfl, hb1⟩; rw [HF.out]; have HW := Aside0.mk ((below_alloc (Below.refl w.heap.size w) (.cells (idC x) 30)).trans (hb1.mono (by simp))); have HID := box_range2 hb1; obtain ⟨v, h1, h2, h3⟩ := (HB.out.below HW.out).blk; have hc4 : w1.cell? ⟨g, 4, none⟩ = some (.map (some gm)) := (blk_cell h1 4).trans rfl; clear h1 h2 h3 hb1) | (refine wpList_load_mid rfl 30 (.tmp 3) rfl w.heap.size 0 rfl (x.map (Value.int .u8)) _ (id_range w x) Try.underlying30 rfl (by rw [List.length_map, HX.out.1]; exact info30) ?_))
  obtain ⟨wf, hup1, ho1, hg1⟩ : ∃ w', (upd78 (.map (some gm)) (.agg (x.map (Value.int .u8)).toArray) (.bool true)).run Try.prog w1.drew = .ok () w' ∧ OutAt w' gm (putO x s.out) ∧ w1.drew.grownBy w' (some gm) := ((HB.out.below HW.out).map.kept (w' := w1.drew) rfl).put HB.out.outlen HX.out
  have HO := Aside0.mk (And.intro ho1 hg1)
  have HN : Aside0 (some g ≠ some gm ∧ some w.heap.size ≠ some gm) := ⟨⟨by simpa using HB.out.ne, by have := HB.out.map.lt; simp; omega⟩⟩
  clear ho1 hg1
  go_region_held3 (fun w' => w'.cell? ⟨g, 4, none⟩ = some (.map (some gm)) ∧ w'.rangeAt w.heap.size 0 (x.map (Value.int .u8)))
    (first | go_keep_ranges | (go_split_ands; refine ⟨cell_grown (by assumption) HO.out.2 HN.out.1, range_grown (by assumption) HO.out.2 HN.out.2⟩))
    (fail)
  go_wp2
  go_ret
  exact ⟨rfl, HB.out.put (below_drew1 HW.out) HO.out.2 HO.out.1 (fun y hy => by
    unfold putO at hy
    split at hy
    · exact HB.out.wf.sub y hy
    · rcases List.mem_cons.1 hy with rfl | hy
      · exact (find0 HF.out).1
      · exact HB.out.wf.sub y hy)⟩
set_option maxHeartbeats 4000000 in
set_option maxRecDepth 100000 in
theorem off_no {w : World} {F : Nat → Prop} {g gm : Nat} {s : St} (h : BL w F g gm s) {x : List Int} (hx : Idok x) (hf : (findS s x false).2 ≠ 0) :
    Calls Try.prog 18 #[.pointer (some ⟨g, 0, none⟩), idV x] w fun e w' => e = .returned (.int .i64 (findS s x false).2) ∧ Below w.heap.size w w' := by
  have HX := Aside0.mk hx
  have HB := Aside0.mk h
  obtain ⟨q, hq⟩ : ∃ q, q = (findS s x false).2 := ⟨_, rfl⟩
  have HQ := Aside0.mk hq
  rw [← hq] at hf ⊢
  have hd : (q == 0) = false := by simpa using hf
  clear hx h hf hq
  unfold idV
  go_enter Try.func18, Try.ntmps18
  go_wp2_with (first | (go_at_call 44; refine (find_is (HB.out.below (below_alloc (Below.refl _ _) _)) HX.out false).mono ?_; rintro e_ w1 ⟨rfl, hb1⟩; rw [← HQ.out]; have HW := Aside0.mk ((below_alloc (Below.refl w.heap.size w) (.cells (idC x) 30)).trans (hb1.mono (by simp))); clear hb1) | (refine wpList_load_mid rfl 30 (.tmp 3) rfl w.heap.size 0 rfl (x.map (Value.int .u8)) _ (id_range w x) Try.underlying30 rfl (by rw [List.length_map, HX.out.1]; exact info30) ?_))
  go_ret
  exact ⟨rfl, HW.out⟩
theorem offered_is {w : World} {F : Nat → Prop} {g gm : Nat} {s : St} (h : BL w F g gm s) {x : List Int} (hx : Idok x) :
    Calls Try.prog 18 #[.pointer (some ⟨g, 0, none⟩), idV x] w fun e w' => e = .returned (.int .i64 (offS s x).2) ∧ After F g gm w w' (offS s x).1 := by
  unfold offS
  by_cases hf : (findS s x false).2 = 0
  · rw [if_pos hf]
    exact off_yes h hx hf
  · rw [if_neg hf]
    exact (off_no h hx hf).mono fun e w' ⟨he, hb⟩ => ⟨he, .same h hb⟩
/-- The state behind cut. -/
def cutE (s : St) (i : Nat) (x : List Int) : St := { s with es := s.es.eraseIdx i, out := s.out.erase x }
/-- Answered, plainly. -/
def ansS (s : St) (x : List Int) : St × Int := if (findS s x true).2 = 0 then (cutE s (idxOf s.es x).toNat x, 0) else (s, (findS s x true).2)
set_option maxHeartbeats 4000000 in
set_option maxRecDepth 100000 in
theorem ans_yes {w : World} {F : Nat → Prop} {g gm : Nat} {s : St} (h : BL w F g gm s) {x : List Int} (hx : Idok x) (hf : (findS s x true).2 = 0) (i : Nat) (hi : (findS s x true).1 = (i : Int)) (e : Ent) (he : s.es[i]? = some e) (hex : e.1 = x) :
    Calls Try.prog 25 #[.pointer (some ⟨g, 0, none⟩), idV x] w fun e w' => e = .returned (.int .i64 0) ∧ After F g gm w w' (cutE s i x) := by
  have HX := Aside0.mk hx
  have HB := Aside0.mk h
  have HF := Aside0.mk (And.intro hf (And.intro hi (And.intro he hex)))
  clear hx h hf hi he hex
  unfold idV
  go_enter Try.func25, Try.ntmps25
  go_wp2_with (first | (go_at_call 44; refine (find_is (HB.out.below (below_alloc (Below.refl _ _) _)) HX.out true).mono ?_; rintro e_ w1 ⟨rfl, hb1⟩; rw [HF.out.1, HF.out.2.1]; have HW := Aside0.mk ((below_alloc (Below.refl w.heap.size w) (.cells (idC x) 30)).trans (hb1.mono (by simp))); clear hb1) | (go_at_call 43; refine (cutS (HB.out.below HW.out) HF.out.2.2.1).mono ?_; rintro e_ w2 ⟨rfl, ha⟩) | (refine wpList_load_mid rfl 30 (.tmp 3) rfl w.heap.size 0 rfl (x.map (Value.int .u8)) _ (id_range w x) Try.underlying30 rfl (by rw [List.length_map, HX.out.1]; exact info30) ?_))
  go_ret
  refine ⟨rfl, .preB HW.out ?_⟩
  rw [HF.out.2.2.2] at ha
  exact ha
set_option maxHeartbeats 4000000 in
set_option maxRecDepth 100000 in
theorem ans_no {w : World} {F : Nat → Prop} {g gm : Nat} {s : St} (h : BL w F g gm s) {x : List Int} (hx : Idok x) (hf : (findS s x true).2 ≠ 0) :
    Calls Try.prog 25 #[.pointer (some ⟨g, 0, none⟩), idV x] w fun e w' => e = .returned (.int .i64 (findS s x true).2) ∧ Below w.heap.size w w' := by
  have HX := Aside0.mk hx
  have HB := Aside0.mk h
  obtain ⟨q, hq⟩ : ∃ q, q = (findS s x true).2 := ⟨_, rfl⟩
  have HQ := Aside0.mk hq
  rw [← hq] at hf ⊢
  have hd : (q == 0) = false := by simpa using hf
  clear hx h hf hq
  unfold idV
  go_enter Try.func25, Try.ntmps25
  go_wp2_with (first | (go_at_call 44; refine (find_is (HB.out.below (below_alloc (Below.refl _ _) _)) HX.out true).mono ?_; rintro e_ w1 ⟨rfl, hb1⟩; rw [← HQ.out]; have HW := Aside0.mk ((below_alloc (Below.refl w.heap.size w) (.cells (idC x) 30)).trans (hb1.mono (by simp))); clear hb1) | (refine wpList_load_mid rfl 30 (.tmp 3) rfl w.heap.size 0 rfl (x.map (Value.int .u8)) _ (id_range w x) Try.underlying30 rfl (by rw [List.length_map, HX.out.1]; exact info30) ?_))
  go_ret
  exact ⟨rfl, HW.out⟩
theorem find_at {s : St} {x : List Int} {b : Bool} (h : (findS s x b).2 = 0) : ∃ (i : Nat) (e : Ent), (findS s x b).1 = (i : Int) ∧ s.es[i]? = some e ∧ e.1 = x ∧ (idxOf s.es x).toNat = i := by
  obtain ⟨h1, h2, h3⟩ := find0 h
  obtain ⟨i, e, k1, k2, k3⟩ := idx_some x s.es 0 h1
  have k4 : idxOf s.es x = ((0 + i : Nat) : Int) := k1
  exact ⟨i, e, by rw [h3, k4]; simp, k2, k3, by rw [k4]; simp⟩
theorem answered_is {w : World} {F : Nat → Prop} {g gm : Nat} {s : St} (h : BL w F g gm s) {x : List Int} (hx : Idok x) :
    Calls Try.prog 25 #[.pointer (some ⟨g, 0, none⟩), idV x] w fun e w' => e = .returned (.int .i64 (ansS s x).2) ∧ After F g gm w w' (ansS s x).1 := by
  unfold ansS
  by_cases hf : (findS s x true).2 = 0
  · rw [if_pos hf]
    obtain ⟨i, e, h1, h2, h3, h4⟩ := find_at hf
    rw [h4]
    exact ans_yes h hx hf i h1 e h2 h3
  · rw [if_neg hf]
    exact (ans_no h hx hf).mono fun e w' ⟨he, hb⟩ => ⟨he, .same h hb⟩
/-- Remove, plainly. -/
def remS (s : St) (x : List Int) : St × Bool := if x ∈ s.es.map (·.1) then (cutE s (idxOf s.es x).toNat x, true) else (s, false)
set_option maxHeartbeats 4000000 in
set_option maxRecDepth 100000 in
theorem rem_yes {w : World} {F : Nat → Prop} {g gm : Nat} {s : St} (h : BL w F g gm s) {x : List Int} (hx : Idok x) (hm : x ∈ s.es.map (·.1)) (i : Nat) (hi : idxOf s.es x = (i : Int)) (e : Ent) (he : s.es[i]? = some e) (hex : e.1 = x) :
    Calls Try.prog 17 #[.pointer (some ⟨g, 0, none⟩), idV x] w fun e w' => e = .returned (.bool true) ∧ After F g gm w w' (cutE s i x) := by
  have HX := Aside0.mk hx
  have HB := Aside0.mk h
  have HF := Aside0.mk (And.intro hm (And.intro hi (And.intro he hex)))
  clear hx h hm hi he hex
  unfold idV
  go_enter Try.func17, Try.ntmps17
  go_wp2_with (first | (go_at_call 16; refine (hasS (HB.out.below (below_alloc (Below.refl _ _) _)) HX.out).mono ?_; rintro e_ w1 ⟨rfl, hb1⟩; rw [decide_eq_true HF.out.1]; have HW := Aside0.mk ((below_alloc (Below.refl w.heap.size w) (.cells (idC x) 30)).trans (hb1.mono (by simp))); have HID := Aside0.mk (box_range2 hb1); clear hb1) | (go_at_call 42; refine (idxS (HB.out.below HW.out) HX.out).mono ?_; rintro e_ w2 ⟨rfl, hb2⟩; rw [HF.out.2.1]; have HW2 := Aside0.mk (HW.out.trans (hb2.mono HW.out.size)); clear hb2) | (go_at_call 43; refine (cutS (HB.out.below HW2.out) HF.out.2.2.1).mono ?_; rintro e_ w3 ⟨rfl, ha⟩) | (refine wpList_load_mid rfl 30 (.tmp 3) rfl w.heap.size 0 rfl (x.map (Value.int .u8)) _ (id_range w x) Try.underlying30 rfl (by rw [List.length_map, HX.out.1]; exact info30) ?_) | (refine wpList_load_mid rfl 30 (.tmp 3) rfl w.heap.size 0 rfl (x.map (Value.int .u8)) _ HID.out Try.underlying30 rfl (by rw [List.length_map, HX.out.1]; exact info30) ?_))
  go_ret
  refine ⟨rfl, .preB HW2.out ?_⟩
  rw [HF.out.2.2.2] at ha
  exact ha
set_option maxHeartbeats 4000000 in
set_option maxRecDepth 100000 in
theorem rem_no {w : World} {F : Nat → Prop} {g gm : Nat} {s : St} (h : BL w F g gm s) {x : List Int} (hx : Idok x) (hm : x ∉ s.es.map (·.1)) :
    Calls Try.prog 17 #[.pointer (some ⟨g, 0, none⟩), idV x] w fun e w' => e = .returned (.bool false) ∧ Below w.heap.size w w' := by
  have HX := Aside0.mk hx
  have HB := Aside0.mk h
  have HF := Aside0.mk hm
  clear hx h hm
  unfold idV
  go_enter Try.func17, Try.ntmps17
  go_wp2_with (first | (go_at_call 16; refine (hasS (HB.out.below (below_alloc (Below.refl _ _) _)) HX.out).mono ?_; rintro e_ w1 ⟨rfl, hb1⟩; rw [decide_eq_false HF.out]; have HW := Aside0.mk ((below_alloc (Below.refl w.heap.size w) (.cells (idC x) 30)).trans (hb1.mono (by simp))); clear hb1) | (refine wpList_load_mid rfl 30 (.tmp 3) rfl w.heap.size 0 rfl (x.map (Value.int .u8)) _ (id_range w x) Try.underlying30 rfl (by rw [List.length_map, HX.out.1]; exact info30) ?_))
  go_ret
  exact ⟨rfl, HW.out⟩
theorem remove_is {w : World} {F : Nat → Prop} {g gm : Nat} {s : St} (h : BL w F g gm s) {x : List Int} (hx : Idok x) :
    Calls Try.prog 17 #[.pointer (some ⟨g, 0, none⟩), idV x] w fun e w' => e = .returned (.bool (remS s x).2) ∧ After F g gm w w' (remS s x).1 := by
  unfold remS
  by_cases hm : x ∈ s.es.map (·.1)
  · rw [if_pos hm]
    obtain ⟨i, e, k1, k2, k3⟩ := idx_some x s.es 0 hm
    have k4 : idxOf s.es x = ((0 + i : Nat) : Int) := k1
    rw [Nat.zero_add] at k4
    rw [show (idxOf s.es x).toNat = i by rw [k4]; simp]
    exact rem_yes h hx hm i k4 e k2 k3
  · rw [if_neg hm]
    exact (rem_no h hx hm).mono fun e w' ⟨he, hb⟩ => ⟨he, .same h hb⟩
end Go.Proofs.Ytbhibodgbgndbaa.B
/- An entry in a new block; Drop; All. No condition. -/
namespace Go.Proofs.Ytbhibodgbgndbaa.B
open Go Go.RowKit Go.Proofs Go.MapKept Go.ChangeMaps Go.Proofs.YtbhibodgbgndbaaW.PrintWords Go.Proofs.YtbhibodgbgndbaaW.PrintLast Go.Proofs.YtbhibodgbgndbaaW.PrintMore
set_option linter.unusedVariables false
set_option linter.unusedSimpArgs false

/-! an entry in the block that was made last -/
def alc59 : Sem Value := Instr.alloc 59 true (.tuple #[])
theorem execOp_alc59 (ρ : Operand → Value) (dst : Option Tmp) (ty : TypeId) (pos : String) (after : Array Edge) (guard : Option (Nat × Bool)) :
    execOp ρ { dst, op := .alloc 59, type := ty, pos, after, guard } = (do pure (.value (← alc59))) := by simp [execOp, alc59]
theorem run_alc59 (W : World) : alc59.run Try.prog W = .ok (.pointer (some ⟨W.heap.size, 0, none⟩)) (W.alloc (.cells zeros34.toArray 59)) := by
  obtain ⟨z, hz, hc⟩ := zero59v W
  simp [alc59, Instr.alloc, hz, newVar, hc, newRow, Result.andThen]
def st59 (p v : Value) : Sem Unit := Instr.storeAt 59 p v
theorem execOp_st59 (ρ : Operand → Value) (dst : Option Tmp) (p x : Operand) (ty : TypeId) (pos : String) (after : Array Edge) (guard : Option (Nat × Bool)) :
    execOp ρ { dst, op := .store 59 p x, type := ty, pos, after, guard } = (do st59 (ρ p) (ρ x); pure .skip) := by simp [execOp, st59]
theorem run_st59 (W : World) (N : Nat) (x : List Int) (d t : Int) (hN : W.heap.size = N) (hx : Aside0 (x.length = 32)) : (st59 (.pointer (some ⟨N, 0, none⟩)) (.agg (entL x d t).toArray)).run Try.prog (W.alloc (.cells zeros34.toArray 59)) = .ok () (W.alloc (.cells (entL x d t).toArray 59)) := by
  subst hN
  have hl := entL_len x hx.out d t
  refine run_storeAt_new W 59 _ _ (by simpa [hl] using info59) (by simp [hl, zeros34]) (all_oneCell_toArray (ent_one x d t))
theorem ent_new (W : World) (N : Nat) (x : List Int) (d t : Int) (hN : W.heap.size = N) (j : Nat) : (W.alloc (.cells (entL x d t).toArray 59)).cell? ⟨N, j, none⟩ = (entL x d t)[j]? := by
  subst hN
  rw [cell_of_row _ _ _ _ 59 (0, 0) (heap_alloc_last W _)]; simp
theorem cell_ent32 (W : World) (N : Nat) (x : List Int) (d t : Int) (hN : W.heap.size = N) (hx : Aside0 (x.length = 32)) : (W.alloc (.cells (entL x d t).toArray 59)).cell? ⟨N, 32, none⟩ = some (.int .i64 d) := by
  rw [ent_new W N x d t hN, entL, List.getElem?_append_right (by simp [hx.out])]; simp [hx.out]
theorem cell_ent33 (W : World) (N : Nat) (x : List Int) (d t : Int) (hN : W.heap.size = N) (hx : Aside0 (x.length = 32)) : (W.alloc (.cells (entL x d t).toArray 59)).cell? ⟨N, 33, none⟩ = some (.int .i64 t) := by
  rw [ent_new W N x d t hN, entL, List.getElem?_append_right (by simp [hx.out])]; simp [hx.out]
theorem set_new (W : World) (cs : List Value) (j : Nat) (v : Value) : (W.alloc (.cells cs.toArray 59)).setCell ⟨W.heap.size, j, none⟩ v = W.alloc (.cells (cs.set j v).toArray 59) := by
  simp only [World.setCell, World.alloc]
  congr 1
  apply Array.ext_getElem?
  intro i
  rw [Array.getElem?_modify, Array.getElem?_push, Array.getElem?_push]
  by_cases h : W.heap.size = i
  · subst h; simp
  · have h2 : ¬ i = W.heap.size := fun e => h e.symm
    simp [h, h2]
theorem set_ent32 (W : World) (N : Nat) (x : List Int) (d t d' : Int) (hN : W.heap.size = N) (hx : Aside0 (x.length = 32)) : (W.alloc (.cells (entL x d t).toArray 59)).setCell ⟨N, 32, none⟩ (.int .i64 d') = W.alloc (.cells (entL x d' t).toArray 59) := by
  subst hN
  rw [set_new]
  congr 3
  rw [entL, List.set_append]; simp [hx.out, entL]
theorem set_ent33 (W : World) (N : Nat) (x : List Int) (d t t' : Int) (hN : W.heap.size = N) (hx : Aside0 (x.length = 32)) : (W.alloc (.cells (entL x d t).toArray 59)).setCell ⟨N, 33, none⟩ (.int .i64 t') = W.alloc (.cells (entL x d t').toArray 59) := by
  subst hN
  rw [set_new]
  congr 3
  rw [entL, List.set_append]; simp [hx.out, entL]
theorem at_ent32 (x : List Int) (d t : Int) (hx : Aside0 (x.length = 32)) : (entL x d t)[32]? = some (.int .i64 d) := by
  rw [entL, List.getElem?_append_right (by simp [hx.out])]; simp [hx.out]
theorem at_ent33 (x : List Int) (d t : Int) (hx : Aside0 (x.length = 32)) : (entL x d t)[33]? = some (.int .i64 t) := by
  rw [entL, List.getElem?_append_right (by simp [hx.out])]; simp [hx.out]
theorem put_ent32 (x : List Int) (d t d' : Int) (hx : Aside0 (x.length = 32)) : (entL x d t).set 32 (.int .i64 d') = entL x d' t := by
  rw [entL, List.set_append]; simp [hx.out, entL]
theorem put_ent33 (x : List Int) (d t t' : Int) (hx : Aside0 (x.length = 32)) : (entL x d t).set 33 (.int .i64 t') = entL x d t' := by
  rw [entL, List.set_append]; simp [hx.out, entL]
theorem fro_ent (W : World) (N : Nat) (cs : Array Value) (j : Nat) (hN : W.heap.size = N) : (W.alloc (.cells cs 59)).frozen? ⟨N, j, none⟩ = false := by
  subst hN
  exact blk_frozen (heap_alloc_last W _) j
def ld59 (p : Value) : Sem Value := Instr.loadAt 59 p
theorem execOp_ld59 (ρ : Operand → Value) (dst : Option Tmp) (p : Operand) (ty : TypeId) (pos : String) (after : Array Edge) (guard : Option (Nat × Bool)) :
    execOp ρ { dst, op := .load 59 p, type := ty, pos, after, guard } = (do pure (.value (← ld59 (ρ p)))) := by simp [execOp, ld59]
theorem run_ld59 (W : World) (b o : Nat) (x : List Int) (d t : Int) (hx : x.length = 32) (h : W.rangeAt b o (entL x d t)) : (ld59 (.pointer (some ⟨b, o, none⟩))).run Try.prog W = .ok (.agg (entL x d t).toArray) W :=
  run_loadAt_mid W b o 59 _ _ h Try.underlying59 rfl (by rw [entL_len x hx]; exact info59)
theorem run_ld30e (W : World) (N : Nat) (x : List Int) (d t : Int) (hN : W.heap.size = N) (hx : Aside0 (x.length = 32)) : (ld30 (.pointer (some ⟨N, 0, none⟩))).run Try.prog (W.alloc (.cells (entL x d t).toArray 59)) = .ok (.agg (x.map (Value.int .u8)).toArray) (W.alloc (.cells (entL x d t).toArray 59)) := by
  subst hN; exact run_ld30 _ _ x hx.out (ent_range W x d t)

/-! Drop -/
theorem OutAt.clr2 {w : World} {gm : Nat} {o : List (List Int)} (h : OutAt w gm o) :
    ∃ w', (∀ ty, (Builtin.clear_ #[78] ty #[.map (some gm)]).run Try.prog w = .ok (.tuple #[]) w') ∧ OutAt w' gm [] ∧ w.grownBy w' (some gm) := by
  obtain ⟨D, ⟨es, clock, hb, F, hs, rfl⟩, _⟩ := h.own
  refine ⟨setBlock w gm (.map #[] clock), fun ty => ?_, ⟨List.nodup_nil, by simp, .map [], ⟨#[], clock, heap_setBlock_same hb _, ⟨by simp, stamped_empty clock, by simp⟩, Nat.le_refl _, rfl⟩, rfl, fun x _ => by simp [Maps.has], by simp⟩, ⟨rfl, rfl, rfl, by simp [setBlock], fun i _ hi => heap_setBlock_other hb _ (fun e => hi (by rw [e]))⟩⟩
  simp [Builtin.clear_, run_underlying Try.underlying78, MapKept.run_getObj_map hb, MapKept.run_setObj_map _ hb, Result.andThen, setBlock]
def dropS (s : St) : St := { s with out := [] }
theorem drop_is {w : World} {F : Nat → Prop} {g gm : Nat} {s : St} (h : BL w F g gm s) :
    Calls Try.prog 19 #[.pointer (some ⟨g, 0, none⟩)] w fun e w' => e = .returned (.int .i64 (s.out.length : Int)) ∧ After F g gm w w' (dropS s) := by
  obtain ⟨v, h1, h2, h3⟩ := h.blk
  have hu80 := Try.underlying80
  have hc4 : w.cell? ⟨g, 4, none⟩ = some (.map (some gm)) := (blk_cell h1 4).trans rfl
  have hln := h.map.len
  obtain ⟨w1, hcl, ho, hg⟩ := h.map.clr2
  have HB := Aside0.mk (And.intro h (And.intro ho hg))
  clear h h1 h2 h3 ho hg
  go_enter Try.func19, Try.ntmps19
  go_wp2
  go_ret
  exact ⟨rfl, HB.out.1.put (Below.refl _ _) HB.out.2.2 HB.out.2.1 (by simp)⟩
/-! slices.Clone of entries, All -/
theorem cell_add (b j : Nat) : ((⟨b, 0, none⟩ : Addr).add j) = ⟨b, j, none⟩ := by unfold Addr.add; split <;> simp_all
theorem clone_is {w : World} {v : Value} {n : Nat} {xs : List Value} (hn : n ≤ 1000000) (ho : w.ownsRow 0 59 34 v n xs) (h1 : ∀ u ∈ xs, u.oneCell' = true) :
    Calls Try.prog 48 #[v] w fun e w' => ∃ v', e = .returned v' ∧ w'.ownsRow w.heap.size 59 34 v' n xs ∧ Below w.heap.size w w' := by
  have q22 : ∀ (w : World) (a : Option Addr) (n c n' c' : Nat), (binOp .eql 55 (.slice a n c) (.slice none n' c')).run Try.prog w = .ok (.bool a.isNone) w := fun w a n c n' c' => Lib.run_eql_slice_nil w _ _ a n c n' c' Try.underlying55
  obtain ⟨i0, z0, hi0, hz0, hs0, hb0, hzc0⟩ := info59r
  have hl := ho.1
  rcases ho.2 with ⟨rfl, h0⟩ | ⟨gb, cap, cur, rfl, hb, hg, hcp, _⟩
  · subst h0
    have hx : xs = [] := List.eq_nil_of_length_eq_zero (by simpa using hl)
    subst hx
    clear ho
    go_enter Try.func48, Try.ntmps48
    go_wp2
    go_ret
    exact ⟨_, rfl, World.ownsRow_nil _ _ _ _, Below.refl _ _⟩
  · have A := Aside0.mk (ho.cells (g := gb) rfl)
    have HL := Aside0.mk hl
    have HI := Aside0.mk (And.intro hi0 (And.intro hz0 (And.intro hs0 (And.intro hb0 hzc0))))
    have H1 := Aside0.mk h1
    have hm := m63 hn
    clear ho hl hi0 hz0 hs0 hb0 hzc0 hg h1
    go_enter Try.func48, Try.ntmps48
    go_wp2_with (at_builtin; refine wpList_append_own _ rfl _ _ 55 rfl w.heap.size 59 i0 z0 34 48 Try.underlying55 HI.out.1 HI.out.2.1 HI.out.2.2.1 HI.out.2.2.2.1 HI.out.2.2.2.2 (by omega) _ _ _ rfl (World.ownsRow_made w #[] 0 (Nat.le_refl _) (Nat.zero_le _) (by simp)) ⟨gb, 0, none⟩ n cap xs rfl HL.out ?qc2 H1.out ?qc4 ?qc5 ?qc6 ?_)
    case qc2 =>
      intro j u hj
      exact cell_alloc (A.out j u hj) _
    case qc4 => rw [Nat.zero_add]; omega
    case qc5 => rw [Nat.zero_add]; omega
    case qc6 => simp
    intro v' w1 hown hgrow hnil
    go_wp2
    go_ret
    refine ⟨v', rfl, by simpa using hown, ?_⟩
    exact ((Below.refl _ w).alloc (Nat.le_refl _) _).grown hgrow (by simp) (by intro k hk; simp [Value.ownBlock] at hk; omega)
theorem all_is {w : World} {F : Nat → Prop} {g gm : Nat} {s : St} (h : BL w F g gm s) :
    Calls Try.prog 27 #[.pointer (some ⟨g, 0, none⟩)] w fun e w' => ∃ v', e = .returned v' ∧ w'.ownsRow w.heap.size 59 34 v' s.es.length (entsL s.es) ∧ Below w.heap.size w w' := by
  obtain ⟨v, h1, h2, h3⟩ := h.blk
  have hu80 := Try.underlying80
  have hc3 : w.cell? ⟨g, 3, none⟩ = some v := (blk_cell h1 3).trans rfl
  have HB := Aside0.mk (And.intro h h2)
  clear h h1 h2 h3
  go_enter Try.func27, Try.ntmps27
  go_wp2_with (first | (go_at_call 48; refine (clone_is HB.out.1.wf.len HB.out.2 (entsL_one _)).mono ?_; rintro e_ w1 ⟨v', rfl, ho, hb⟩))
  go_ret
  exact ⟨v', rfl, ho, hb⟩
end Go.Proofs.Ytbhibodgbgndbaa.B
