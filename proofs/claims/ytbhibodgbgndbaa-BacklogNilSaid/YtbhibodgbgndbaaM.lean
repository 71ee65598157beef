/- Add of a backlog, told plainly. No condition. -/
import Derived.Test.YtbhibodgbgndbaaL
namespace Go.Proofs.Ytbhibodgbgndbaa.B
open Go Go.RowKit Go.Proofs Go.Proofs.YtbhibodgbgndbaaW.PrintWords Go.Proofs.YtbhibodgbgndbaaW.PrintLast Go.Proofs.YtbhibodgbgndbaaW.PrintMore
set_option linter.unusedVariables false
set_option linter.unusedSimpArgs false

theorem idxGo_ge (y : List Int) : ∀ (es : List Ent) (i : Nat), y ∈ es.map (·.1) → (i : Int) ≤ idxGo y es i
  | [], i, h => by simp at h
  | e :: es, i, h => by
    unfold idxGo
    by_cases he : e.1 = y
    · rw [if_pos he]; exact Int.le_refl _
    · rw [if_neg he]
      have : y ∈ es.map (·.1) := by
        rcases List.mem_cons.1 h with h | h
        · exact absurd h.symm he
        · exact h
      have := idxGo_ge y es (i + 1) this
      omega
theorem idxGo_no (y : List Int) : ∀ (es : List Ent) (i : Nat), y ∉ es.map (·.1) → idxGo y es i = -1
  | [], i, h => rfl
  | e :: es, i, h => by
    unfold idxGo
    rw [if_neg (fun he => h (by simp [he]))]
    exact idxGo_no y es (i + 1) (fun hh => h (by rw [List.map_cons]; exact List.mem_cons_of_mem _ hh))
theorem has_eq (es : List Ent) (y : List Int) : hasE es y = decide (y ∈ es.map (·.1)) := by
  unfold hasE idxOf
  by_cases h : y ∈ es.map (·.1)
  · rw [decide_eq_true h]; exact decide_eq_true (by have := idxGo_ge y es 0 h; omega)
  · rw [decide_eq_false h, idxGo_no y es 0 h]; rfl
/-- Add, plainly: the state behind it and the error's number. -/
def addS (s : St) (x : List Int) (due : Int) : St × Int :=
  if x = zeroId then (s, 1) else if minB due = false then (s, 2) else if x ∈ s.es.map (·.1) then (s, 7)
  else if s.cap ≤ (s.es.length : Int) then ({ s with missed := true }, 9) else ({ s with es := s.es ++ [(x, due, 0)] }, 0)
theorem WF.add {s : St} (h : WF s) {x : List Int} (hx : Idok x) (hn : x ∉ s.es.map (·.1)) (hf : (s.es.length : Int) < s.cap) (d t : Int) : WF { s with es := s.es ++ [(x, d, t)] } :=
  ⟨h.cap1, h.cap2, h.wait1, h.wait2, by simp; omega, fun e he => by
    rcases List.mem_append.1 he with he | he
    · exact h.ids e he
    · simp at he; subst he; exact hx, by
    simp only [List.map_append, List.map_cons, List.map_nil]
    exact List.nodup_append.2 ⟨h.nod, by simp, by rintro a ha b hb rfl; simp at hb; subst hb; exact hn ha⟩, fun y hy => by
    simp only [List.map_append, List.mem_append]; exact .inl (h.sub y hy)⟩
/-- An entry more. -/
theorem BL.grow {w w2 w3 : World} {F : Nat → Prop} {g gm : Nat} {s : St} (h : BL w F g gm s) {v v' : Value} (hB : BAt w g s.cap s.wait s.missed v gm) (hv : ∀ k, v.ownBlock = some k → F k ∧ k ≠ g ∧ k ≠ gm) (hb : Below w.heap.size w w2) (hg : w2.grownBy w3 v.ownBlock)
    {es : List Ent} (ho : w3.ownsRow 0 59 34 v' es.length (entsL es)) (hat : v'.ownBlock = v.ownBlock ∨ ∃ k, v'.ownBlock = some k ∧ w.heap.size ≤ k) (hw : WF { s with es := es }) :
    After F g gm w (w3.setCell ⟨g, 3, none⟩ v') { s with es := es } := by
  have hgl := h.lt g h.fg
  have hml := h.lt gm h.fm
  have hs2 := hb.size
  have hs3 := hg.size
  have e1 : w3.heap[g]? = w.heap[g]? := (hg.block g (by omega) (fun e => (hv g e.symm).2.1 rfl)).trans (hb.block g hgl)
  have e2 : (w3.setCell ⟨g, 3, none⟩ v').heap[gm]? = w.heap[gm]? := by
    rw [Below.heap_setCell _ _ _ _ (by exact fun e => h.ne e.symm)]
    exact (hg.block gm (by omega) (fun e => (hv gm e.symm).2.2 rfl)).trans (hb.block gm hml)
  have hU : Upd F w w3 := (Upd.of_below (F := F) hb).trans (Upd.grown (F := F) hg (fun k hk => (hv k hk).1)) (fun k hk => .inl hk)
  have hn3 : ∀ k, v'.ownBlock = some k → k < w3.heap.size := fun k hk => (ho.lt k hk).2
  have hd : ∀ k, v'.ownBlock = some k → k ≠ g ∧ k ≠ gm := fun k hk => by
    rcases hat with h1 | ⟨k', h1, h2⟩
    · exact (hv k (h1 ▸ hk)).2
    · rw [hk] at h1; cases h1; omega
  refine ⟨fun k => F k ∨ v'.ownBlock = some k, ⟨⟨v', bAt_set3 (e1.trans hB) v', own_set ho (fun k hk => (hd k hk).1) v', fun k hk => ⟨.inr hk, hd k hk⟩⟩, h.map.kept e2, .inl h.fg, .inl h.fm, h.ne, ?_, hw⟩, ?_, ?_⟩
  · rintro k (hk | hk)
    · have := h.lt k hk; simp [World.setCell]; omega
    · have := hn3 k hk; simp [World.setCell]; omega
  · rintro k (hk | hk)
    · exact .inl hk
    · rcases hat with h1 | ⟨k', h1, h2⟩
      · exact .inl (hv k (h1 ▸ hk)).1
      · rw [hk] at h1; cases h1; exact .inr h2
  · exact hU.trans (Upd.set (F := F) h.fg v') (fun k hk => .inl hk)
theorem After.flag {w w2 : World} {F : Nat → Prop} {g gm : Nat} {s : St} (h : BL w F g gm s) (hb : Below w.heap.size w w2) (b : Bool) : After F g gm w (w2.setCell ⟨g, 2, none⟩ (.bool b)) { s with missed := b } := by
  have h2 := h.below hb
  obtain ⟨v, h3, h4, h5⟩ := h2.blk
  refine ⟨F, ⟨⟨v, bAt_set2 h3 b, own_set h4 (fun k hk => (h5 k hk).2.1) _, h5⟩, h2.map.kept (Below.heap_setCell _ _ _ _ (fun e => h.ne e.symm)), h.fg, h.fm, h.ne, fun k hk => ?_, ⟨h.wf.cap1, h.wf.cap2, h.wf.wait1, h.wf.wait2, h.wf.few, h.wf.ids, h.wf.nod, h.wf.sub⟩⟩, fun k hk => .inl hk, (Upd.of_below (F := F) hb).trans (Upd.set (F := F) h.fg _) (fun k hk => .inl hk)⟩
  have := h2.lt k hk; simp [World.setCell]; exact this
theorem add_is {w : World} {F : Nat → Prop} {g gm : Nat} {s : St} (h : BL w F g gm s) {x : List Int} (hx : Idok x) (due : Int) :
    Calls Try.prog 13 #[.pointer (some ⟨g, 0, none⟩), idV x, .int .i64 due] w fun e w' => e = .returned (.int .i64 (addS s x due).2) ∧ After F g gm w w' (addS s x due).1 := by
  obtain ⟨v, h1, h2, h3⟩ := h.blk
  unfold addS
  by_cases hz : x = zeroId
  · subst hz
    rw [if_pos rfl]
    exact (add_zero g due w).mono fun e w' ⟨he, hb⟩ => ⟨he, .same h hb⟩
  rw [if_neg hz]
  by_cases hd : minB due = false
  · rw [if_pos hd]
    exact (add_range g x hx.1 hz due hd w).mono fun e w' ⟨he, hb⟩ => ⟨he, .same h hb⟩
  rw [if_neg hd]
  have hd2 : minB due = true := by simpa using hd
  by_cases hm : x ∈ s.es.map (·.1)
  · rw [if_pos hm]
    exact (add_dup g s.cap s.wait s.missed v gm 0 s.es h.wf.l32 h.wf.len x hx.1 hz due hd2 (by rw [has_eq, decide_eq_true hm]) w h1 h2).mono fun e w' ⟨he, hb⟩ => ⟨he, .same h hb⟩
  rw [if_neg hm]
  by_cases hf : s.cap ≤ (s.es.length : Int)
  · rw [if_pos hf]
    refine (add_full g s.cap s.wait s.missed v gm 0 s.es h.wf.l32 h.wf.len x hx.1 hz due hd2 (by rw [has_eq, decide_eq_false hm]) hf w h1 h2).mono ?_
    rintro e w' ⟨he, w2, hb, rfl⟩
    exact ⟨he, .flag h hb true⟩
  · rw [if_neg hf]
    refine (add_okW g s.cap s.wait s.missed v gm s.es h.wf.l32 h.wf.len x hx.1 hz due hd2 (by rw [has_eq, decide_eq_false hm]) (by omega) w h1 h2 (fun k hk => (h3 k hk).2.1)).mono ?_
    rintro e w' ⟨he, w2, w3, v', hb, hg, ho, hat, rfl⟩
    exact ⟨he, h.grow h1 h3 hb hg (by simpa using ho) hat (h.wf.add hx hm (by omega) due 0)⟩
/-! the reading calls -/
theorem lenS {w : World} {F : Nat → Prop} {g gm : Nat} {s : St} (h : BL w F g gm s) : Calls Try.prog 14 #[.pointer (some ⟨g, 0, none⟩)] w fun e w' => e = .returned (.int .i64 (s.es.length : Int)) ∧ w' = w := by
  obtain ⟨v, h1, h2, h3⟩ := h.blk
  exact len_is g s.cap s.wait s.missed v gm 0 s.es h.wf.l32 w h1 h2
theorem missedS {w : World} {F : Nat → Prop} {g gm : Nat} {s : St} (h : BL w F g gm s) : Calls Try.prog 15 #[.pointer (some ⟨g, 0, none⟩)] w fun e w' => e = .returned (.bool s.missed) ∧ w' = w := by
  obtain ⟨v, h1, h2, h3⟩ := h.blk
  exact missed_is g s.cap s.wait s.missed v gm w h1
theorem hasS {w : World} {F : Nat → Prop} {g gm : Nat} {s : St} (h : BL w F g gm s) {x : List Int} (hx : Idok x) : Calls Try.prog 16 #[.pointer (some ⟨g, 0, none⟩), idV x] w fun e w' => e = .returned (.bool (decide (x ∈ s.es.map (·.1)))) ∧ Below w.heap.size w w' := by
  obtain ⟨v, h1, h2, h3⟩ := h.blk
  rw [← has_eq]
  exact has_is g s.cap s.wait s.missed v gm 0 s.es h.wf.l32 h.wf.len x hx.1 w h1 h2
theorem idxS {w : World} {F : Nat → Prop} {g gm : Nat} {s : St} (h : BL w F g gm s) {x : List Int} (hx : Idok x) : Calls Try.prog 42 #[.pointer (some ⟨g, 0, none⟩), idV x] w fun e w' => e = .returned (.int .i64 (idxOf s.es x)) ∧ Below w.heap.size w w' := by
  obtain ⟨v, h1, h2, h3⟩ := h.blk
  exact idx_is g s.cap s.wait s.missed v gm 0 s.es h.wf.l32 h.wf.len x hx.1 w h1 h2
/-- A new backlog. -/
theorem newS (cap wait : Int) (h1 : 1 ≤ cap) (h2 : cap ≤ 4096) (h3 : 0 ≤ wait) (h4 : wait ≤ 100000) (w : World) :
    Calls Try.prog 12 #[.int .i64 cap, .int .i64 wait] w fun e w' => ∃ g gm, e = .returned (.tuple #[.pointer (some ⟨g, 0, none⟩), .int .i64 0]) ∧ Below w.heap.size w w' ∧
      BL w' (fun k => k = g ∨ k = gm) g gm ⟨cap, wait, false, [], []⟩ ∧ w.heap.size ≤ g ∧ w.heap.size ≤ gm := by
  refine (new_is cap wait h1 h2 h3 h4 w).mono ?_
  rintro e w' ⟨he, rfl⟩
  refine ⟨w.heap.size + 1, w.heap.size, he, below_alloc (below_alloc (Below.refl _ _) _) _, ⟨⟨_, ?_, World.ownsRow_nil _ _ _ _, fun k hk => by simp [Value.ownBlock] at hk⟩, ?_, .inl rfl, .inr rfl, by omega, ?_, ⟨h1, h2, h3, h4, by simp; omega, by simp, by simp, by simp⟩⟩, by omega, by omega⟩
  · have := heap_alloc_new (w.alloc (.map #[] 0)) (.cells #[.int .i64 cap, .int .i64 wait, .bool false, .slice none 0 0, .map (some w.heap.size)] 80)
    simpa [BAt] using this
  · exact (OutAt.made w).kept (Below.heap_alloc _ _ _ (by simp))
  · rintro k (rfl | rfl)
    · simp
    · simp; omega
end Go.Proofs.Ytbhibodgbgndbaa.B
