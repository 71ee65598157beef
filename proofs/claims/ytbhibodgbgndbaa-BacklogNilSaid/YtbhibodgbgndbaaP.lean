/- cut, find, Offered, Drop of a backlog, told plainly. No condition. -/
import Derived.Test.YtbhibodgbgndbaaO
namespace Go.Proofs.Ytbhibodgbgndbaa.B
open Go Go.RowKit Go.Proofs Go.Proofs.YtbhibodgbgndbaaW.PrintWords Go.Proofs.YtbhibodgbgndbaaW.PrintLast Go.Proofs.YtbhibodgbgndbaaW.PrintMore
set_option linter.unusedVariables false
set_option linter.unusedSimpArgs false

theorem WF.cut {s : St} (h : WF s) (hout : s.out.Nodup) {i : Nat} {e : Ent} (he : s.es[i]? = some e) : WF { s with es := s.es.eraseIdx i, out := s.out.erase e.1 } := by
  obtain ⟨hi, hie⟩ := List.getElem?_eq_some_iff.1 he
  have hm : (s.es.eraseIdx i).map (·.1) = (s.es.map (·.1)).eraseIdx i := by simp [List.eraseIdx_eq_take_drop_succ]
  refine ⟨h.cap1, h.cap2, h.wait1, h.wait2, ?_, fun e he => h.ids e (List.mem_of_mem_eraseIdx he), ?_, fun y hy => ?_⟩
  · have := h.few; simp [List.length_eraseIdx_of_lt hi]; omega
  · rw [hm]; exact h.nod.sublist (List.eraseIdx_sublist _ _)
  · have h1 := hout.mem_erase_iff.1 hy
    have h2 := h.sub y h1.2
    rw [hm]
    obtain ⟨j, hj, hjy⟩ := List.getElem_of_mem h2
    have hji : j ≠ i := by
      rintro rfl
      apply h1.1
      rw [← hjy]; simp [hie]
    exact List.mem_eraseIdx_iff_getElem.2 ⟨j, hj, hji, hjy⟩
theorem cutS {w : World} {F : Nat → Prop} {g gm : Nat} {s : St} (h : BL w F g gm s) {i : Nat} {e : Ent} (he : s.es[i]? = some e) :
    Calls Try.prog 43 #[.pointer (some ⟨g, 0, none⟩), .int .i64 i] w fun e' w' => e' = .returned (.tuple #[]) ∧ After F g gm w w' { s with es := s.es.eraseIdx i, out := s.out.erase e.1 } := by
  obtain ⟨v, h1, h2, h3⟩ := h.blk
  obtain ⟨hi, hie⟩ := List.getElem?_eq_some_iff.1 he
  obtain ⟨gb, cp, rfl, _, hgl⟩ := h2.form (by omega)
  obtain ⟨k1, k2, k3⟩ := h3 gb rfl
  refine (cut_is g gm gb s.cap s.wait s.missed cp s.es h.wf.l32 h.wf.len i e he (h.wf.ids e (List.mem_of_getElem? he)) s.out w h1 h2 h.map k2 k3 h.ne).mono ?_
  rintro e' w' ⟨rfl, w1, w2, hg1, hO, hg2, ho, rfl⟩
  refine ⟨rfl, ?_⟩
  have l1 := h.lt g h.fg
  have l2 := h.lt gm h.fm
  have z1 := hg1.size
  have z2 := hg2.size
  have b1 : w2.heap[g]? = w.heap[g]? := (hg2.block g (by omega) (by simpa using fun e => k2 e.symm)).trans (hg1.block g l1 (by simpa using h.ne))
  have b2 : (w2.setCell ⟨g, 3, none⟩ (.slice (some ⟨gb, 0, none⟩) (s.es.length - 1) cp)).heap[gm]? = w1.heap[gm]? := by
    rw [Below.heap_setCell _ _ _ _ (fun e => h.ne e.symm)]
    exact hg2.block gm (by omega) (by simpa using fun e => k3 e.symm)
  have hU : Upd F w w2 := (Upd.grown (F := F) hg1 (by rintro k hk; cases hk; exact h.fm)).trans (Upd.grown (F := F) hg2 (by rintro k hk; cases hk; exact k1)) (fun k hk => .inl hk)
  have hle : (s.es.eraseIdx i).length = s.es.length - 1 := List.length_eraseIdx_of_lt hi
  refine ⟨F, ⟨⟨_, bAt_set3 (b1.trans h1) _, ?_, fun k hk => by cases hk; exact ⟨k1, k2, k3⟩⟩, hO.kept b2, h.fg, h.fm, h.ne, fun k hk => ?_, h.wf.cut h.map.nodup he⟩, fun k hk => .inl hk, hU.trans (Upd.set (F := F) h.fg _) (fun k hk => .inl hk)⟩
  · show World.ownsRow _ _ _ _ _ (s.es.eraseIdx i).length _
    rw [hle]
    exact own_set ho (fun k hk => by cases hk; exact k2) _
  · have := h.lt k hk; simp [World.setCell]; omega
theorem idx_some (y : List Int) : ∀ (es : List Ent) (k : Nat), y ∈ es.map (·.1) → ∃ (i : Nat) (e : Ent), idxGo y es k = ((k + i : Nat) : Int) ∧ es[i]? = some e ∧ e.1 = y
  | [], k, h => by simp at h
  | e :: es, k, h => by
    by_cases he : e.1 = y
    · exact ⟨0, e, by unfold idxGo; rw [if_pos he]; rfl, rfl, he⟩
    · have : y ∈ es.map (·.1) := by
        rcases List.mem_cons.1 h with h | h
        · exact absurd h.symm he
        · exact h
      obtain ⟨i, e2, h1, h2, h3⟩ := idx_some y es (k + 1) this
      exact ⟨i + 1, e2, by unfold idxGo; rw [if_neg he, h1]; congr 1; omega, by simpa using h2, h3⟩
def look78 (m x : Value) : Sem Value := Instr.lookup 78 m x false
@[go_sem ↓] theorem execOp_look78 (ρ : Operand → Value) (dst : Option Tmp) (m x : Operand) (ty : TypeId) (pos : String) (after : Array Edge) (guard : Option (Nat × Bool)) :
    execOp ρ { dst, op := .lookup 78 m x false, type := ty, pos, after, guard } = (do pure (.value (← look78 (ρ m) (ρ x)))) := by simp [execOp, look78]
attribute [local go_sem ↓] execOp_ld30
set_option maxHeartbeats 4000000 in
set_option maxRecDepth 100000 in
theorem find_none (w : World) (F : Nat → Prop) (g gm : Nat) (s : St) (h : BL w F g gm s) (x : List Int) (hx : Idok x) (b : Bool) (hn : x ∉ s.es.map (·.1)) :
    Calls Try.prog 44 #[.pointer (some ⟨g, 0, none⟩), idV x, .bool b] w fun e w' => e = .returned (.tuple #[.int .i64 0, .int .i64 8]) ∧ Below w.heap.size w w' := by
  have HX := Aside0.mk hx
  have HB := Aside0.mk h
  have HI : idxOf s.es x = -1 := idxGo_no x s.es 0 hn
  clear hx h
  unfold idV
  go_enter Try.func44, Try.ntmps44
  go_wp2_with (first | (go_at_call 42; refine (idxS (HB.out.below (below_alloc (Below.refl _ _) _)) HX.out).mono ?_; rintro e_ w1 ⟨rfl, hb1⟩; rw [HI]) | (refine wpList_load_mid rfl 30 (.tmp 4) rfl w.heap.size 0 rfl (x.map (Value.int .u8)) _ (id_range w x) Try.underlying30 rfl (by rw [List.length_map, HX.out.1]; exact info30) ?_))
  go_ret2
  exact ⟨rfl, (below_alloc (Below.refl _ _) _).trans (hb1.mono (by simp))⟩
set_option maxHeartbeats 4000000 in
set_option maxRecDepth 100000 in
theorem find_hit (w : World) (F : Nat → Prop) (g gm : Nat) (s : St) (h : BL w F g gm s) (x : List Int) (hx : Idok x) (b : Bool) (i : Nat) (hi : idxOf s.es x = (i : Int)) (hr : decide (x ∈ s.out) = b) :
    Calls Try.prog 44 #[.pointer (some ⟨g, 0, none⟩), idV x, .bool b] w fun e w' => e = .returned (.tuple #[.int .i64 i, .int .i64 0]) ∧ Below w.heap.size w w' := by
  have HX := Aside0.mk hx
  have HB := Aside0.mk h
  have HI := Aside0.mk hi
  have HR := Aside0.mk hr
  have hu80 := Try.underlying80
  have hu30 := Try.underlying30
  have hi30 : (Try.prog.info? 30).map (·.size) = some (x.map (Value.int .u8)).length := by rw [List.length_map, hx.1]; exact info30
  have hd : decide ((i : Int) < 0) = false := decide_eq_false (by omega)
  clear hx h hi hr
  unfold idV
  go_enter Try.func44, Try.ntmps44
  go_wp2_with (first | (go_at_call 42; refine (idxS (HB.out.below (below_alloc (Below.refl _ _) _)) HX.out).mono ?_; rintro e_ w1 ⟨rfl, hb1⟩; rw [HI.out]; have HW := Aside0.mk ((below_alloc (Below.refl w.heap.size w) (.cells (idC x) 30)).trans (hb1.mono (by simp))); have HID := (show w1.rangeAt w.heap.size 0 (x.map (Value.int .u8)) from fun j v_ hv => by have h0 := id_range w x j v_ hv; exact (hb1.cell (World.block_lt_of_cell? _ _ h0)).trans h0); obtain ⟨v, h1, h2, h3⟩ := (HB.out.below HW.out).blk; have hc4 : w1.cell? ⟨g, 4, none⟩ = some (.map (some gm)) := (blk_cell h1 4).trans rfl; have hlk := fun W hW => ((HB.out.below HW.out).map.kept (w' := W) hW).look HX.out; rw [HR.out] at hlk; clear h1 h2 h3 hb1) | (refine wpList_load_mid rfl 30 (.tmp 4) rfl w.heap.size 0 rfl (x.map (Value.int .u8)) _ (id_range w x) Try.underlying30 rfl (by rw [List.length_map, HX.out.1]; exact info30) ?_))
  have hlk2 : ∀ n, (look78 (.map (some gm)) (.agg (x.map (Value.int .u8)).toArray)).run Try.prog (w1.drewN n) = .ok (.bool b) (w1.drewN n) := fun n => hlk _ rfl
  have hlk3 : (look78 (.map (some gm)) (.agg (x.map (Value.int .u8)).toArray)).run Try.prog w1 = .ok (.bool b) w1 := hlk _ rfl
  have hld2 : ∀ n, (ld30 (.pointer (some ⟨w.heap.size, 0, none⟩))).run Try.prog (w1.drewN n) = .ok (.agg (x.map (Value.int .u8)).toArray) (w1.drewN n) := fun n => run_ld30 _ _ x HX.out.1 HID
  have hld3 : (ld30 (.pointer (some ⟨w.heap.size, 0, none⟩))).run Try.prog w1 = .ok (.agg (x.map (Value.int .u8)).toArray) w1 := run_ld30 _ _ x HX.out.1 HID
  clear hlk
  go_quiet (fail)
  go_wp2
  go_ret2
  exact ⟨by first | rfl | simp, pw_below_drewN HW.out _⟩
set_option maxHeartbeats 4000000 in
set_option maxRecDepth 100000 in
theorem find_miss (w : World) (F : Nat → Prop) (g gm : Nat) (s : St) (h : BL w F g gm s) (x : List Int) (hx : Idok x) (b : Bool) (i : Nat) (hi : idxOf s.es x = (i : Int)) (r : Bool) (hr : decide (x ∈ s.out) = r) (hne : r ≠ b) :
    Calls Try.prog 44 #[.pointer (some ⟨g, 0, none⟩), idV x, .bool b] w fun e w' => e = .returned (.tuple #[.int .i64 0, .int .i64 10]) ∧ Below w.heap.size w w' := by
  have HX := Aside0.mk hx
  have HB := Aside0.mk h
  have HI := Aside0.mk hi
  have HR := Aside0.mk hr
  have hu80 := Try.underlying80
  have hu30 := Try.underlying30
  have hi30 : (Try.prog.info? 30).map (·.size) = some (x.map (Value.int .u8)).length := by rw [List.length_map, hx.1]; exact info30
  have hq : (r == b) = false := by simpa using hne
  have hd : decide ((i : Int) < 0) = false := decide_eq_false (by omega)
  clear hx h hi hr
  unfold idV
  go_enter Try.func44, Try.ntmps44
  go_wp2_with (first | (go_at_call 42; refine (idxS (HB.out.below (below_alloc (Below.refl _ _) _)) HX.out).mono ?_; rintro e_ w1 ⟨rfl, hb1⟩; rw [HI.out]; have HW := Aside0.mk ((below_alloc (Below.refl w.heap.size w) (.cells (idC x) 30)).trans (hb1.mono (by simp))); have HID := (show w1.rangeAt w.heap.size 0 (x.map (Value.int .u8)) from fun j v_ hv => by have h0 := id_range w x j v_ hv; exact (hb1.cell (World.block_lt_of_cell? _ _ h0)).trans h0); obtain ⟨v, h1, h2, h3⟩ := (HB.out.below HW.out).blk; have hc4 : w1.cell? ⟨g, 4, none⟩ = some (.map (some gm)) := (blk_cell h1 4).trans rfl; have hlk := fun W hW => ((HB.out.below HW.out).map.kept (w' := W) hW).look HX.out; rw [HR.out] at hlk; clear h1 h2 h3 hb1) | (refine wpList_load_mid rfl 30 (.tmp 4) rfl w.heap.size 0 rfl (x.map (Value.int .u8)) _ (id_range w x) Try.underlying30 rfl (by rw [List.length_map, HX.out.1]; exact info30) ?_))
  have hlk2 : ∀ n, (look78 (.map (some gm)) (.agg (x.map (Value.int .u8)).toArray)).run Try.prog (w1.drewN n) = .ok (.bool r) (w1.drewN n) := fun n => hlk _ rfl
  have hlk3 : (look78 (.map (some gm)) (.agg (x.map (Value.int .u8)).toArray)).run Try.prog w1 = .ok (.bool r) w1 := hlk _ rfl
  have hld2 : ∀ n, (ld30 (.pointer (some ⟨w.heap.size, 0, none⟩))).run Try.prog (w1.drewN n) = .ok (.agg (x.map (Value.int .u8)).toArray) (w1.drewN n) := fun n => run_ld30 _ _ x HX.out.1 HID
  have hld3 : (ld30 (.pointer (some ⟨w.heap.size, 0, none⟩))).run Try.prog w1 = .ok (.agg (x.map (Value.int .u8)).toArray) w1 := run_ld30 _ _ x HX.out.1 HID
  clear hlk
  go_quiet (fail)
  go_wp2
  go_ret2
  exact ⟨by first | rfl | simp, pw_below_drewN HW.out _⟩
/-- find, plainly. -/
def findS (s : St) (x : List Int) (b : Bool) : Int × Int := if x ∈ s.es.map (·.1) then (if decide (x ∈ s.out) = b then (idxOf s.es x, 0) else (0, 10)) else (0, 8)
theorem find_is {w : World} {F : Nat → Prop} {g gm : Nat} {s : St} (h : BL w F g gm s) {x : List Int} (hx : Idok x) (b : Bool) :
    Calls Try.prog 44 #[.pointer (some ⟨g, 0, none⟩), idV x, .bool b] w fun e w' => e = .returned (.tuple #[.int .i64 (findS s x b).1, .int .i64 (findS s x b).2]) ∧ Below w.heap.size w w' := by
  unfold findS
  by_cases hm : x ∈ s.es.map (·.1)
  · rw [if_pos hm]
    obtain ⟨i, e, h1, h2, h3⟩ := idx_some x s.es 0 hm
    have hi : idxOf s.es x = ((0 + i : Nat) : Int) := h1
    by_cases hr : decide (x ∈ s.out) = b
    · rw [if_pos hr, hi]
      exact find_hit w F g gm s h x hx b _ hi hr
    · rw [if_neg hr]
      exact find_miss w F g gm s h x hx b _ hi _ rfl hr
  · rw [if_neg hm]
    exact find_none w F g gm s h x hx b hm
end Go.Proofs.Ytbhibodgbgndbaa.B
