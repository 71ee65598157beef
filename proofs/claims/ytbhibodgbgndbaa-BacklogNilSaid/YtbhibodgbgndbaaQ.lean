/- Offered, Answered, Remove, Drop of a backlog, told plainly. No condition. -/
import Derived.Test.YtbhibodgbgndbaaP
namespace Go.Proofs.Ytbhibodgbgndbaa.B
open Go Go.RowKit Go.Proofs Go.Proofs.YtbhibodgbgndbaaW.PrintWords Go.Proofs.YtbhibodgbgndbaaW.PrintLast Go.Proofs.YtbhibodgbgndbaaW.PrintMore
set_option linter.unusedVariables false
set_option linter.unusedSimpArgs false

def upd78 (m x v : Value) : Sem Unit := Instr.mapUpdate 78 m x v
@[go_sem ↓] theorem execOp_upd78 (ρ : Operand → Value) (dst : Option Tmp) (m x v : Operand) (ty : TypeId) (pos : String) (after : Array Edge) (guard : Option (Nat × Bool)) :
    execOp ρ { dst, op := .mapUpdate 78 m x v, type := ty, pos, after, guard } = (do upd78 (ρ m) (ρ x) (ρ v); pure .skip) := by simp [execOp, upd78]
theorem box_range {w w1 : World} {x : List Int} (hb : Below (w.heap.size + 1) (w.alloc (.cells (idC x) 30)) w1) : w1.rangeAt w.heap.size 0 (x.map (Value.int .u8)) := fun j v_ hv => by
  have h0 := id_range w x j v_ hv
  exact (hb.cell (by show w.heap.size < _; omega)).trans h0
theorem box_range2 {w w1 : World} {x : List Int} (hb : Below (w.alloc (.cells (idC x) 30)).heap.size (w.alloc (.cells (idC x) 30)) w1) : w1.rangeAt w.heap.size 0 (x.map (Value.int .u8)) := box_range (by simpa using hb)
theorem drewN_mk (W : World) (n : Nat) : Below W.heap.size W (W.drewN n) := pw_below_drewN (Below.refl _ _) n
/-- Offered, plainly. -/
def offS (s : St) (x : List Int) : St × Int := if (findS s x false).2 = 0 then ({ s with out := putO x s.out }, 0) else (s, (findS s x false).2)
theorem find0 {s : St} {x : List Int} {b : Bool} (h : (findS s x b).2 = 0) : x ∈ s.es.map (·.1) ∧ decide (x ∈ s.out) = b ∧ (findS s x b).1 = idxOf s.es x := by
  unfold findS at h ⊢
  by_cases hm : x ∈ s.es.map (·.1)
  · rw [if_pos hm] at h ⊢
    by_cases hr : decide (x ∈ s.out) = b
    · rw [if_pos hr]; exact ⟨hm, hr, rfl⟩
    · rw [if_neg hr] at h; simp at h
  · rw [if_neg hm] at h; simp at h
theorem BL.put {w w1 w2 : World} {F : Nat → Prop} {g gm : Nat} {s : St} (h : BL w F g gm s) (hb : Below w.heap.size w w1) (hg : w1.grownBy w2 (some gm)) {o : List (List Int)} (ho : OutAt w2 gm o) (hs : ∀ y ∈ o, y ∈ s.es.map (·.1)) : After F g gm w w2 { s with out := o } := by
  have h1 := h.below hb
  obtain ⟨v, k1, k2, k3⟩ := h1.blk
  have l1 := h1.lt g h.fg
  refine ⟨F, ⟨⟨v, (hg.block g l1 (by simpa using h.ne)).trans k1, k2.kept hg ?_, k3⟩, ho, h.fg, h.fm, h.ne, fun k hk => Nat.lt_of_lt_of_le (h1.lt k hk) hg.size, ⟨h.wf.cap1, h.wf.cap2, h.wf.wait1, h.wf.wait2, h.wf.few, h.wf.ids, h.wf.nod, hs⟩⟩, fun k hk => .inl hk, (Upd.of_below (F := F) hb).trans (Upd.grown (F := F) hg (by rintro k hk; cases hk; exact h.fm)) (fun k hk => .inl hk)⟩
  by_cases e : v.ownBlock = some gm
  · exact absurd rfl (k3 gm e).2.2
  · exact .inr e
set_option maxHeartbeats 4000000 in
set_option maxRecDepth 100000 in
theorem off_yes {w : World} {F : Nat → Prop} {g gm : Nat} {s : St} (h : BL w F g gm s) {x : List Int} (hx : Idok x) (hf : (findS s x false).2 = 0) :
    Calls Try.prog 18 #[.pointer (some ⟨g, 0, none⟩), idV x] w fun e w' => e = .returned (.int .i64 0) ∧ After F g gm w w' { s with out := putO x s.out } := by
  have HX := Aside0.mk hx
  have HB := Aside0.mk h
  have HF := Aside0.mk hf
  have hu80 := Try.underlying80
  have hu30 := Try.underlying30
  have hi30 : (Try.prog.info? 30).map (·.size) = some (x.map (Value.int .u8)).length := by rw [List.length_map, hx.1]; exact info30
  clear hx h hf
  unfold idV
  go_enter Try.func18, Try.ntmps18
  go_wp2_with (first | (go_at_call 44; refine (find_is (HB.out.below (below_alloc (Below.refl _ _) _)) HX.out false).mono ?_; rintro e_ w1 ⟨rfl, hb1⟩; rw [HF.out]; have HW := Aside0.mk ((below_alloc (Below.refl w.heap.size w) (.cells (idC x) 30)).trans (hb1.mono (by simp))); have HID := box_range2 hb1; obtain ⟨v, h1, h2, h3⟩ := (HB.out.below HW.out).blk; have hc4 : w1.cell? ⟨g, 4, none⟩ = some (.map (some gm)) := (blk_cell h1 4).trans rfl; clear h1 h2 h3 hb1) | (refine wpList_load_mid rfl 30 (.tmp 3) rfl w.heap.size 0 rfl (x.map (Value.int .u8)) _ (id_range w x) Try.underlying30 rfl (by rw [List.length_map, HX.out.1]; exact info30) ?_))
  obtain ⟨wf, hup1, ho1, hg1⟩ : ∃ w', (upd78 (.map (some gm)) (.agg (x.map (Value.int .u8)).toArray) (.bool true)).run Try.prog w1.drew = .ok () w' ∧ OutAt w' gm (putO x s.out) ∧ w1.drew.grownBy w' (some gm) := ((HB.out.below HW.out).map.kept (w' := w1.drew) rfl).put HB.out.outlen HX.out
  have HO := Aside0.mk (And.intro ho1 hg1)
  have HN : Aside0 (some g ≠ some gm ∧ some w.heap.size ≠ some gm) := ⟨⟨by simpa using HB.out.ne, by have := HB.out.map.lt; simp; omega⟩⟩
  clear ho1 hg1
  go_region_held3 (fun w' => w'.cell? ⟨g, 4, none⟩ = some (.map (some gm)) ∧ w'.rangeAt w.heap.size 0 (x.map (Value.int .u8)))
    (first | go_keep_ranges | (go_split_ands; refine ⟨cell_grown (by assumption) HO.out.2 HN.out.1, range_grown (by assumption) HO.out.2 HN.out.2⟩))
    (fail)
  go_wp2
  go_ret
  exact ⟨rfl, HB.out.put (below_drew1 HW.out) HO.out.2 HO.out.1 (fun y hy => by
    unfold putO at hy
    split at hy
    · exact HB.out.wf.sub y hy
    · rcases List.mem_cons.1 hy with rfl | hy
      · exact (find0 HF.out).1
      · exact HB.out.wf.sub y hy)⟩
set_option maxHeartbeats 4000000 in
set_option maxRecDepth 100000 in
theorem off_no {w : World} {F : Nat → Prop} {g gm : Nat} {s : St} (h : BL w F g gm s) {x : List Int} (hx : Idok x) (hf : (findS s x false).2 ≠ 0) :
    Calls Try.prog 18 #[.pointer (some ⟨g, 0, none⟩), idV x] w fun e w' => e = .returned (.int .i64 (findS s x false).2) ∧ Below w.heap.size w w' := by
  have HX := Aside0.mk hx
  have HB := Aside0.mk h
  obtain ⟨q, hq⟩ : ∃ q, q = (findS s x false).2 := ⟨_, rfl⟩
  have HQ := Aside0.mk hq
  rw [← hq] at hf ⊢
  have hd : (q == 0) = false := by simpa using hf
  clear hx h hf hq
  unfold idV
  go_enter Try.func18, Try.ntmps18
  go_wp2_with (first | (go_at_call 44; refine (find_is (HB.out.below (below_alloc (Below.refl _ _) _)) HX.out false).mono ?_; rintro e_ w1 ⟨rfl, hb1⟩; rw [← HQ.out]; have HW := Aside0.mk ((below_alloc (Below.refl w.heap.size w) (.cells (idC x) 30)).trans (hb1.mono (by simp))); clear hb1) | (refine wpList_load_mid rfl 30 (.tmp 3) rfl w.heap.size 0 rfl (x.map (Value.int .u8)) _ (id_range w x) Try.underlying30 rfl (by rw [List.length_map, HX.out.1]; exact info30) ?_))
  go_ret
  exact ⟨rfl, HW.out⟩
theorem offered_is {w : World} {F : Nat → Prop} {g gm : Nat} {s : St} (h : BL w F g gm s) {x : List Int} (hx : Idok x) :
    Calls Try.prog 18 #[.pointer (some ⟨g, 0, none⟩), idV x] w fun e w' => e = .returned (.int .i64 (offS s x).2) ∧ After F g gm w w' (offS s x).1 := by
  unfold offS
  by_cases hf : (findS s x false).2 = 0
  · rw [if_pos hf]
    exact off_yes h hx hf
  · rw [if_neg hf]
    exact (off_no h hx hf).mono fun e w' ⟨he, hb⟩ => ⟨he, .same h hb⟩
/-- The state behind cut. -/
def cutE (s : St) (i : Nat) (x : List Int) : St := { s with es := s.es.eraseIdx i, out := s.out.erase x }
/-- Answered, plainly. -/
def ansS (s : St) (x : List Int) : St × Int := if (findS s x true).2 = 0 then (cutE s (idxOf s.es x).toNat x, 0) else (s, (findS s x true).2)
set_option maxHeartbeats 4000000 in
set_option maxRecDepth 100000 in
theorem ans_yes {w : World} {F : Nat → Prop} {g gm : Nat} {s : St} (h : BL w F g gm s) {x : List Int} (hx : Idok x) (hf : (findS s x true).2 = 0) (i : Nat) (hi : (findS s x true).1 = (i : Int)) (e : Ent) (he : s.es[i]? = some e) (hex : e.1 = x) :
    Calls Try.prog 25 #[.pointer (some ⟨g, 0, none⟩), idV x] w fun e w' => e = .returned (.int .i64 0) ∧ After F g gm w w' (cutE s i x) := by
  have HX := Aside0.mk hx
  have HB := Aside0.mk h
  have HF := Aside0.mk (And.intro hf (And.intro hi (And.intro he hex)))
  clear hx h hf hi he hex
  unfold idV
  go_enter Try.func25, Try.ntmps25
  go_wp2_with (first | (go_at_call 44; refine (find_is (HB.out.below (below_alloc (Below.refl _ _) _)) HX.out true).mono ?_; rintro e_ w1 ⟨rfl, hb1⟩; rw [HF.out.1, HF.out.2.1]; have HW := Aside0.mk ((below_alloc (Below.refl w.heap.size w) (.cells (idC x) 30)).trans (hb1.mono (by simp))); clear hb1) | (go_at_call 43; refine (cutS (HB.out.below HW.out) HF.out.2.2.1).mono ?_; rintro e_ w2 ⟨rfl, ha⟩) | (refine wpList_load_mid rfl 30 (.tmp 3) rfl w.heap.size 0 rfl (x.map (Value.int .u8)) _ (id_range w x) Try.underlying30 rfl (by rw [List.length_map, HX.out.1]; exact info30) ?_))
  go_ret
  refine ⟨rfl, .preB HW.out ?_⟩
  rw [HF.out.2.2.2] at ha
  exact ha
set_option maxHeartbeats 4000000 in
set_option maxRecDepth 100000 in
theorem ans_no {w : World} {F : Nat → Prop} {g gm : Nat} {s : St} (h : BL w F g gm s) {x : List Int} (hx : Idok x) (hf : (findS s x true).2 ≠ 0) :
    Calls Try.prog 25 #[.pointer (some ⟨g, 0, none⟩), idV x] w fun e w' => e = .returned (.int .i64 (findS s x true).2) ∧ Below w.heap.size w w' := by
  have HX := Aside0.mk hx
  have HB := Aside0.mk h
  obtain ⟨q, hq⟩ : ∃ q, q = (findS s x true).2 := ⟨_, rfl⟩
  have HQ := Aside0.mk hq
  rw [← hq] at hf ⊢
  have hd : (q == 0) = false := by simpa using hf
  clear hx h hf hq
  unfold idV
  go_enter Try.func25, Try.ntmps25
  go_wp2_with (first | (go_at_call 44; refine (find_is (HB.out.below (below_alloc (Below.refl _ _) _)) HX.out true).mono ?_; rintro e_ w1 ⟨rfl, hb1⟩; rw [← HQ.out]; have HW := Aside0.mk ((below_alloc (Below.refl w.heap.size w) (.cells (idC x) 30)).trans (hb1.mono (by simp))); clear hb1) | (refine wpList_load_mid rfl 30 (.tmp 3) rfl w.heap.size 0 rfl (x.map (Value.int .u8)) _ (id_range w x) Try.underlying30 rfl (by rw [List.length_map, HX.out.1]; exact info30) ?_))
  go_ret
  exact ⟨rfl, HW.out⟩
theorem find_at {s : St} {x : List Int} {b : Bool} (h : (findS s x b).2 = 0) : ∃ (i : Nat) (e : Ent), (findS s x b).1 = (i : Int) ∧ s.es[i]? = some e ∧ e.1 = x ∧ (idxOf s.es x).toNat = i := by
  obtain ⟨h1, h2, h3⟩ := find0 h
  obtain ⟨i, e, k1, k2, k3⟩ := idx_some x s.es 0 h1
  have k4 : idxOf s.es x = ((0 + i : Nat) : Int) := k1
  exact ⟨i, e, by rw [h3, k4]; simp, k2, k3, by rw [k4]; simp⟩
theorem answered_is {w : World} {F : Nat → Prop} {g gm : Nat} {s : St} (h : BL w F g gm s) {x : List Int} (hx : Idok x) :
    Calls Try.prog 25 #[.pointer (some ⟨g, 0, none⟩), idV x] w fun e w' => e = .returned (.int .i64 (ansS s x).2) ∧ After F g gm w w' (ansS s x).1 := by
  unfold ansS
  by_cases hf : (findS s x true).2 = 0
  · rw [if_pos hf]
    obtain ⟨i, e, h1, h2, h3, h4⟩ := find_at hf
    rw [h4]
    exact ans_yes h hx hf i h1 e h2 h3
  · rw [if_neg hf]
    exact (ans_no h hx hf).mono fun e w' ⟨he, hb⟩ => ⟨he, .same h hb⟩
/-- Remove, plainly. -/
def remS (s : St) (x : List Int) : St × Bool := if x ∈ s.es.map (·.1) then (cutE s (idxOf s.es x).toNat x, true) else (s, false)
set_option maxHeartbeats 4000000 in
set_option maxRecDepth 100000 in
theorem rem_yes {w : World} {F : Nat → Prop} {g gm : Nat} {s : St} (h : BL w F g gm s) {x : List Int} (hx : Idok x) (hm : x ∈ s.es.map (·.1)) (i : Nat) (hi : idxOf s.es x = (i : Int)) (e : Ent) (he : s.es[i]? = some e) (hex : e.1 = x) :
    Calls Try.prog 17 #[.pointer (some ⟨g, 0, none⟩), idV x] w fun e w' => e = .returned (.bool true) ∧ After F g gm w w' (cutE s i x) := by
  have HX := Aside0.mk hx
  have HB := Aside0.mk h
  have HF := Aside0.mk (And.intro hm (And.intro hi (And.intro he hex)))
  clear hx h hm hi he hex
  unfold idV
  go_enter Try.func17, Try.ntmps17
  go_wp2_with (first | (go_at_call 16; refine (hasS (HB.out.below (below_alloc (Below.refl _ _) _)) HX.out).mono ?_; rintro e_ w1 ⟨rfl, hb1⟩; rw [decide_eq_true HF.out.1]; have HW := Aside0.mk ((below_alloc (Below.refl w.heap.size w) (.cells (idC x) 30)).trans (hb1.mono (by simp))); have HID := Aside0.mk (box_range2 hb1); clear hb1) | (go_at_call 42; refine (idxS (HB.out.below HW.out) HX.out).mono ?_; rintro e_ w2 ⟨rfl, hb2⟩; rw [HF.out.2.1]; have HW2 := Aside0.mk (HW.out.trans (hb2.mono HW.out.size)); clear hb2) | (go_at_call 43; refine (cutS (HB.out.below HW2.out) HF.out.2.2.1).mono ?_; rintro e_ w3 ⟨rfl, ha⟩) | (refine wpList_load_mid rfl 30 (.tmp 3) rfl w.heap.size 0 rfl (x.map (Value.int .u8)) _ (id_range w x) Try.underlying30 rfl (by rw [List.length_map, HX.out.1]; exact info30) ?_) | (refine wpList_load_mid rfl 30 (.tmp 3) rfl w.heap.size 0 rfl (x.map (Value.int .u8)) _ HID.out Try.underlying30 rfl (by rw [List.length_map, HX.out.1]; exact info30) ?_))
  go_ret
  refine ⟨rfl, .preB HW2.out ?_⟩
  rw [HF.out.2.2.2] at ha
  exact ha
set_option maxHeartbeats 4000000 in
set_option maxRecDepth 100000 in
theorem rem_no {w : World} {F : Nat → Prop} {g gm : Nat} {s : St} (h : BL w F g gm s) {x : List Int} (hx : Idok x) (hm : x ∉ s.es.map (·.1)) :
    Calls Try.prog 17 #[.pointer (some ⟨g, 0, none⟩), idV x] w fun e w' => e = .returned (.bool false) ∧ Below w.heap.size w w' := by
  have HX := Aside0.mk hx
  have HB := Aside0.mk h
  have HF := Aside0.mk hm
  clear hx h hm
  unfold idV
  go_enter Try.func17, Try.ntmps17
  go_wp2_with (first | (go_at_call 16; refine (hasS (HB.out.below (below_alloc (Below.refl _ _) _)) HX.out).mono ?_; rintro e_ w1 ⟨rfl, hb1⟩; rw [decide_eq_false HF.out]; have HW := Aside0.mk ((below_alloc (Below.refl w.heap.size w) (.cells (idC x) 30)).trans (hb1.mono (by simp))); clear hb1) | (refine wpList_load_mid rfl 30 (.tmp 3) rfl w.heap.size 0 rfl (x.map (Value.int .u8)) _ (id_range w x) Try.underlying30 rfl (by rw [List.length_map, HX.out.1]; exact info30) ?_))
  go_ret
  exact ⟨rfl, HW.out⟩
theorem remove_is {w : World} {F : Nat → Prop} {g gm : Nat} {s : St} (h : BL w F g gm s) {x : List Int} (hx : Idok x) :
    Calls Try.prog 17 #[.pointer (some ⟨g, 0, none⟩), idV x] w fun e w' => e = .returned (.bool (remS s x).2) ∧ After F g gm w w' (remS s x).1 := by
  unfold remS
  by_cases hm : x ∈ s.es.map (·.1)
  · rw [if_pos hm]
    obtain ⟨i, e, k1, k2, k3⟩ := idx_some x s.es 0 hm
    have k4 : idxOf s.es x = ((0 + i : Nat) : Int) := k1
    rw [Nat.zero_add] at k4
    rw [show (idxOf s.es x).toNat = i by rw [k4]; simp]
    exact rem_yes h hx hm i k4 e k2 k3
  · rw [if_neg hm]
    exact (rem_no h hx hm).mono fun e w' ⟨he, hb⟩ => ⟨he, .same h hb⟩
end Go.Proofs.Ytbhibodgbgndbaa.B
