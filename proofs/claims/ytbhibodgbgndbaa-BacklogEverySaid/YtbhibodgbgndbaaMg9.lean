/- Texts of this seat, joined: Tc Td Te Tf Tg. No condition but those that each part names. -/
import Derived.Test.YtbhibodgbgndbaaMg8
/- The law's do: Offered, Answered, Later, Add. No condition. -/
namespace Go.Proofs.Ytbhibodgbgndbaa.B
open Go Go.RowKit Go.Proofs Go.Proofs.YtbhibodgbgndbaaW.PrintWords Go.Proofs.YtbhibodgbgndbaaW.PrintLast Go.Proofs.YtbhibodgbgndbaaW.PrintMore
set_option linter.unusedVariables false
set_option linter.unusedSimpArgs false
set_option maxRecDepth 100000
set_option maxHeartbeats 16000000
attribute [local go_sem ↓] execOp_ld29 execOp_ld30 execOp_ld52 execOp_st52 execOp_alc52 execOp_alc30 execOp_st30
attribute [local go_sem] run_alc52 run_alc30 run_st30

/-- What do leaves. -/
def DoPost (w : World) (F0 : Nat → Prop) (g gm : Nat) (s' : St) (e : Ending) (w' : World) : Prop := ∃ v' l', e = .returned (.tuple #[RBs s' v', .bool true]) ∧ After F0 g gm w w' s' ∧ RV w' s' l' v'
theorem dv_start (w : World) (o : OpV) (A : Option Addr) (C : Nat) (c : Array Value) (hc : c.size = 4) (h1 : c.all (·.oneCell') = true) (hx : o.id.length = 32) :
    Dv w ((((w.alloc (.cells c 52)).alloc (.cells (opCs o A C).toArray 33)).alloc (.cells zeroB 52)).alloc (.cells (idC o.id) 30)) o A C c zeroB ∧ Below w.heap.size w ((((w.alloc (.cells c 52)).alloc (.cells (opCs o A C).toArray 33)).alloc (.cells zeroB 52)).alloc (.cells (idC o.id) 30)) := by
  have e1 : (w.alloc (.cells c 52)).heap.size = w.heap.size + 1 := by simp
  have e2 : ((w.alloc (.cells c 52)).alloc (.cells (opCs o A C).toArray 33)).heap.size = w.heap.size + 1 + 1 := by simp
  have e3 : (((w.alloc (.cells c 52)).alloc (.cells (opCs o A C).toArray 33)).alloc (.cells zeroB 52)).heap.size = w.heap.size + 1 + 1 + 1 := by simp
  refine ⟨⟨⟨?_, hc, h1⟩, ?_, ⟨?_, rfl, zeroB_one⟩, ?_⟩, below_alloc (below_alloc (below_alloc (below_alloc (Below.refl _ _) _) _) _) _⟩
  · rw [Below.heap_alloc _ _ _ (by omega), Below.heap_alloc _ _ _ (by omega), Below.heap_alloc _ _ _ (by omega)]; exact heap_alloc_last w _
  · rw [Below.heap_alloc _ _ _ (by omega), Below.heap_alloc _ _ _ (by omega)]
    have := heap_alloc_last (w.alloc (.cells c 52)) (.cells (opCs o A C).toArray 33)
    rw [e1] at this; exact this
  · rw [Below.heap_alloc _ _ _ (by omega)]
    have := heap_alloc_last ((w.alloc (.cells c 52)).alloc (.cells (opCs o A C).toArray 33)) (.cells zeroB 52)
    rw [e2] at this; exact this
  · have := heap_alloc_last (((w.alloc (.cells c 52)).alloc (.cells (opCs o A C).toArray 33)).alloc (.cells zeroB 52)) (.cells (idC o.id) 30)
    rw [e3] at this; exact this
/- GENERATED -/
theorem do_off {w : World} {F0 : Nat → Prop} {g gm : Nat} {s : St} {l : List RE} {v : Value} (h : BL w F0 g gm s) (hr : RV w s l v) (o : OpV) (A : Option Addr) (C : Nat) (hx : Idok o.id) (hk : o.kind = 0) :
    Calls Try.prog 32 #[.pointer (some ⟨g, 0, none⟩), RBs s v, .agg (opCs o A C).toArray] w (DoPost w F0 g gm (offS s o.id).1) := by
  obtain ⟨A1, c1, rfl⟩ := own_slice98 hr
  unfold RBs
  obtain ⟨B1, hB1⟩ : ∃ B1, B1 = rbV s.cap s.wait s.missed (.slice A1 l.length c1) := ⟨_, rfl⟩
  have hB4 : B1.size = 4 ∧ B1.all (·.oneCell') = true := by rw [hB1]; exact ⟨rfl, rbV_one _ _ _ _ _ _⟩
  obtain ⟨D1, L1⟩ := dv_start w o A C B1 hB4.1 hB4.2 hx.1
  have hu52 := Try.underlying52
  have hu33 := Try.underlying33
  have HX := Aside0.mk hx
  have HXL : Aside0 (o.id.length = 32) := ⟨hx.1⟩
  obtain ⟨F1, P1⟩ := Dp.start h
  have H1 := Aside0.mk (And.intro D1 (And.intro (P1.read L1) (hr.below L1)))
  have HZ := Aside0.mk h.lt
  have RO := Aside0.mk (fun (W : World) (hW : RV W s l (.slice A1 l.length c1)) => show Calls Try.prog 50 #[.agg B1, .int .i64 0, .agg (idC o.id), .int .i64 0] W fun e w' => ∃ A' c' l', e = .returned (.tuple #[.agg (rbV (offS s o.id).1.cap (offS s o.id).1.wait (offS s o.id).1.missed (.slice A' (l' : List RE).length c')), .int .i64 (offS s o.id).2]) ∧ RV w' (offS s o.id).1 l' (.slice A' l'.length c') ∧ Below W.heap.size W w' from by
    have := rv_off hW h.wf hx 0
    unfold RBs at this
    rw [← hB1] at this
    refine this.mono ?_
    rintro e w' ⟨v', l', rfl, hR, hb⟩
    obtain ⟨A', c', rfl⟩ := own_slice98 hR
    exact ⟨A', c', l', rfl, hR, hb⟩)
  have k33 : (((w.alloc (.cells B1 52)).alloc (.cells (opCs o A C).toArray 33)).alloc (.cells zeroB 52)).heap[w.heap.size + 1]? = some (.cells (opCs o A C).toArray 33 (0, 0)) := by
    rw [Below.heap_alloc _ _ _ (by simp)]
    have := heap_alloc_last (w.alloc (.cells B1 52)) (.cells (opCs o A C).toArray 33)
    rw [show (w.alloc (.cells B1 52)).heap.size = w.heap.size + 1 by simp] at this
    exact this
  obtain ⟨hc33, _⟩ := op_cells hx.1 k33
  have l1 := run_ld29 _ _ _ o.id hx.1 hc33
  obtain ⟨_, hk0, hk33, _⟩ := op_cells hx.1 D1.b5
  have l2 := run_ld30 _ _ o.id hx.1 (id_blk D1.b8)
  rw [hk] at hk0
  rw [← hB1]
  clear hx h hr D1 L1 P1 k33 hc33 hB1 hB4 hk
  go_enter Try.func32, Try.ntmps32
  go_wp2_with (first
    | (go_at_call 18; refine (offered_is H1.out.2.1.bl HX.out).mono ?_; rintro e_ w2 ⟨rfl, ha2⟩; obtain ⟨F2, P2⟩ := H1.out.2.1.call ha2; have D2 := H1.out.1.call H1.out.2.1 ha2; have R2 := H1.out.2.2.keep H1.out.2.1 ha2; obtain ⟨hid2, _, hk33', _⟩ := op_cells HXL.out D2.b5; have l3 := run_ld29 w2 _ _ o.id HXL.out hid2; have l4 := D2.b4.ld; have H2 := Aside0.mk (And.intro D2 (And.intro P2 R2)); clear ha2 D2 P2 R2 hid2)
    | (go_at_call 50; refine (RO.out _ H2.out.2.2).mono ?_; rintro e_ w3 ⟨A3, c3, l3', rfl, R3, hb3⟩; have D3 := H2.out.1.read hb3; have P3 := H2.out.2.1.read hb3; have s3 := D3.b4.st (d := rbV (offS s o.id).1.cap (offS s o.id).1.wait (offS s o.id).1.missed (.slice A3 l3'.length c3)) rfl (rbV_one _ _ _ _ _ _); have D4 := D3.set4 (e := rbV (offS s o.id).1.cap (offS s o.id).1.wait (offS s o.id).1.missed (.slice A3 l3'.length c3)) rfl (rbV_one _ _ _ _ _ _); have P4 := P3.setRow HZ.out D3.b4 (Nat.le_refl _) (d := rbV (offS s o.id).1.cap (offS s o.id).1.wait (offS s o.id).1.missed (.slice A3 l3'.length c3)); have R4 := R3.setRow D3.b4 (d := rbV (offS s o.id).1.cap (offS s o.id).1.wait (offS s o.id).1.missed (.slice A3 l3'.length c3)); have l5 := D4.b4.ld; have s5 := D4.b6.st (d := rbV (offS s o.id).1.cap (offS s o.id).1.wait (offS s o.id).1.missed (.slice A3 l3'.length c3)) rfl (rbV_one _ _ _ _ _ _); have H4 := Aside0.mk (And.intro D4 (And.intro P4 R4)); clear D3 P3 R3 D4 P4 R4 hb3))
  refine bodyPost_ret (results_B1 rfl _ _ _ _ rfl (H4.out.1.b6.set rfl (rbV_one _ _ _ _ _ _))) rfl ⟨_, _, ?_, (H4.out.2.1.setRow HZ.out H4.out.1.b6 (by omega)).after, H4.out.2.2.setRow H4.out.1.b6⟩
  simp [RBs]
theorem do_ans {w : World} {F0 : Nat → Prop} {g gm : Nat} {s : St} {l : List RE} {v : Value} (h : BL w F0 g gm s) (hr : RV w s l v) (o : OpV) (A : Option Addr) (C : Nat) (hx : Idok o.id) (hk : o.kind = 1) :
    Calls Try.prog 32 #[.pointer (some ⟨g, 0, none⟩), RBs s v, .agg (opCs o A C).toArray] w (DoPost w F0 g gm (ansS s o.id).1) := by
  obtain ⟨A1, c1, rfl⟩ := own_slice98 hr
  unfold RBs
  obtain ⟨B1, hB1⟩ : ∃ B1, B1 = rbV s.cap s.wait s.missed (.slice A1 l.length c1) := ⟨_, rfl⟩
  have hB4 : B1.size = 4 ∧ B1.all (·.oneCell') = true := by rw [hB1]; exact ⟨rfl, rbV_one _ _ _ _ _ _⟩
  obtain ⟨D1, L1⟩ := dv_start w o A C B1 hB4.1 hB4.2 hx.1
  have hu52 := Try.underlying52
  have hu33 := Try.underlying33
  have HX := Aside0.mk hx
  have HXL : Aside0 (o.id.length = 32) := ⟨hx.1⟩
  obtain ⟨F1, P1⟩ := Dp.start h
  have H1 := Aside0.mk (And.intro D1 (And.intro (P1.read L1) (hr.below L1)))
  have HZ := Aside0.mk h.lt
  have RO := Aside0.mk (fun (W : World) (hW : RV W s l (.slice A1 l.length c1)) => show Calls Try.prog 50 #[.agg B1, .int .i64 1, .agg (idC o.id), .int .i64 0] W fun e w' => ∃ A' c' l', e = .returned (.tuple #[.agg (rbV (ansS s o.id).1.cap (ansS s o.id).1.wait (ansS s o.id).1.missed (.slice A' (l' : List RE).length c')), .int .i64 (ansS s o.id).2]) ∧ RV w' (ansS s o.id).1 l' (.slice A' l'.length c') ∧ Below W.heap.size W w' from by
    have := rv_ans hW h.wf h.map.nodup hx 0
    unfold RBs at this
    rw [← hB1] at this
    refine this.mono ?_
    rintro e w' ⟨v', l', rfl, hR, hb⟩
    obtain ⟨A', c', rfl⟩ := own_slice98 hR
    exact ⟨A', c', l', rfl, hR, hb⟩)
  have k33 : (((w.alloc (.cells B1 52)).alloc (.cells (opCs o A C).toArray 33)).alloc (.cells zeroB 52)).heap[w.heap.size + 1]? = some (.cells (opCs o A C).toArray 33 (0, 0)) := by
    rw [Below.heap_alloc _ _ _ (by simp)]
    have := heap_alloc_last (w.alloc (.cells B1 52)) (.cells (opCs o A C).toArray 33)
    rw [show (w.alloc (.cells B1 52)).heap.size = w.heap.size + 1 by simp] at this
    exact this
  obtain ⟨hc33, _⟩ := op_cells hx.1 k33
  have l1 := run_ld29 _ _ _ o.id hx.1 hc33
  obtain ⟨_, hk0, hk33, _⟩ := op_cells hx.1 D1.b5
  have l2 := run_ld30 _ _ o.id hx.1 (id_blk D1.b8)
  rw [hk] at hk0
  rw [← hB1]
  clear hx h hr D1 L1 P1 k33 hc33 hB1 hB4 hk
  go_enter Try.func32, Try.ntmps32
  go_wp2_with (first
    | (go_at_call 25; refine (answered_is H1.out.2.1.bl HX.out).mono ?_; rintro e_ w2 ⟨rfl, ha2⟩; obtain ⟨F2, P2⟩ := H1.out.2.1.call ha2; have D2 := H1.out.1.call H1.out.2.1 ha2; have R2 := H1.out.2.2.keep H1.out.2.1 ha2; obtain ⟨hid2, _, hk33', _⟩ := op_cells HXL.out D2.b5; have l3 := run_ld29 w2 _ _ o.id HXL.out hid2; have l4 := D2.b4.ld; have H2 := Aside0.mk (And.intro D2 (And.intro P2 R2)); clear ha2 D2 P2 R2 hid2)
    | (go_at_call 50; refine (RO.out _ H2.out.2.2).mono ?_; rintro e_ w3 ⟨A3, c3, l3', rfl, R3, hb3⟩; have D3 := H2.out.1.read hb3; have P3 := H2.out.2.1.read hb3; have s3 := D3.b4.st (d := rbV (ansS s o.id).1.cap (ansS s o.id).1.wait (ansS s o.id).1.missed (.slice A3 l3'.length c3)) rfl (rbV_one _ _ _ _ _ _); have D4 := D3.set4 (e := rbV (ansS s o.id).1.cap (ansS s o.id).1.wait (ansS s o.id).1.missed (.slice A3 l3'.length c3)) rfl (rbV_one _ _ _ _ _ _); have P4 := P3.setRow HZ.out D3.b4 (Nat.le_refl _) (d := rbV (ansS s o.id).1.cap (ansS s o.id).1.wait (ansS s o.id).1.missed (.slice A3 l3'.length c3)); have R4 := R3.setRow D3.b4 (d := rbV (ansS s o.id).1.cap (ansS s o.id).1.wait (ansS s o.id).1.missed (.slice A3 l3'.length c3)); have l5 := D4.b4.ld; have s5 := D4.b6.st (d := rbV (ansS s o.id).1.cap (ansS s o.id).1.wait (ansS s o.id).1.missed (.slice A3 l3'.length c3)) rfl (rbV_one _ _ _ _ _ _); have H4 := Aside0.mk (And.intro D4 (And.intro P4 R4)); clear D3 P3 R3 D4 P4 R4 hb3))
  refine bodyPost_ret (results_B1 rfl _ _ _ _ rfl (H4.out.1.b6.set rfl (rbV_one _ _ _ _ _ _))) rfl ⟨_, _, ?_, (H4.out.2.1.setRow HZ.out H4.out.1.b6 (by omega)).after, H4.out.2.2.setRow H4.out.1.b6⟩
  simp [RBs]
theorem do_lat {w : World} {F0 : Nat → Prop} {g gm : Nat} {s : St} {l : List RE} {v : Value} (h : BL w F0 g gm s) (hr : RV w s l v) (o : OpV) (A : Option Addr) (C : Nat) (hx : Idok o.id) (hk : o.kind = 2) (htr : ∀ e ∈ s.es, 0 ≤ e.2.2 ∧ e.2.2 ≤ 1000) :
    Calls Try.prog 32 #[.pointer (some ⟨g, 0, none⟩), RBs s v, .agg (opCs o A C).toArray] w (DoPost w F0 g gm (latS s o.id o.now).1) := by
  obtain ⟨A1, c1, rfl⟩ := own_slice98 hr
  unfold RBs
  obtain ⟨B1, hB1⟩ : ∃ B1, B1 = rbV s.cap s.wait s.missed (.slice A1 l.length c1) := ⟨_, rfl⟩
  have hB4 : B1.size = 4 ∧ B1.all (·.oneCell') = true := by rw [hB1]; exact ⟨rfl, rbV_one _ _ _ _ _ _⟩
  obtain ⟨D1, L1⟩ := dv_start w o A C B1 hB4.1 hB4.2 hx.1
  have hu52 := Try.underlying52
  have hu33 := Try.underlying33
  have HX := Aside0.mk hx
  have HXL : Aside0 (o.id.length = 32) := ⟨hx.1⟩
  obtain ⟨F1, P1⟩ := Dp.start h
  have H1 := Aside0.mk (And.intro D1 (And.intro (P1.read L1) (hr.below L1)))
  have HZ := Aside0.mk h.lt
  have RO := Aside0.mk (fun (W : World) (hW : RV W s l (.slice A1 l.length c1)) => show Calls Try.prog 50 #[.agg B1, .int .i64 2, .agg (idC o.id), .int .i64 o.now] W fun e w' => ∃ A' c' l', e = .returned (.tuple #[.agg (rbV (latS s o.id o.now).1.cap (latS s o.id o.now).1.wait (latS s o.id o.now).1.missed (.slice A' (l' : List RE).length c')), .int .i64 (latS s o.id o.now).2]) ∧ RV w' (latS s o.id o.now).1 l' (.slice A' l'.length c') ∧ Below W.heap.size W w' from by
    have := rv_lat hW h.wf h.map.nodup hx o.now htr
    unfold RBs at this
    rw [← hB1] at this
    refine this.mono ?_
    rintro e w' ⟨v', l', rfl, hR, hb⟩
    obtain ⟨A', c', rfl⟩ := own_slice98 hR
    exact ⟨A', c', l', rfl, hR, hb⟩)
  have k33 : (((w.alloc (.cells B1 52)).alloc (.cells (opCs o A C).toArray 33)).alloc (.cells zeroB 52)).heap[w.heap.size + 1]? = some (.cells (opCs o A C).toArray 33 (0, 0)) := by
    rw [Below.heap_alloc _ _ _ (by simp)]
    have := heap_alloc_last (w.alloc (.cells B1 52)) (.cells (opCs o A C).toArray 33)
    rw [show (w.alloc (.cells B1 52)).heap.size = w.heap.size + 1 by simp] at this
    exact this
  obtain ⟨hc33, _⟩ := op_cells hx.1 k33
  have l1 := run_ld29 _ _ _ o.id hx.1 hc33
  obtain ⟨_, hk0, hk33, _⟩ := op_cells hx.1 D1.b5
  have l2 := run_ld30 _ _ o.id hx.1 (id_blk D1.b8)
  rw [hk] at hk0
  rw [← hB1]
  clear hx h hr D1 L1 P1 k33 hc33 hB1 hB4 hk htr
  go_enter Try.func32, Try.ntmps32
  go_wp2_with (first
    | (go_at_call 20; refine (later_is H1.out.2.1.bl HX.out o.now).mono ?_; rintro e_ w2 ⟨rfl, ha2⟩; obtain ⟨F2, P2⟩ := H1.out.2.1.call ha2; have D2 := H1.out.1.call H1.out.2.1 ha2; have R2 := H1.out.2.2.keep H1.out.2.1 ha2; obtain ⟨hid2, _, hk33', _⟩ := op_cells HXL.out D2.b5; have l3 := run_ld29 w2 _ _ o.id HXL.out hid2; have l4 := D2.b4.ld; have H2 := Aside0.mk (And.intro D2 (And.intro P2 R2)); clear ha2 D2 P2 R2 hid2)
    | (go_at_call 50; refine (RO.out _ H2.out.2.2).mono ?_; rintro e_ w3 ⟨A3, c3, l3', rfl, R3, hb3⟩; have D3 := H2.out.1.read hb3; have P3 := H2.out.2.1.read hb3; have s3 := D3.b4.st (d := rbV (latS s o.id o.now).1.cap (latS s o.id o.now).1.wait (latS s o.id o.now).1.missed (.slice A3 l3'.length c3)) rfl (rbV_one _ _ _ _ _ _); have D4 := D3.set4 (e := rbV (latS s o.id o.now).1.cap (latS s o.id o.now).1.wait (latS s o.id o.now).1.missed (.slice A3 l3'.length c3)) rfl (rbV_one _ _ _ _ _ _); have P4 := P3.setRow HZ.out D3.b4 (Nat.le_refl _) (d := rbV (latS s o.id o.now).1.cap (latS s o.id o.now).1.wait (latS s o.id o.now).1.missed (.slice A3 l3'.length c3)); have R4 := R3.setRow D3.b4 (d := rbV (latS s o.id o.now).1.cap (latS s o.id o.now).1.wait (latS s o.id o.now).1.missed (.slice A3 l3'.length c3)); have l5 := D4.b4.ld; have s5 := D4.b6.st (d := rbV (latS s o.id o.now).1.cap (latS s o.id o.now).1.wait (latS s o.id o.now).1.missed (.slice A3 l3'.length c3)) rfl (rbV_one _ _ _ _ _ _); have H4 := Aside0.mk (And.intro D4 (And.intro P4 R4)); clear D3 P3 R3 D4 P4 R4 hb3))
  refine bodyPost_ret (results_B1 rfl _ _ _ _ rfl (H4.out.1.b6.set rfl (rbV_one _ _ _ _ _ _))) rfl ⟨_, _, ?_, (H4.out.2.1.setRow HZ.out H4.out.1.b6 (by omega)).after, H4.out.2.2.setRow H4.out.1.b6⟩
  simp [RBs]
theorem do_add {w : World} {F0 : Nat → Prop} {g gm : Nat} {s : St} {l : List RE} {v : Value} (h : BL w F0 g gm s) (hr : RV w s l v) (o : OpV) (A : Option Addr) (C : Nat) (hx : Idok o.id) (hk : o.kind = 3) :
    Calls Try.prog 32 #[.pointer (some ⟨g, 0, none⟩), RBs s v, .agg (opCs o A C).toArray] w (DoPost w F0 g gm (addS s o.id o.now).1) := by
  obtain ⟨A1, c1, rfl⟩ := own_slice98 hr
  unfold RBs
  obtain ⟨B1, hB1⟩ : ∃ B1, B1 = rbV s.cap s.wait s.missed (.slice A1 l.length c1) := ⟨_, rfl⟩
  have hB4 : B1.size = 4 ∧ B1.all (·.oneCell') = true := by rw [hB1]; exact ⟨rfl, rbV_one _ _ _ _ _ _⟩
  obtain ⟨D1, L1⟩ := dv_start w o A C B1 hB4.1 hB4.2 hx.1
  have hu52 := Try.underlying52
  have hu33 := Try.underlying33
  have HX := Aside0.mk hx
  have HXL : Aside0 (o.id.length = 32) := ⟨hx.1⟩
  obtain ⟨F1, P1⟩ := Dp.start h
  have H1 := Aside0.mk (And.intro D1 (And.intro (P1.read L1) (hr.below L1)))
  have HZ := Aside0.mk h.lt
  have RO := Aside0.mk (fun (W : World) (hW : RV W s l (.slice A1 l.length c1)) => show Calls Try.prog 51 #[.agg B1, .agg (idC o.id), .int .i64 o.now] W fun e w' => ∃ A' c' l', e = .returned (.tuple #[.agg (rbV (addS s o.id o.now).1.cap (addS s o.id o.now).1.wait (addS s o.id o.now).1.missed (.slice A' (l' : List RE).length c')), .int .i64 (addS s o.id o.now).2]) ∧ RV w' (addS s o.id o.now).1 l' (.slice A' l'.length c') ∧ Below W.heap.size W w' from by
    have := rv_add hW h.wf hx o.now
    unfold RBs at this
    rw [← hB1] at this
    refine this.mono ?_
    rintro e w' ⟨v', l', rfl, hR, hb⟩
    obtain ⟨A', c', rfl⟩ := own_slice98 hR
    exact ⟨A', c', l', rfl, hR, hb⟩)
  have k33 : (((w.alloc (.cells B1 52)).alloc (.cells (opCs o A C).toArray 33)).alloc (.cells zeroB 52)).heap[w.heap.size + 1]? = some (.cells (opCs o A C).toArray 33 (0, 0)) := by
    rw [Below.heap_alloc _ _ _ (by simp)]
    have := heap_alloc_last (w.alloc (.cells B1 52)) (.cells (opCs o A C).toArray 33)
    rw [show (w.alloc (.cells B1 52)).heap.size = w.heap.size + 1 by simp] at this
    exact this
  obtain ⟨hc33, _⟩ := op_cells hx.1 k33
  have l1 := run_ld29 _ _ _ o.id hx.1 hc33
  obtain ⟨_, hk0, hk33, _⟩ := op_cells hx.1 D1.b5
  have l2 := run_ld30 _ _ o.id hx.1 (id_blk D1.b8)
  rw [hk] at hk0
  rw [← hB1]
  clear hx h hr D1 L1 P1 k33 hc33 hB1 hB4 hk
  go_enter Try.func32, Try.ntmps32
  go_wp2_with (first
    | (go_at_call 13; refine (add_is H1.out.2.1.bl HX.out o.now).mono ?_; rintro e_ w2 ⟨rfl, ha2⟩; obtain ⟨F2, P2⟩ := H1.out.2.1.call ha2; have D2 := H1.out.1.call H1.out.2.1 ha2; have R2 := H1.out.2.2.keep H1.out.2.1 ha2; obtain ⟨hid2, _, hk33', _⟩ := op_cells HXL.out D2.b5; have l3 := run_ld29 w2 _ _ o.id HXL.out hid2; have l4 := D2.b4.ld; have H2 := Aside0.mk (And.intro D2 (And.intro P2 R2)); clear ha2 D2 P2 R2 hid2)
    | (go_at_call 51; refine (RO.out _ H2.out.2.2).mono ?_; rintro e_ w3 ⟨A3, c3, l3', rfl, R3, hb3⟩; have D3 := H2.out.1.read hb3; have P3 := H2.out.2.1.read hb3; have s3 := D3.b4.st (d := rbV (addS s o.id o.now).1.cap (addS s o.id o.now).1.wait (addS s o.id o.now).1.missed (.slice A3 l3'.length c3)) rfl (rbV_one _ _ _ _ _ _); have D4 := D3.set4 (e := rbV (addS s o.id o.now).1.cap (addS s o.id o.now).1.wait (addS s o.id o.now).1.missed (.slice A3 l3'.length c3)) rfl (rbV_one _ _ _ _ _ _); have P4 := P3.setRow HZ.out D3.b4 (Nat.le_refl _) (d := rbV (addS s o.id o.now).1.cap (addS s o.id o.now).1.wait (addS s o.id o.now).1.missed (.slice A3 l3'.length c3)); have R4 := R3.setRow D3.b4 (d := rbV (addS s o.id o.now).1.cap (addS s o.id o.now).1.wait (addS s o.id o.now).1.missed (.slice A3 l3'.length c3)); have l5 := D4.b4.ld; have s5 := D4.b6.st (d := rbV (addS s o.id o.now).1.cap (addS s o.id o.now).1.wait (addS s o.id o.now).1.missed (.slice A3 l3'.length c3)) rfl (rbV_one _ _ _ _ _ _); have H4 := Aside0.mk (And.intro D4 (And.intro P4 R4)); clear D3 P3 R3 D4 P4 R4 hb3))
  refine bodyPost_ret (results_B1 rfl _ _ _ _ rfl (H4.out.1.b6.set rfl (rbV_one _ _ _ _ _ _))) rfl ⟨_, _, ?_, (H4.out.2.1.setRow HZ.out H4.out.1.b6 (by omega)).after, H4.out.2.2.setRow H4.out.1.b6⟩
  simp [RBs]
end Go.Proofs.Ytbhibodgbgndbaa.B
/- The law's do: Remove, Drop. No condition. -/
namespace Go.Proofs.Ytbhibodgbgndbaa.B
open Go Go.RowKit Go.Proofs Go.Proofs.YtbhibodgbgndbaaW.PrintWords Go.Proofs.YtbhibodgbgndbaaW.PrintLast Go.Proofs.YtbhibodgbgndbaaW.PrintMore
set_option linter.unusedVariables false
set_option linter.unusedSimpArgs false
set_option maxRecDepth 100000
set_option maxHeartbeats 16000000
attribute [local go_sem ↓] execOp_ld29 execOp_ld30 execOp_ld52 execOp_st52 execOp_alc52 execOp_alc30 execOp_st30
attribute [local go_sem] run_alc52 run_alc30 run_st30 run_st52n
theorem do_rem {w : World} {F0 : Nat → Prop} {g gm : Nat} {s : St} {l : List RE} {v : Value} (h : BL w F0 g gm s) (hr : RV w s l v) (o : OpV) (A : Option Addr) (C : Nat) (hx : Idok o.id) (hk : o.kind = 4) :
    Calls Try.prog 32 #[.pointer (some ⟨g, 0, none⟩), RBs s v, .agg (opCs o A C).toArray] w (DoPost w F0 g gm ((remS s o.id).1)) := by
  obtain ⟨A1, c1, rfl⟩ := own_slice98 hr
  unfold RBs
  obtain ⟨B1, hB1⟩ : ∃ B1, B1 = rbV s.cap s.wait s.missed (.slice A1 l.length c1) := ⟨_, rfl⟩
  have hB4 : B1.size = 4 ∧ B1.all (·.oneCell') = true := by rw [hB1]; exact ⟨rfl, rbV_one _ _ _ _ _ _⟩
  obtain ⟨D1, L1⟩ := dv_start w o A C B1 hB4.1 hB4.2 hx.1
  have hu52 := Try.underlying52
  have hu33 := Try.underlying33
  have HX := Aside0.mk hx
  have HXL : Aside0 (o.id.length = 32) := ⟨hx.1⟩
  obtain ⟨F1, P1⟩ := Dp.start h
  have H1 := Aside0.mk (And.intro D1 (And.intro (P1.read L1) (hr.below L1)))
  have HZ := Aside0.mk h.lt
  have RO := Aside0.mk (fun (W : World) (hW : RV W s l (.slice A1 l.length c1)) => show Calls Try.prog 52 #[.agg B1, .agg (idC o.id)] W fun e w' => ∃ A' c' l', e = .returned (.tuple #[.agg (rbV ((remS s o.id).1).cap ((remS s o.id).1).wait ((remS s o.id).1).missed (.slice A' (l' : List RE).length c')), .bool (remS s o.id).2]) ∧ RV w' ((remS s o.id).1) l' (.slice A' l'.length c') ∧ Below W.heap.size W w' from by
    have := rv_rem hW h.wf h.map.nodup hx
    unfold RBs at this
    rw [← hB1] at this
    refine this.mono ?_
    rintro e w' ⟨v', l', rfl, hR, hb⟩
    obtain ⟨A', c', rfl⟩ := own_slice98 hR
    exact ⟨A', c', l', rfl, hR, hb⟩)
  have k33 : (((w.alloc (.cells B1 52)).alloc (.cells (opCs o A C).toArray 33)).alloc (.cells zeroB 52)).heap[w.heap.size + 1]? = some (.cells (opCs o A C).toArray 33 (0, 0)) := by
    rw [Below.heap_alloc _ _ _ (by simp)]
    have := heap_alloc_last (w.alloc (.cells B1 52)) (.cells (opCs o A C).toArray 33)
    rw [show (w.alloc (.cells B1 52)).heap.size = w.heap.size + 1 by simp] at this
    exact this
  obtain ⟨hc33, _⟩ := op_cells hx.1 k33
  have l1 := run_ld29 _ _ _ o.id hx.1 hc33
  obtain ⟨_, hk0, hk33, _⟩ := op_cells hx.1 D1.b5
  have l2 := run_ld30 _ _ o.id hx.1 (id_blk D1.b8)
  rw [hk] at hk0
  rw [← hB1]
  clear hx h hr D1 L1 P1 k33 hc33 hB1 hB4 hk
  go_enter Try.func32, Try.ntmps32
  go_wp2_with (first
    | (go_at_call 17; refine (remove_is H1.out.2.1.bl HX.out).mono ?_; rintro e_ w2 ⟨rfl, ha2⟩; obtain ⟨F2, P2⟩ := H1.out.2.1.call ha2; have D2 := H1.out.1.call H1.out.2.1 ha2; have R2 := H1.out.2.2.keep H1.out.2.1 ha2; obtain ⟨hid2, _, hk33', _⟩ := op_cells HXL.out D2.b5; have l3 := run_ld29 w2 _ _ o.id HXL.out hid2; have l4 := D2.b4.ld; have H2 := Aside0.mk (And.intro D2 (And.intro P2 R2)); clear ha2 D2 P2 R2 hid2)
    | (go_at_call 52; refine (RO.out _ H2.out.2.2).mono ?_; rintro e_ w3 ⟨A3, c3, l3', rfl, R3, hb3⟩; have L4 := hb3.trans (below_alloc (Below.refl w3.heap.size w3) (.cells (rbV ((remS s o.id).1).cap ((remS s o.id).1).wait ((remS s o.id).1).missed (.slice A3 l3'.length c3)) 52) |>.mono hb3.size); have D4 := H2.out.1.read L4; have P4 := H2.out.2.1.read L4; have N4 := BVar.new w3 (c := rbV ((remS s o.id).1).cap ((remS s o.id).1).wait ((remS s o.id).1).missed (.slice A3 l3'.length c3)) rfl (rbV_one _ _ _ _ _ _); have R4 := R3.below (below_alloc (Below.refl w3.heap.size w3) (.cells (rbV ((remS s o.id).1).cap ((remS s o.id).1).wait ((remS s o.id).1).missed (.slice A3 l3'.length c3)) 52)); have l5 := N4.ld; have s5 := D4.b6.st (d := rbV ((remS s o.id).1).cap ((remS s o.id).1).wait ((remS s o.id).1).missed (.slice A3 l3'.length c3)) rfl (rbV_one _ _ _ _ _ _); have H4 := Aside0.mk (And.intro D4 (And.intro P4 R4)); clear R3 D4 P4 R4 N4 L4 hb3))
  refine bodyPost_ret (results_B1 rfl _ _ _ _ rfl (H4.out.1.b6.set rfl (rbV_one _ _ _ _ _ _))) rfl ⟨_, _, ?_, (H4.out.2.1.setRow HZ.out H4.out.1.b6 (by omega)).after, H4.out.2.2.setRow H4.out.1.b6⟩
  simp [RBs]
theorem do_drop {w : World} {F0 : Nat → Prop} {g gm : Nat} {s : St} {l : List RE} {v : Value} (h : BL w F0 g gm s) (hr : RV w s l v) (o : OpV) (A : Option Addr) (C : Nat) (hx : Idok o.id) (hk : o.kind = 5) :
    Calls Try.prog 32 #[.pointer (some ⟨g, 0, none⟩), RBs s v, .agg (opCs o A C).toArray] w (DoPost w F0 g gm (dropS s)) := by
  obtain ⟨A1, c1, rfl⟩ := own_slice98 hr
  unfold RBs
  obtain ⟨B1, hB1⟩ : ∃ B1, B1 = rbV s.cap s.wait s.missed (.slice A1 l.length c1) := ⟨_, rfl⟩
  have hB4 : B1.size = 4 ∧ B1.all (·.oneCell') = true := by rw [hB1]; exact ⟨rfl, rbV_one _ _ _ _ _ _⟩
  obtain ⟨D1, L1⟩ := dv_start w o A C B1 hB4.1 hB4.2 hx.1
  have hu52 := Try.underlying52
  have hu33 := Try.underlying33
  have HX := Aside0.mk hx
  have HXL : Aside0 (o.id.length = 32) := ⟨hx.1⟩
  obtain ⟨F1, P1⟩ := Dp.start h
  have H1 := Aside0.mk (And.intro D1 (And.intro (P1.read L1) (hr.below L1)))
  have HZ := Aside0.mk h.lt
  have RO := Aside0.mk (fun (W : World) (hW : RV W s l (.slice A1 l.length c1)) => show Calls Try.prog 39 #[.agg B1] W fun e w' => ∃ A' c' l', e = .returned (.tuple #[.agg (rbV (dropS s).cap (dropS s).wait (dropS s).missed (.slice A' (l' : List RE).length c')), .int .i64 (s.out.length : Int)]) ∧ RV w' (dropS s) l' (.slice A' l'.length c') ∧ Below W.heap.size W w' from by
    have := rv_drop hW h.wf h.map.nodup
    unfold RBs at this
    rw [← hB1] at this
    refine this.mono ?_
    rintro e w' ⟨v', l', rfl, hR, hb⟩
    obtain ⟨A', c', rfl⟩ := own_slice98 hR
    exact ⟨A', c', l', rfl, hR, hb⟩)
  have k33 : (((w.alloc (.cells B1 52)).alloc (.cells (opCs o A C).toArray 33)).alloc (.cells zeroB 52)).heap[w.heap.size + 1]? = some (.cells (opCs o A C).toArray 33 (0, 0)) := by
    rw [Below.heap_alloc _ _ _ (by simp)]
    have := heap_alloc_last (w.alloc (.cells B1 52)) (.cells (opCs o A C).toArray 33)
    rw [show (w.alloc (.cells B1 52)).heap.size = w.heap.size + 1 by simp] at this
    exact this
  obtain ⟨hc33, _⟩ := op_cells hx.1 k33
  have l1 := run_ld29 _ _ _ o.id hx.1 hc33
  obtain ⟨_, hk0, hk33, _⟩ := op_cells hx.1 D1.b5
  have l2 := run_ld30 _ _ o.id hx.1 (id_blk D1.b8)
  rw [hk] at hk0
  rw [← hB1]
  clear hx h hr D1 L1 P1 k33 hc33 hB1 hB4 hk
  go_enter Try.func32, Try.ntmps32
  go_wp2_with (first
    | (go_at_call 19; refine (drop_is H1.out.2.1.bl).mono ?_; rintro e_ w2 ⟨rfl, ha2⟩; obtain ⟨F2, P2⟩ := H1.out.2.1.call ha2; have D2 := H1.out.1.call H1.out.2.1 ha2; have R2 := H1.out.2.2.keep H1.out.2.1 ha2; obtain ⟨hid2, _, hk33', _⟩ := op_cells HXL.out D2.b5; have l3 := run_ld29 w2 _ _ o.id HXL.out hid2; have l4 := D2.b4.ld; have H2 := Aside0.mk (And.intro D2 (And.intro P2 R2)); clear ha2 D2 P2 R2 hid2)
    | (go_at_call 39; refine (RO.out _ H2.out.2.2).mono ?_; rintro e_ w3 ⟨A3, c3, l3', rfl, R3, hb3⟩; have L4 := hb3.trans (below_alloc (Below.refl w3.heap.size w3) (.cells (rbV (dropS s).cap (dropS s).wait (dropS s).missed (.slice A3 l3'.length c3)) 52) |>.mono hb3.size); have D4 := H2.out.1.read L4; have P4 := H2.out.2.1.read L4; have N4 := BVar.new w3 (c := rbV (dropS s).cap (dropS s).wait (dropS s).missed (.slice A3 l3'.length c3)) rfl (rbV_one _ _ _ _ _ _); have R4 := R3.below (below_alloc (Below.refl w3.heap.size w3) (.cells (rbV (dropS s).cap (dropS s).wait (dropS s).missed (.slice A3 l3'.length c3)) 52)); have l5 := N4.ld; have s5 := D4.b6.st (d := rbV (dropS s).cap (dropS s).wait (dropS s).missed (.slice A3 l3'.length c3)) rfl (rbV_one _ _ _ _ _ _); have H4 := Aside0.mk (And.intro D4 (And.intro P4 R4)); clear R3 D4 P4 R4 N4 L4 hb3))
  refine bodyPost_ret (results_B1 rfl _ _ _ _ rfl (H4.out.1.b6.set rfl (rbV_one _ _ _ _ _ _))) rfl ⟨_, _, ?_, (H4.out.2.1.setRow HZ.out H4.out.1.b6 (by omega)).after, H4.out.2.2.setRow H4.out.1.b6⟩
  simp [RBs]
end Go.Proofs.Ytbhibodgbgndbaa.B
/- The law's do: Next, and what is no operation. No condition. -/
namespace Go.Proofs.Ytbhibodgbgndbaa.B
open Go Go.RowKit Go.Proofs Go.Proofs.YtbhibodgbgndbaaW.PrintWords Go.Proofs.YtbhibodgbgndbaaW.PrintLast Go.Proofs.YtbhibodgbgndbaaW.PrintMore
set_option linter.unusedVariables false
set_option linter.unusedSimpArgs false
set_option maxRecDepth 100000
set_option maxHeartbeats 16000000
attribute [local go_sem ↓] execOp_ld29 execOp_ld30 execOp_ld52 execOp_st52 execOp_alc52 execOp_alc30 execOp_st30
attribute [local go_sem] run_alc52 run_alc30 run_st30 run_st52n
theorem nextG_ids (out : List (List Int)) (now most : Int) : ∀ (es : List Ent) (acc : List (List Int)), (∀ e ∈ es, e.1.length = 32) → (∀ x ∈ acc, x.length = 32) → (∀ x ∈ nextG out now most es acc, x.length = 32) ∧ (nextG out now most es acc).length ≤ acc.length + es.length
  | [], acc, _, h => ⟨h, by simp [nextG]⟩
  | e :: es, acc, he, h => by
    unfold nextG
    split
    · exact ⟨h, by simp⟩
    split
    · have := nextG_ids out now most es (acc ++ [e.1]) (fun x hx => he x (by simp [hx])) (fun x hx => by
        rcases List.mem_append.1 hx with hx | hx
        · exact h x hx
        · simp at hx; subst hx; exact he e (by simp))
      exact ⟨this.1, by have := this.2; simp at this ⊢; omega⟩
    · have := nextG_ids out now most es acc (fun x hx => he x (by simp [hx])) h
      exact ⟨this.1, by have := this.2; simp at this ⊢; omega⟩
theorem do_none {w : World} {F0 : Nat → Prop} {g gm : Nat} {s : St} {l : List RE} {v : Value} (h : BL w F0 g gm s) (hr : RV w s l v) (o : OpV) (A : Option Addr) (C : Nat) (hx : Idok o.id) (hk : o.kind < 0 ∨ 7 < o.kind) :
    Calls Try.prog 32 #[.pointer (some ⟨g, 0, none⟩), RBs s v, .agg (opCs o A C).toArray] w (DoPost w F0 g gm s) := by
  obtain ⟨A1, c1, rfl⟩ := own_slice98 hr
  unfold RBs
  obtain ⟨B1, hB1⟩ : ∃ B1, B1 = rbV s.cap s.wait s.missed (.slice A1 l.length c1) := ⟨_, rfl⟩
  have hB4 : B1.size = 4 ∧ B1.all (·.oneCell') = true := by rw [hB1]; exact ⟨rfl, rbV_one _ _ _ _ _ _⟩
  obtain ⟨D1, L1⟩ := dv_start w o A C B1 hB4.1 hB4.2 hx.1
  have hu52 := Try.underlying52
  have hu33 := Try.underlying33
  have HXL : Aside0 (o.id.length = 32) := ⟨hx.1⟩
  obtain ⟨F1, P1⟩ := Dp.start h
  have H1 := Aside0.mk (And.intro D1 (And.intro (P1.read L1) (hr.below L1)))
  have HZ := Aside0.mk (And.intro h.lt (And.intro hB1 hB4))
  have k33 : (((w.alloc (.cells B1 52)).alloc (.cells (opCs o A C).toArray 33)).alloc (.cells zeroB 52)).heap[w.heap.size + 1]? = some (.cells (opCs o A C).toArray 33 (0, 0)) := by
    rw [Below.heap_alloc _ _ _ (by simp)]
    have := heap_alloc_last (w.alloc (.cells B1 52)) (.cells (opCs o A C).toArray 33)
    rw [show (w.alloc (.cells B1 52)).heap.size = w.heap.size + 1 by simp] at this
    exact this
  obtain ⟨hc33, _⟩ := op_cells hx.1 k33
  have l1 := run_ld29 _ _ _ o.id hx.1 hc33
  obtain ⟨_, hk0, hk33, _⟩ := op_cells hx.1 D1.b5
  have l5 := D1.b4.ld
  have s5 := D1.b6.st hB4.1 hB4.2
  have n0 : (o.kind == 0) = false := by simp; omega
  have n1 : (o.kind == 1) = false := by simp; omega
  have n2 : (o.kind == 2) = false := by simp; omega
  have n3 : (o.kind == 3) = false := by simp; omega
  have n4 : (o.kind == 4) = false := by simp; omega
  have n5 : (o.kind == 5) = false := by simp; omega
  have n6 : (o.kind == 6) = false := by simp; omega
  have n7 : (o.kind == 7) = false := by simp; omega
  rw [← hB1]
  clear hx h hr D1 L1 P1 k33 hc33 hB1 hB4 hk
  go_enter Try.func32, Try.ntmps32
  go_wp2
  refine bodyPost_ret (results_B1 rfl _ _ _ _ rfl (H1.out.1.b6.set HZ.out.2.2.1 HZ.out.2.2.2)) rfl ⟨_, _, ?_, (H1.out.2.1.setRow HZ.out.1 H1.out.1.b6 (by omega)).after, H1.out.2.2.setRow H1.out.1.b6⟩
  rw [HZ.out.2.1]
  simp [RBs]
theorem do_next {w : World} {F0 : Nat → Prop} {g gm : Nat} {s : St} {l : List RE} {v : Value} (h : BL w F0 g gm s) (hr : RV w s l v) (o : OpV) (A : Option Addr) (C : Nat) (hx : Idok o.id) (hk : o.kind = 7) :
    Calls Try.prog 32 #[.pointer (some ⟨g, 0, none⟩), RBs s v, .agg (opCs o A C).toArray] w (DoPost w F0 g gm s) := by
  obtain ⟨A1, c1, rfl⟩ := own_slice98 hr
  unfold RBs
  obtain ⟨B1, hB1⟩ : ∃ B1, B1 = rbV s.cap s.wait s.missed (.slice A1 l.length c1) := ⟨_, rfl⟩
  have hB4 : B1.size = 4 ∧ B1.all (·.oneCell') = true := by rw [hB1]; exact ⟨rfl, rbV_one _ _ _ _ _ _⟩
  obtain ⟨D1, L1⟩ := dv_start w o A C B1 hB4.1 hB4.2 hx.1
  have hu52 := Try.underlying52
  have hu33 := Try.underlying33
  have HXL : Aside0 (o.id.length = 32) := ⟨hx.1⟩
  obtain ⟨F1, P1⟩ := Dp.start h
  have H1 := Aside0.mk (And.intro D1 (And.intro (P1.read L1) (hr.below L1)))
  have HZ := Aside0.mk (And.intro h.lt (And.intro hB1 hB4))
  obtain ⟨N, hN⟩ : ∃ N, N = nextG s.out o.now o.most s.es [] := ⟨_, rfl⟩
  have hN1 := nextG_ids s.out o.now o.most s.es [] h.wf.l32 (by simp)
  rw [← hN] at hN1
  have HN := Aside0.mk (show (∀ x ∈ N, x.length = 32) ∧ N.length ≤ 1000000 from ⟨hN1.1, by have h1 := hN1.2; have := h.wf.len; simp only [List.length_nil] at h1; omega⟩)
  have NX := Aside0.mk (fun (W : World) (hW : BL W F1 g gm s) => show Calls Try.prog 22 #[.pointer (some ⟨g, 0, none⟩), .int .i64 o.now, .int .i64 o.most] W fun e w' => ∃ v', e = .returned v' ∧ w'.ownsRow W.heap.size 30 32 v' N.length (idsL N) ∧ Below W.heap.size W w' from by
    have := next_is hW o.now o.most
    rw [← hN] at this; exact this)
  have NR := Aside0.mk (fun (W : World) (hW : RV W s l (.slice A1 l.length c1)) => show Calls Try.prog 55 #[.agg B1, .int .i64 o.now, .int .i64 o.most] W fun e w' => ∃ v', e = .returned v' ∧ w'.ownsRow W.heap.size 29 32 v' N.length (idsL N) ∧ Below W.heap.size W w' from by
    have := rv_next hW h.wf o.now o.most
    rw [← hN] at this
    unfold RBs at this
    rw [← hB1] at this; exact this)
  have k33 : (((w.alloc (.cells B1 52)).alloc (.cells (opCs o A C).toArray 33)).alloc (.cells zeroB 52)).heap[w.heap.size + 1]? = some (.cells (opCs o A C).toArray 33 (0, 0)) := by
    rw [Below.heap_alloc _ _ _ (by simp)]
    have := heap_alloc_last (w.alloc (.cells B1 52)) (.cells (opCs o A C).toArray 33)
    rw [show (w.alloc (.cells B1 52)).heap.size = w.heap.size + 1 by simp] at this
    exact this
  obtain ⟨hc33, _⟩ := op_cells hx.1 k33
  have l1 := run_ld29 _ _ _ o.id hx.1 hc33
  obtain ⟨_, hk0, _⟩ := op_cells hx.1 D1.b5
  rw [hk] at hk0
  rw [← hB1]
  clear hx h hr D1 L1 P1 k33 hc33 hB1 hB4 hk hN hN1
  go_enter Try.func32, Try.ntmps32
  go_wp2
  clear l1 hk0
  generalize (((w.alloc (.cells B1 52)).alloc (.cells (opCs o A C).toArray 33)).alloc (.cells zeroB 52)).alloc (.cells (idC o.id) 30) = W1 at H1 ⊢
  have H1D := Aside0.mk (And.intro (H1.out.1.read (below_drew1 (Below.refl _ _))) (And.intro (H1.out.2.1.read (below_drew1 (Below.refl _ _))) (H1.out.2.2.below (below_drew1 (Below.refl _ _)))))
  have s1 := H1D.out.1.b4.ld
  obtain ⟨_, _, s2, s3, _⟩ := op_cells HXL.out H1D.out.1.b5
  go_region_held3 (fun w' => (ld52 (.pointer (some ⟨w.heap.size, 0, none⟩))).run Try.prog w' = .ok (.agg B1) w' ∧ w'.cell? ⟨w.heap.size + 1, 33, none⟩ = some (.int .i64 o.now) ∧ w'.cell? ⟨w.heap.size + 1, 34, none⟩ = some (.int .i64 o.most))
    (first | exact ⟨s1, s2, s3⟩ | exact ⟨t1, t2, t3⟩ | exact ⟨r1, r2, r3⟩ | exact ⟨q1, q2, q3⟩ | exact ⟨u1, u2, u3⟩ | fail)
    (first
      | (go_at_call 22; refine (NX.out _ H1D.out.2.1.bl).mono ?_; rintro e_ w2 ⟨v2, rfl, ho2, hb2⟩; have H2 := Aside0.mk (And.intro (H1D.out.1.read hb2) (And.intro (H1D.out.2.1.read hb2) (And.intro (H1D.out.2.2.below hb2) ho2))); have t1 := H2.out.1.b4.ld; obtain ⟨_, _, t2, t3, _⟩ := op_cells HXL.out H2.out.1.b5; clear hb2 ho2)
      | (go_at_call 55; refine (NR.out _ H2.out.2.2.1).mono ?_; rintro e_ w3 ⟨v3, rfl, ho3, hb3⟩; have H3 := Aside0.mk (And.intro (H2.out.1.read hb3) (And.intro (H2.out.2.1.read hb3) (And.intro (H2.out.2.2.1.below hb3) (And.intro (own_below H2.out.2.2.2 hb3) ho3)))); have r1 := H3.out.1.b4.ld; obtain ⟨_, _, r2, r3, _⟩ := op_cells HXL.out H3.out.1.b5; clear hb3 ho3)
      | (go_at_call 54; refine (sameI_is N N HN.out.1 HN.out.1 HN.out.2 v2 v3 _ _ _ H3.out.2.2.2.1 H3.out.2.2.2.2).mono ?_; rintro e_ w4 ⟨rfl, hb4⟩; rw [decide_eq_true rfl]; have H4 := Aside0.mk (And.intro (H3.out.1.read hb4) (And.intro (H3.out.2.1.read hb4) (H3.out.2.2.1.below hb4))); have q1 := H4.out.1.b4.ld; obtain ⟨_, _, q2, q3, _⟩ := op_cells HXL.out H4.out.1.b5; have st4 := H4.out.1.b6.st HZ.out.2.2.1 HZ.out.2.2.2; have H5 := Aside0.mk (And.intro (H4.out.1.set6 HZ.out.2.2.1 HZ.out.2.2.2) (And.intro (H4.out.2.1.setRow HZ.out.1 H4.out.1.b6 (by omega) (d := B1)) (H4.out.2.2.setRow H4.out.1.b6 (d := B1)))); have u1 := H5.out.1.b4.ld; obtain ⟨_, _, u2, u3, _⟩ := op_cells HXL.out H5.out.1.b5; clear hb4))
  go_wp2
  refine bodyPost_ret (results_B1 rfl _ _ _ _ rfl H5.out.1.b6) rfl ⟨_, _, ?_, H5.out.2.1.after, H5.out.2.2⟩
  rw [HZ.out.2.1]
  simp [RBs]
/-- Values: the box holds the slice. -/
theorem values_box (v : Value) (hv : v.oneCell' = true) (w : World) : Calls Try.prog 24 #[v] w fun e w' => e = .returned (.func (.func 46) #[] #[.pointer (some ⟨w.heap.size, 0, none⟩)]) ∧ w' = w.alloc (.cells #[v] 40) := by
  go_enter Try.func24, Try.ntmps24
  go_wp2
  go_ret
  exact ⟨rfl, rfl⟩
/-- A row of identities and a block that holds it, or another block. -/
theorem ids_blk {W : World} {base k0 : Nat} {v : Value} {l : List (List Int)} (hl : ∀ x ∈ l, x.length = 32) (h : W.ownsRow base 30 32 v l.length (idsL l)) (hk : ∃ c t, W.heap[k0]? = some (.cells c t (0, 0)) ∧ t ≠ 80 ∧ t ≠ 59) :
    ∃ (A : Option Addr) (gb cap : Nat), v = .slice A l.length cap ∧ (0 < l.length → A = some ⟨gb, 0, none⟩) ∧ IdsAt W gb l ∧ ∃ c t, W.heap[gb]? = some (.cells c t (0, 0)) ∧ t ≠ 80 ∧ t ≠ 59 := by
  rcases h.2 with ⟨rfl, h0⟩ | ⟨gb, cap, cur, rfl, _, hg, _⟩
  · have : l = [] := List.eq_nil_of_length_eq_zero h0
    subst this
    exact ⟨none, k0, 0, rfl, fun h => by simp at h, fun i e he => by simp at he, hk⟩
  · refine ⟨_, gb, cap, rfl, fun _ => rfl, fun i e he j u hu => ?_, cur, 30, hg, by decide, by decide⟩
    have := h.cells (g := gb) rfl (i * 32 + j) u (idsL_at l hl i e he j u hu)
    rwa [cell_add] at this
end Go.Proofs.Ytbhibodgbgndbaa.B
/- The law's do: Scan. Condition: at most 1000 identities. -/
namespace Go.Proofs.Ytbhibodgbgndbaa.B
open Go Go.RowKit Go.Proofs Go.Proofs.YtbhibodgbgndbaaW.PrintWords Go.Proofs.YtbhibodgbgndbaaW.PrintLast Go.Proofs.YtbhibodgbgndbaaW.PrintMore
set_option linter.unusedVariables false
set_option linter.unusedSimpArgs false
set_option maxRecDepth 100000
set_option maxHeartbeats 16000000
attribute [local go_sem ↓] execOp_ld29 execOp_ld30 execOp_ld52 execOp_st52 execOp_alc52 execOp_alc30 execOp_st30
attribute [local go_sem] run_alc52 run_alc30 run_st30 run_st52n
theorem own_cell1 {w : World} {base : Nat} {v : Value} {n : Nat} {xs : List Value} {e : TypeId} {sz : Nat} (h : w.ownsRow base e sz v n xs) : v.oneCell' = true := by
  rcases h.2 with ⟨rfl, _⟩ | ⟨g, c, cur, rfl, _⟩ <;> rfl
/-- The identities of an operation, as the walk reads them. -/
structure IdsR (w : World) (F0 : Nat → Prop) (A : Option Addr) (ids : List (List Int)) (gi off : Nat) : Prop where
  at0 : 0 < ids.length → A = some ⟨gi, off, none⟩
  rows : ∀ (i : Nat) (x : List Int), ids[i]? = some x → w.rangeAt gi (off + i * 32) (x.map (Value.int .u8))
  no : ¬ F0 gi
theorem IdsR.upd {w W : World} {F0 : Nat → Prop} {A : Option Addr} {ids : List (List Int)} {gi off : Nat} (h : IdsR w F0 A ids gi off) (hu : Upd F0 w W) : ∀ (i : Nat) (x : List Int), ids[i]? = some x → W.rangeAt gi (off + i * 32) (x.map (Value.int .u8)) := fun i x hx j u hu' => by
  have h1 := h.rows i x hx j u hu'
  rw [World.cell?_of_block (w := w) (hu.block gi (World.block_lt_of_cell? _ _ h1) h.no)]; exact h1
theorem IdsR.own {w W : World} {F0 : Nat → Prop} {A : Option Addr} {ids : List (List Int)} {gi off : Nat} (h : IdsR w F0 A ids gi off) (hu : Upd F0 w W) : ∀ (i : Nat) (x : List Int), ids[i]? = some x → ∃ a, A = some a ∧ ∀ j u, (x.map (Value.int .u8))[j]? = some u → W.cell? (a.add (i * 32 + j)) = some u := fun i x hx => by
  refine ⟨⟨gi, off, none⟩, h.at0 (by have := (List.getElem?_eq_some_iff.1 hx).1; omega), fun j u hu' => ?_⟩
  have h1 := h.upd hu i x hx j u hu'
  have e : (⟨gi, off, none⟩ : Addr).add (i * 32 + j) = ⟨gi, off + i * 32 + j, none⟩ := by
    unfold Addr.add
    split
    · rename_i h0
      have : i * 32 = 0 ∧ j = 0 := by omega
      simp [this.1, this.2]
    · simp [Nat.add_assoc]
  rw [e]; exact h1
theorem do_scan {w : World} {F0 : Nat → Prop} {g gm : Nat} {s : St} {l : List RE} {v : Value} (h : BL w F0 g gm s) (hr : RV w s l v) (o : OpV) (A : Option Addr) (C : Nat) (hx : Idok o.id) (hk : o.kind = 6) (hid : ∀ x ∈ o.ids, Idok x) (hlen : o.ids.length ≤ 1000) (gi off : Nat) (hI : IdsR w F0 A o.ids gi off) :
    Calls Try.prog 32 #[.pointer (some ⟨g, 0, none⟩), RBs s v, .agg (opCs o A C).toArray] w (DoPost w F0 g gm (scanS s o.ids o.now).1) := by
  obtain ⟨A1, c1, rfl⟩ := own_slice98 hr
  unfold RBs
  obtain ⟨B1, hB1⟩ : ∃ B1, B1 = rbV s.cap s.wait s.missed (.slice A1 l.length c1) := ⟨_, rfl⟩
  have hB4 : B1.size = 4 ∧ B1.all (·.oneCell') = true := by rw [hB1]; exact ⟨rfl, rbV_one _ _ _ _ _ _⟩
  obtain ⟨D1, L1⟩ := dv_start w o A C B1 hB4.1 hB4.2 hx.1
  have hu52 := Try.underlying52
  have hu33 := Try.underlying33
  have HXL : Aside0 (o.id.length = 32) := ⟨hx.1⟩
  obtain ⟨F1, P1⟩ := Dp.start h
  have H1 := Aside0.mk (And.intro D1 (And.intro (P1.read L1) (hr.below L1)))
  have HZ := Aside0.mk (And.intro h.lt (And.intro hB1 hB4))
  have HI := Aside0.mk (And.intro hI (And.intro hid hlen))
  have HZ2 : Aside0 (o.ids.length ≤ 1000000) := ⟨by omega⟩
  have RO := Aside0.mk (fun (W : World) (hW : RV W s l (.slice A1 l.length c1)) (hu : Upd F0 w W) => show Calls Try.prog 53 #[.agg B1, .slice A o.ids.length C, .int .i64 o.now] W fun e w' => ∃ A' c' l', e = .returned (.tuple #[.agg (rbV (scanS s o.ids o.now).1.cap (scanS s o.ids o.now).1.wait (scanS s o.ids o.now).1.missed (.slice A' (l' : List RE).length c')), .int .i64 (scanS s o.ids o.now).2.1, .bool (scanS s o.ids o.now).2.2]) ∧ RV w' (scanS s o.ids o.now).1 l' (.slice A' l'.length c') ∧ Below W.heap.size W w' from by
    have := rv_scan hW h.wf o.ids hid hlen A C gi off hI.at0 (hI.upd hu) o.now
    unfold RBs at this
    rw [← hB1] at this
    refine this.mono ?_
    rintro e w' ⟨v', l', rfl, hR, hb⟩
    obtain ⟨A', c', rfl⟩ := own_slice98 hR
    exact ⟨A', c', l', rfl, hR, hb⟩)
  have OW := Aside0.mk (fun (W : World) (hu : Upd F0 w W) => own_is A C o.ids (by simp only [maxLen]; omega) hid W (hI.own hu) (by omega))
  have k33 : (((w.alloc (.cells B1 52)).alloc (.cells (opCs o A C).toArray 33)).alloc (.cells zeroB 52)).heap[w.heap.size + 1]? = some (.cells (opCs o A C).toArray 33 (0, 0)) := by
    rw [Below.heap_alloc _ _ _ (by simp)]
    have := heap_alloc_last (w.alloc (.cells B1 52)) (.cells (opCs o A C).toArray 33)
    rw [show (w.alloc (.cells B1 52)).heap.size = w.heap.size + 1 by simp] at this
    exact this
  obtain ⟨hc33, _⟩ := op_cells hx.1 k33
  have l1 := run_ld29 _ _ _ o.id hx.1 hc33
  obtain ⟨_, hk0, _⟩ := op_cells hx.1 D1.b5
  rw [hk] at hk0
  rw [← hB1]
  clear hx h hr D1 L1 P1 k33 hc33 hB1 hB4 hk hid hlen hI
  go_enter Try.func32, Try.ntmps32
  go_wp2
  clear l1 hk0
  generalize (((w.alloc (.cells B1 52)).alloc (.cells (opCs o A C).toArray 33)).alloc (.cells zeroB 52)).alloc (.cells (idC o.id) 30) = W1 at H1 ⊢
  have H1D := Aside0.mk (And.intro (H1.out.1.read (below_drew1 (Below.refl _ _))) (And.intro (H1.out.2.1.read (below_drew1 (Below.refl _ _))) (H1.out.2.2.below (below_drew1 (Below.refl _ _)))))
  obtain ⟨_, _, s2, _, s1⟩ := op_cells HXL.out H1D.out.1.b5
  go_region_held3 (fun w' => w'.cell? ⟨w.heap.size + 1, 35, none⟩ = some (.slice A o.ids.length C) ∧ w'.cell? ⟨w.heap.size + 1, 33, none⟩ = some (.int .i64 o.now))
    (first | exact ⟨s1, s2⟩ | exact ⟨t1, t2⟩ | exact ⟨r1, r2⟩ | exact ⟨q1, q2⟩ | fail)
    (first
      | (go_at_call 36; refine (OW.out _ H1D.out.2.1.upd).mono ?_; rintro e_ w2 ⟨v2, rfl, ho2, hb2⟩; have H2 := Aside0.mk (And.intro (H1D.out.1.read hb2) (And.intro (H1D.out.2.1.read hb2) (And.intro (H1D.out.2.2.below hb2) ho2))); obtain ⟨_, _, t2, _, t1⟩ := op_cells HXL.out H2.out.1.b5; have hv2 := own_cell1 ho2; clear hb2 ho2)
      | (go_at_call 24; refine (values_box v2 hv2 _).mono ?_; rintro e_ w3 ⟨rfl, hw3⟩; have hb3 : Below w2.heap.size w2 w3 := hw3 ▸ below_alloc (Below.refl _ _) _; have hv3 : Boxed w3 w2.heap.size 40 v2 := hw3 ▸ Boxed.new w2 40 v2; have H3 := Aside0.mk (And.intro (H2.out.1.read hb3) (And.intro (H2.out.2.1.read hb3) (And.intro (H2.out.2.2.1.below hb3) (ids_blk (fun x hx => (HI.out.2.1 x hx).1) (own_below H2.out.2.2.2 hb3) ⟨_, 40, hv3, by decide, by decide⟩)))); have HV3 := Aside0.mk hv3; obtain ⟨_, _, r2, _, r1⟩ := op_cells HXL.out H3.out.1.b5; clear hb3 hw3 hv3)
      | (go_at_call 23; obtain ⟨A5, gb5, c5, rfl, hA5, hE5, cc5, tt5, hb5, ht5, hu5⟩ := H3.out.2.2.2; refine (scan_is H3.out.2.1.bl o.ids HI.out.2.1 HZ2.out w2.heap.size gb5 A5 c5 o.now HV3.out.cell hA5 hE5 (Array.getElem?_eq_some_iff.1 hb5).1 (H3.out.2.1.typ.no hb5 ht5 hu5)).mono ?_; rintro e_ w4 ⟨rfl, ha4⟩; obtain ⟨F4, P4⟩ := H3.out.2.1.call ha4; have H4 := Aside0.mk (And.intro (H3.out.1.call H3.out.2.1 ha4) (And.intro P4 (H3.out.2.2.1.keep H3.out.2.1 ha4))); have q0 := H4.out.1.b4.ld; obtain ⟨_, _, q2, _, q1⟩ := op_cells HXL.out H4.out.1.b5; clear ha4 P4 hA5 hE5 hb5))
  go_wp2_with (first
    | (go_at_call 53; refine (RO.out _ H4.out.2.2 H4.out.2.1.upd).mono ?_; rintro e_ w5 ⟨A3, c3, l3', rfl, R3, hb3⟩; have L4 := hb3.trans (below_alloc (Below.refl w5.heap.size w5) (.cells (rbV (scanS s o.ids o.now).1.cap (scanS s o.ids o.now).1.wait (scanS s o.ids o.now).1.missed (.slice A3 l3'.length c3)) 52) |>.mono hb3.size); have D4 := H4.out.1.read L4; have P4 := H4.out.2.1.read L4; have N4 := BVar.new w5 (c := rbV (scanS s o.ids o.now).1.cap (scanS s o.ids o.now).1.wait (scanS s o.ids o.now).1.missed (.slice A3 l3'.length c3)) rfl (rbV_one _ _ _ _ _ _); have R4 := R3.below (below_alloc (Below.refl w5.heap.size w5) (.cells (rbV (scanS s o.ids o.now).1.cap (scanS s o.ids o.now).1.wait (scanS s o.ids o.now).1.missed (.slice A3 l3'.length c3)) 52)); have l5 := N4.ld; have s5 := D4.b6.st (d := rbV (scanS s o.ids o.now).1.cap (scanS s o.ids o.now).1.wait (scanS s o.ids o.now).1.missed (.slice A3 l3'.length c3)) rfl (rbV_one _ _ _ _ _ _); have H5 := Aside0.mk (And.intro D4 (And.intro P4 R4)); clear R3 D4 P4 R4 N4 L4 hb3))
  refine bodyPost_ret (results_B1 rfl _ _ _ _ rfl (H5.out.1.b6.set rfl (rbV_one _ _ _ _ _ _))) rfl ⟨_, _, ?_, (H5.out.2.1.setRow HZ.out.1 H5.out.1.b6 (by omega)).after, H5.out.2.2.setRow H5.out.1.b6⟩
  simp [RBs]
end Go.Proofs.Ytbhibodgbgndbaa.B
/- The law's do, told plainly; the operations as the walk reads them. No condition. -/
namespace Go.Proofs.Ytbhibodgbgndbaa.B
open Go Go.RowKit Go.Proofs
set_option linter.unusedVariables false
set_option linter.unusedSimpArgs false

/-- do, plainly. -/
def doS (s : St) (o : OpV) : St :=
  if o.kind = 0 then (offS s o.id).1 else if o.kind = 1 then (ansS s o.id).1 else if o.kind = 2 then (latS s o.id o.now).1 else if o.kind = 3 then (addS s o.id o.now).1
  else if o.kind = 4 then (remS s o.id).1 else if o.kind = 5 then dropS s else if o.kind = 6 then (scanS s o.ids o.now).1 else s
theorem do_is {w : World} {F0 : Nat → Prop} {g gm : Nat} {s : St} {l : List RE} {v : Value} (h : BL w F0 g gm s) (hr : RV w s l v) (o : OpV) (A : Option Addr) (C : Nat) (hx : Idok o.id) (hid : ∀ x ∈ o.ids, Idok x) (hlen : o.ids.length ≤ 1000) (gi off : Nat) (hI : IdsR w F0 A o.ids gi off)
    (htr : ∀ e ∈ s.es, 0 ≤ e.2.2 ∧ e.2.2 ≤ 1000) :
    Calls Try.prog 32 #[.pointer (some ⟨g, 0, none⟩), RBs s v, .agg (opCs o A C).toArray] w (DoPost w F0 g gm (doS s o)) := by
  unfold doS
  split
  · exact do_off h hr o A C hx (by assumption)
  split
  · exact do_ans h hr o A C hx (by assumption)
  split
  · exact do_lat h hr o A C hx (by assumption) htr
  split
  · exact do_add h hr o A C hx (by assumption)
  split
  · exact do_rem h hr o A C hx (by assumption)
  split
  · exact do_drop h hr o A C hx (by assumption)
  split
  · exact do_scan h hr o A C hx (by assumption) hid hlen gi off hI
  by_cases h7 : o.kind = 7
  · exact do_next h hr o A C hx h7
  · exact do_none h hr o A C hx (by omega)
/-- What the operations keep: n of them at most have been done. -/
structure Gd (s : St) (n : Nat) : Prop where
  tries : ∀ e ∈ s.es, 0 ≤ e.2.2 ∧ e.2.2 ≤ (n : Int)
  due : ∀ e ∈ s.es, minB e.2.1 = true
  id : ∀ e ∈ s.es, e.1 ≠ zeroId
theorem Gd.mono {s : St} {n : Nat} (h : Gd s n) : Gd s (n + 1) := ⟨fun e he => ⟨(h.tries e he).1, by have := (h.tries e he).2; omega⟩, h.due, h.id⟩
theorem Gd.es {s s' : St} {n : Nat} (h : Gd s n) (hs : ∀ e ∈ s'.es, e ∈ s.es) : Gd s' n := ⟨fun e he => h.tries e (hs e he), fun e he => h.due e (hs e he), fun e he => h.id e (hs e he)⟩
theorem Gd.add {s s' : St} {n : Nat} (h : Gd s n) {x : List Int} {d t : Int} (hs : ∀ e ∈ s'.es, e ∈ s.es ∨ e = (x, d, t)) (hx : x ≠ zeroId) (hd : minB d = true) (ht : 0 ≤ t ∧ t ≤ (n : Int)) : Gd s' n :=
  ⟨fun e he => by rcases hs e he with h1 | rfl; exact h.tries e h1; exact ht, fun e he => by rcases hs e he with h1 | rfl; exact h.due e h1; exact hd, fun e he => by rcases hs e he with h1 | rfl; exact h.id e h1; exact hx⟩
theorem gd_scan (cap now : Int) (hm : minB now = true) (n : Nat) : ∀ (xs : List (List Int)) (es : List Ent) (k : Int), (∀ e ∈ es, (0 ≤ e.2.2 ∧ e.2.2 ≤ (n : Int)) ∧ minB e.2.1 = true ∧ e.1 ≠ zeroId) → ∀ e ∈ (scanG cap now xs es k).1, (0 ≤ e.2.2 ∧ e.2.2 ≤ (n : Int)) ∧ minB e.2.1 = true ∧ e.1 ≠ zeroId
  | [], es, k, h => h
  | x :: xs, es, k, h => by
    rw [scanG]
    split
    · exact gd_scan cap now hm n xs es k h
    split
    · exact h
    · rename_i hz _
      refine gd_scan cap now hm n xs _ _ (fun e he => ?_)
      rcases List.mem_append.1 he with he | he
      · exact h e he
      · simp at he; subst he
        exact ⟨⟨by simp, by simp⟩, hm, fun h0 => hz (.inl h0)⟩
theorem Gd.do {s : St} {n : Nat} (h : Gd s n) (hn9 : n ≤ 1000) (o : OpV) : Gd (doS s o) (n + 1) := by
  unfold doS
  split
  · unfold offS; split
    · exact (h.es (s' := { s with out := putO o.id s.out }) (fun e he => he)).mono
    · exact h.mono
  split
  · unfold ansS; split
    · exact (h.es (s' := cutE s _ _) (fun e he => List.mem_of_mem_eraseIdx he)).mono
    · exact h.mono
  split
  · unfold latS
    split
    · exact h.mono
    · rename_i hn
      split
      · rename_i hf
        obtain ⟨i, e, h1, h2, h3, h4⟩ := find_at hf
        rw [h4]
        have h5 : s.es.getD i ([], 0, 0) = e := by simp [List.getD_eq_getElem?_getD, h2]
        rw [h5]
        have he := List.mem_of_getElem? h2
        have ht := h.tries e he
        simp only [not_or, Bool.not_eq_false] at hn
        have hw : wrap64 (e.2.2 + 1) = e.2.2 + 1 := by unfold wrap64; omega
        rw [hw]
        exact h.mono.add (x := o.id) (d := o.now + s.wait) (t := e.2.2 + 1) (fun q hq => by
          rcases List.mem_append.1 hq with hq | hq
          · exact .inl (List.mem_of_mem_eraseIdx hq)
          · exact .inr (by simpa using hq)) (by rw [← h3]; exact h.id e he) hn.2 ⟨by omega, by omega⟩
      · exact h.mono
  split
  · unfold addS
    split
    · exact h.mono
    split
    · exact h.mono
    split
    · exact h.mono
    split
    · exact (h.es (s' := { s with missed := true }) (fun e he => he)).mono
    · rename_i hz hd _ _
      exact (h.add (s' := { s with es := s.es ++ [(o.id, o.now, 0)] }) (x := o.id) (d := o.now) (t := 0) (fun q hq => by
        rcases List.mem_append.1 hq with hq | hq
        · exact .inl hq
        · exact .inr (by simpa using hq)) hz (by simpa using hd) ⟨by omega, by omega⟩).mono
  split
  · unfold remS; split
    · exact (h.es (s' := cutE s _ _) (fun e he => List.mem_of_mem_eraseIdx he)).mono
    · exact h.mono
  split
  · exact (h.es (s' := dropS s) (fun e he => he)).mono
  split
  · unfold scanS
    split
    · exact h.mono
    · rename_i hm
      have := gd_scan s.cap o.now (by simpa using hm) n o.ids s.es 0 (fun e he => ⟨h.tries e he, h.due e he, h.id e he⟩)
      exact (⟨fun e he => (this e he).1, fun e he => (this e he).2.1, fun e he => (this e he).2.2⟩ : Gd _ n).mono
  · exact h.mono
theorem do_cap (s : St) (o : OpV) : (doS s o).cap = s.cap ∧ (doS s o).wait = s.wait := by
  unfold doS offS ansS latS addS remS dropS scanS cutE
  repeat' (first | exact ⟨rfl, rfl⟩ | split)
/-- The operations as the walk reads them. -/
theorem ops_at {W : World} {A : Option Addr} {l : List OpV} (h : OpsAt W A l) : ∃ gb off, (0 < l.length → A = some ⟨gb, off, none⟩) ∧ ∀ i o, l[i]? = some o → OpAt W ⟨gb, off + i * 36, none⟩ o := by
  by_cases hl : 0 < l.length
  · obtain ⟨a, rfl, h0⟩ := h 0 _ (List.getElem?_eq_getElem hl)
    have hk := h0.kind
    have e0 : a.add (0 * 36) = a := by simp [Addr.add]
    rw [e0] at hk
    obtain ⟨gb, off, sp⟩ := a
    have hsp : sp = none := by
      unfold World.cell? at hk
      split at hk
      · split at hk
        · cases hk
        · rename_i h1; simpa using h1
      · cases hk
    subst hsp
    refine ⟨gb, off, fun _ => rfl, fun i o hi => ?_⟩
    obtain ⟨a, e, ho⟩ := h i o hi
    cases e
    have e1 : (⟨gb, off, none⟩ : Addr).add (i * 36) = ⟨gb, off + i * 36, none⟩ := by unfold Addr.add; split <;> simp_all
    rw [e1] at ho
    exact ho
  · exact ⟨0, 0, fun h => absurd h hl, fun i o hi => by have := (List.getElem?_eq_some_iff.1 hi).1; omega⟩
theorem op_row {W : World} {gb p : Nat} {o : OpV} (h : OpAt W ⟨gb, p, none⟩ o) : ∃ (A : Option Addr) (C gi off : Nat), W.rangeAt gb p (opCs o A C) ∧ (0 < o.ids.length → A = some ⟨gi, off, none⟩) ∧ (∀ (i : Nat) (x : List Int), o.ids[i]? = some x → W.rangeAt gi (off + i * 32) (x.map (Value.int .u8))) ∧ (0 < o.ids.length → gi < W.heap.size) := by
  obtain ⟨A, C, h1, h2, h3, h4⟩ := h.ids
  have hx := h.idok.1
  have hr : W.rangeAt gb p (opCs o A C) := fun j u hu => by
    have hj := (List.getElem?_eq_some_iff.1 hu).1
    rw [opCs_len o A C hx] at hj
    by_cases h0 : j = 0
    · subst h0
      have : u = .int .i64 o.kind := by simpa [opCs] using hu.symm
      subst this; exact h.kind
    · obtain ⟨j, rfl⟩ : ∃ i, j = 1 + i := ⟨j - 1, by omega⟩
      by_cases hj2 : j < 32
      · have h5 := h.id j u (by
          rw [opCs, Nat.add_comm, List.getElem?_cons_succ, List.getElem?_append_left (by simpa [hx] using hj2)] at hu
          exact hu)
        rw [show p + (1 + j) = p + 1 + j by omega]; exact h5
      · obtain ⟨_, k1, k2, k3⟩ := opCs_at o A C hx
        have : j = 32 ∨ j = 33 ∨ j = 34 := by omega
        rcases this with rfl | rfl | rfl
        · rw [k1] at hu; cases hu; exact h.now
        · rw [k2] at hu; cases hu; exact h.most
        · rw [k3] at hu; cases hu; exact h1
  by_cases hl : 0 < o.ids.length
  · obtain ⟨a, rfl, h0⟩ := h4 0 _ (List.getElem?_eq_getElem hl)
    have hx0 := h.idsok _ (List.getElem_mem hl)
    have hk := h0 0 (.int .u8 (o.ids[0][0]'(by rw [hx0.1]; omega))) (by rw [List.getElem?_map, List.getElem?_eq_getElem (by rw [hx0.1]; omega)]; rfl)
    have e0 : a.add (0 * 32 + 0) = a := by simp [Addr.add]
    rw [e0] at hk
    have hblt := World.block_lt_of_cell? _ _ hk
    obtain ⟨gi, off, sp⟩ := a
    have hsp : sp = none := by
      unfold World.cell? at hk
      split at hk
      · split at hk
        · cases hk
        · rename_i h1; simpa using h1
      · cases hk
    subst hsp
    refine ⟨_, C, gi, off, hr, fun _ => rfl, fun i x hi j u hu => ?_, fun _ => hblt⟩
    obtain ⟨a, e, k⟩ := h4 i x hi
    cases e
    have := k j u hu
    have e1 : (⟨gi, off, none⟩ : Addr).add (i * 32 + j) = ⟨gi, off + i * 32 + j, none⟩ := by
      unfold Addr.add
      split
      · rename_i h0
        have : i * 32 = 0 ∧ j = 0 := by omega
        simp [this.1, this.2]
      · simp [Nat.add_assoc]
    rw [e1] at this; exact this
  · exact ⟨A, C, 0, 0, hr, fun h => absurd h hl, fun i x hi => by have := (List.getElem?_eq_some_iff.1 hi).1; omega, fun h => absurd h hl⟩
end Go.Proofs.Ytbhibodgbgndbaa.B
