/- Texts of this seat, joined: Th Oa Ti Tj. No condition but those that each part names. -/
import Derived.Test.YtbhibodgbgndbaaMg9
/- The law's run. Condition: at most 40 operations of at most 1000 identities. -/
namespace Go.Proofs.Ytbhibodgbgndbaa.B
open Go Go.RowKit Go.Proofs Go.Proofs.YtbhibodgbgndbaaW.PrintWords Go.Proofs.YtbhibodgbgndbaaW.PrintLast Go.Proofs.YtbhibodgbgndbaaW.PrintMore
set_option linter.unusedVariables false
set_option linter.unusedSimpArgs false
set_option maxRecDepth 100000
set_option maxHeartbeats 16000000
attribute [local go_sem ↓] execOp_ld52 execOp_st52 execOp_alc52
attribute [local go_sem] run_alc52 run_st52n

theorem info33 : (Try.prog.info? 33).map (·.size) = some 36 := by kernel_rfl
theorem results_1B1 {fn : Func} {p : Tmp} {t u : Tmp} (h : fn.results = #[.tmp t, .cell p 52, .tmp u]) (tmps : Array Value) (w : World) (M : Nat) (c : Array Value)
    (hp : tmps.getD p undef = .pointer (some ⟨M, 0, none⟩)) (hr : BVar w M c) : (results fn tmps).run Try.prog w = .ok (.tuple #[tmps.getD t undef, .agg c, tmps.getD u undef]) w := by
  have hp' : tmps[p]?.getD undef = .pointer (some ⟨M, 0, none⟩) := by simpa using hp
  simp [results, h, hp', asAddr, hr.load]
def ld33 (p : Value) : Sem Value := Instr.loadAt 33 p
theorem execOp_ld33 (ρ : Operand → Value) (dst : Option Tmp) (p : Operand) (ty : TypeId) (pos : String) (after : Array Edge) (guard : Option (Nat × Bool)) :
    execOp ρ { dst, op := .load 33 p, type := ty, pos, after, guard } = (do pure (.value (← ld33 (ρ p)))) := by simp [execOp, ld33]
theorem run_ld33 (W : World) (b p : Nat) (o : OpV) (A : Option Addr) (C : Nat) (hx : o.id.length = 32) (h : W.rangeAt b p (opCs o A C)) : (ld33 (.pointer (some ⟨b, p, none⟩))).run Try.prog W = .ok (.agg (opCs o A C).toArray) W :=
  run_loadAt_mid W b p 33 _ _ h Try.underlying33 rfl (by rw [opCs_len o A C hx]; exact info33)
attribute [local go_sem ↓] execOp_ld33
/-- A call of a Go function at a step of a region that draws. -/
theorem step_call {P : Program} {w : World} {ops : Array Oper} {o : Oper} {a : Act} {K : Act → World → Prop} {Q : Exit → Act → World → Prop} {E : Prop} {f : FuncId} {vals : Array Value} {R : Ending → World → Prop} (hgd : o.guard = none)
    (hrun : (execOp a.eval o).run P w = .ok (.enter f vals) w) (hc : Calls P f vals w R) (h : ∀ e w', R e w' → ∃ v, e = .returned v ∧ K (a.put o.dst v) w') :
    if Region.wanted o (yielded ops a.tmps) = true then Oper.wp P o a w K Q else E := by
  have hw : Region.wanted o (yielded ops a.tmps) = true := by simp [Region.wanted, hgd]
  rw [if_pos hw]
  unfold Oper.wp
  rw [hrun]
  refine hc.mono fun e w' hR => ?_
  obtain ⟨v, rfl, hk⟩ := h e w' hR
  exact hk
/-- What run's loop keeps. -/
structure Rn (w W : World) (g gm : Nat) (F : Nat → Prop) (s : St) (l : List RE) (A : Option Addr) (c : Nat) : Prop where
  b7 : BVar W w.heap.size (rbV s.cap s.wait s.missed (.slice A l.length c))
  bl : BL W F g gm s
  typ : Typ W F
  on : On w.heap.size w W F
  rv : RV W s l (.slice A l.length c)
theorem Typ.setRow {W : World} {F : Nat → Prop} (h : Typ W F) {M : Nat} {c d : Array Value} (hM : BVar W M c) : Typ (W.setRow M d) F := fun k hk => by
  rw [setRow_other _ _ _ _ (fun e => h.no (e ▸ hM.1) (by decide) (by decide) hk)]; exact h k hk
theorem BL.setRow {W : World} {F : Nat → Prop} {g gm : Nat} {s : St} (h : BL W F g gm s) (ht : Typ W F) {M : Nat} {c d : Array Value} (hM : BVar W M c) : BL (W.setRow M d) F g gm s :=
  h.kept (fun k hk => setRow_other _ _ _ _ (fun e => ht.no (e ▸ hM.1) (by decide) (by decide) hk))
theorem On.setRow {B : Nat} {w0 w : World} {F : Nat → Prop} (h : On B w0 w F) {M : Nat} {d : Array Value} (hM : B ≤ M) : On B w0 (w.setRow M d) F := ⟨setRow_below h.below hM, h.own, by simpa [World.setRow] using h.size⟩
theorem Rn.read {w W W' : World} {g gm : Nat} {F : Nat → Prop} {s : St} {l : List RE} {A : Option Addr} {c : Nat} (h : Rn w W g gm F s l A c) (hb : Below W.heap.size W W') : Rn w W' g gm F s l A c :=
  ⟨h.b7.below hb, h.bl.below hb, fun k hk => by
    obtain ⟨o, ho, hc⟩ := h.typ k hk
    exact ⟨o, (hb.block k (h.bl.lt k hk)).trans ho, hc⟩, h.on.read hb, h.rv.below hb⟩
/-- Behind do, and behind the store of what it returned. -/
theorem Rn.step {w W W' : World} {g gm : Nat} {F : Nat → Prop} {s s' : St} {l l' : List RE} {A A' : Option Addr} {c c' : Nat} (h : Rn w W g gm F s l A c) (ha : After F g gm W W' s') (hr : RV W' s' l' (.slice A' l'.length c')) :
    BVar W' w.heap.size (rbV s.cap s.wait s.missed (.slice A l.length c)) ∧ ∃ F', Rn w (W'.setRow w.heap.size (rbV s'.cap s'.wait s'.missed (.slice A' l'.length c'))) g gm F' s' l' A' c' := by
  have hd : Dp W F W F g gm s := ⟨h.bl, h.typ, fun k hk => .inl hk, .refl _ _⟩
  have hb : BVar W' w.heap.size (rbV s.cap s.wait s.missed (.slice A l.length c)) := ⟨hd.keep ha h.b7.1 (by decide) (by decide), h.b7.2⟩
  obtain ⟨F', hd'⟩ := hd.call ha
  exact ⟨hb, F', hb.set rfl (rbV_one _ _ _ _ _ _), hd'.bl.setRow hd'.typ hb, hd'.typ.setRow hb, (h.on.step hd'.sub hd'.upd).setRow (Nat.le_refl _), hr.setRow hb⟩
theorem Rn.lt {w W : World} {g gm : Nat} {F : Nat → Prop} {s : St} {l : List RE} {A : Option Addr} {c : Nat} (h : Rn w W g gm F s l A c) : w.heap.size < W.heap.size := h.b7.lt
theorem idsR_of {w W : World} {F : Nat → Prop} {A : Option Addr} {ids : List (List Int)} {gi off : Nat} (h1 : 0 < ids.length → A = some ⟨gi, off, none⟩) (h2 : ∀ (i : Nat) (x : List Int), ids[i]? = some x → w.rangeAt gi (off + i * 32) (x.map (Value.int .u8))) (h3 : 0 < ids.length → gi < w.heap.size)
    (ho : On w.heap.size w W F) (hlt : ∀ k, F k → k < W.heap.size) : ∃ gi' off', IdsR W F A ids gi' off' := by
  by_cases hl : 0 < ids.length
  · exact ⟨gi, off, h1, fun i x hx j u hu => by
      have := h2 i x hx j u hu
      exact (ho.below.cell (World.block_lt_of_cell? _ _ this)).trans this, fun hF => by have := ho.own gi hF; have := h3 hl; omega⟩
  · exact ⟨W.heap.size, 0, fun h => absurd h hl, fun i x hx => by have := (List.getElem?_eq_some_iff.1 hx).1; omega, fun hF => by have := hlt _ hF; omega⟩
/-- What run leaves. -/
def RunPost (w : World) (cap wait : Int) (n : Nat) (e : Ending) (w' : World) : Prop := ∃ g gm F s l A c, e = .returned (.tuple #[.pointer (some ⟨g, 0, none⟩), .agg (rbV cap wait s.missed (.slice A (l : List RE).length c)), .bool true]) ∧ BL w' F g gm s ∧ RV w' s l (.slice A l.length c) ∧ On w.heap.size w w' F ∧ s.cap = cap ∧ s.wait = wait ∧ Gd s n
theorem Below.toUpd {F : Nat → Prop} {a b : World} (h : Below a.heap.size a b) : Upd F a b := .of_below h
theorem run_is (cap wait : Int) (h1 : 1 ≤ cap) (h2 : cap ≤ 4096) (h3 : 0 ≤ wait) (h4 : wait ≤ 100000) (A : Option Addr) (C : Nat) (ops : List OpV) (hn : ops.length ≤ 1000) (hsm : ∀ o ∈ ops, o.ids.length ≤ 1000) (w : World) (h : OpsAt w A ops) :
    Calls Try.prog 26 #[.int .i64 cap, .int .i64 wait, .slice A ops.length C] w (RunPost w cap wait ops.length) := by
  obtain ⟨gb, off, hA, hO⟩ := ops_at h
  have HO := Aside0.mk (And.intro hO hsm)
  clear h hO hsm
  go_enter Try.func26, Try.ntmps26
  go_wp2_with (first
    | (go_at_call 12; refine (newS cap wait h1 h2 h3 h4 _).mono ?_; rintro e_ w1 ⟨g, gm, rfl, hb1, HB1, hq1, hq2⟩)
    | (go_at_call 47; refine (rnew_is cap wait h1 h2 h3 h4 _).mono ?_; rintro e_ w2 ⟨rfl, hb2⟩; have k1 := (BVar.new w rfl zeroB_one).below hb1 |>.below hb2; have st1 := k1.st (show (rbV cap wait false (.slice none 0 0)).size = 4 from rfl) (rbV_one _ _ _ _ _ _)))
  have hM := hb1.size
  rw [World.size_alloc] at hM
  have R0 : ∃ F, Rn w (w2.setRow w.heap.size (rbV cap wait false (.slice none 0 0))) g gm F ⟨cap, wait, false, [], []⟩ [] none 0 := by
    obtain ⟨F, f1, f2, f3⟩ := (HB1.below hb2).typ
    have on0 : On w.heap.size w w2 F := ⟨((below_alloc (Below.refl _ _) _).trans (hb1.mono (by simp))).trans (hb2.mono (by omega)), fun k hk => by
      rcases f1 k hk with rfl | rfl
      · have := hq1; simp at this; omega
      · have := hq2; simp at this; omega, by have := hb2.size; omega⟩
    exact ⟨F, k1.set rfl (rbV_one _ _ _ _ _ _), f2.setRow f3 k1, f3.setRow k1, on0.setRow (Nat.le_refl _), ⟨World.ownsRow_nil _ _ _ _, ⟨rfl, by simp⟩⟩⟩
  obtain ⟨F0, R0⟩ := R0
  have HR0 := Aside0.mk R0
  clear k1 st1 hb1 hb2 HB1 hq1 hq2 hM R0
  go_loopw [6, 11] (fun p6 p11 wr => ∃ (i : Nat) (F : Nat → Prop) (s : St) (l : List RE) (A' : Option Addr) (c' : Nat), p6 = .pointer (some ⟨g, 0, none⟩) ∧ p11 = .int .i64 i ∧ Aside0 (i ≤ ops.length) ∧ Aside0 (Rn w wr g gm F s l A' c' ∧ s.cap = cap ∧ s.wait = wait ∧ Gd s i)) (fun _ p11 _ => ops.length - (intOf p11).toNat)
  case atStart => exact ⟨0, F0, _, [], none, 0, rfl, rfl, ⟨Nat.zero_le _⟩, ⟨HR0.out, rfl, rfl, ⟨by simp, by simp, by simp⟩⟩⟩
  case round =>
    obtain ⟨i, F, s, l, A', c', rfl, rfl, HI, HRN⟩ := hrel
    clear HR0
    by_cases hi : i < ops.length
    · obtain ⟨o, he⟩ : ∃ o, ops[i]? = some o := ⟨_, List.getElem?_eq_getElem hi⟩
      have hA2 := hA (by omega)
      subst hA2
      have ho := HO.out.1 i o he
      obtain ⟨Ai, Ci, gi, oi, hrow, hi1, hi2, hi3⟩ := op_row ho
      obtain ⟨gi', oi', hIR⟩ := idsR_of hi1 hi2 hi3 (HRN.out.1.read (below_drew1 (Below.refl _ _))).on (HRN.out.1.read (below_drew1 (Below.refl _ _))).bl.lt
      have HD := Aside0.mk (do_is (HRN.out.1.read (below_drew1 (Below.refl _ _))).bl (HRN.out.1.read (below_drew1 (Below.refl _ _))).rv o Ai Ci ho.idok ho.idsok (HO.out.2 o (List.mem_of_getElem? he)) gi' oi' hIR (fun e he => ⟨(HRN.out.2.2.2.tries e he).1, by have := (HRN.out.2.2.2.tries e he).2; omega⟩))
      have HRD := Aside0.mk (HRN.out.1.read (below_drew1 (Below.refl wr.heap.size wr)))
      have HOX := Aside0.mk (And.intro hrow ho.idok.1)
      have s1 := HRD.out.b7.ld
      have s2 := run_ld33 wr.drew gb (off + i * 36) o Ai Ci ho.idok.1 (range_below hrow HRD.out.on.below)
      have p1 : (0 : Int) ≤ (i : Int) := by omega
      have p2 : (i : Int) < (ops.length : Int) := by omega
      have p3 := wrap_i64 ((i : Int) + 1) (by omega) (by omega)
      have hne : ∀ W : World, (binOp .neq 25 (.pointer (some ⟨g, 0, none⟩)) (.pointer none)).run Try.prog W = .ok (.bool true) W := fun W => by simp [go_sem]
      have HOI := Aside0.mk he
      clear ho hrow hi1 hi2 hi3 hIR he
      unfold RBs at HD
      go_wp2
      go_region_law (first | (refine step_call rfl (by go_simp; done) HD.out ?_; rintro e_ w4 ⟨v4, l4, rfl, ha4, R4⟩; refine ⟨_, rfl, ?_⟩; unfold RBs; obtain ⟨A4, c4, rfl⟩ := own_slice98 R4; obtain ⟨b4, F4, N4⟩ := HRD.out.step ha4 R4; have hb4 : Below w.heap.size w w4 := (HRD.out.on.after ha4).choose_spec.1.below; have t1 := b4.ld; have t2 := run_ld33 w4 gb (off + i * 36) o Ai Ci HOX.out.2 (range_below HOX.out.1 hb4); have s4 := b4.st (d := rbV (doS s o).cap (doS s o).wait (doS s o).missed (.slice A4 l4.length c4)) rfl (rbV_one _ _ _ _ _ _); have r1 := N4.b7.ld; have r2 := run_ld33 _ gb (off + i * 36) o Ai Ci HOX.out.2 (range_below HOX.out.1 N4.on.below); have H4 := Aside0.mk N4; clear ha4 R4 b4 N4 hb4))
      all_goals (
        clear t1 t2 s1 s2 s4
        go_wp2
        go_roundw
        case rel =>
          have hcw := do_cap s o
          exact ⟨i + 1, F4, _, l4, A4, c4, rfl, by go_num, ⟨by omega⟩, ⟨H4.out, hcw.1.trans HRN.out.2.1, hcw.2.trans HRN.out.2.2.1, HRN.out.2.2.2.do (by omega) o⟩⟩
        case measure => simp [intOf]; omega)
    · have hle := HI.out
      have HRD := Aside0.mk (HRN.out.1.read (below_drew1 (Below.refl wr.heap.size wr)))
      have s1 := HRD.out.b7.ld
      have s4 := HRD.out.b7.st (d := rbV s.cap s.wait s.missed (.slice A' l.length c')) rfl (rbV_one _ _ _ _ _ _)
      have hb9 : BVar (wr.drew.setRow w.heap.size (rbV s.cap s.wait s.missed (.slice A' l.length c'))) w.heap.size (rbV s.cap s.wait s.missed (.slice A' l.length c')) := HRD.out.b7.set rfl (rbV_one _ _ _ _ _ _)
      have HB9 := Aside0.mk hb9
      clear hb9
      go_wp2
      go_region_law (fail)
      all_goals (
        go_wp2
        refine bodyPost_ret (results_1B1 rfl _ _ _ _ rfl HB9.out) rfl ⟨g, gm, F, s, l, A', c', ?_, HRD.out.bl.setRow HRD.out.typ HRD.out.b7, HRD.out.rv.setRow HRD.out.b7, HRD.out.on.setRow (Nat.le_refl _), HRN.out.2.1, HRN.out.2.2.1, by
          have := HRN.out.2.2.2
          have hie : i = ops.length := by omega
          rw [hie] at this; exact this⟩
        have e1 := HRN.out.2.1
        have e2 := HRN.out.2.2.1
        subst e1 e2
        rfl)
end Go.Proofs.Ytbhibodgbgndbaa.B
/- Outstanding of a backlog, told plainly. No condition. -/
namespace Go.Proofs.Ytbhibodgbgndbaa.B
open Go Go.RowKit Go.Proofs Go.Proofs.YtbhibodgbgndbaaW.PrintWords Go.Proofs.YtbhibodgbgndbaaW.PrintLast Go.Proofs.YtbhibodgbgndbaaW.PrintMore
set_option linter.unusedVariables false
set_option linter.unusedSimpArgs false
attribute [local go_sem ↓] execOp_ld30 execOp_ld59 execOp_st59 execOp_alc59
attribute [local go_sem] run_alc59 run_st59 cell_ent32 cell_ent33 set_ent32 set_ent33 fro_ent at_ent32 at_ent33 put_ent32 put_ent33

/-- The articles that were offered and not answered, in the order of the entries. -/
def outS (s : St) : List (List Int) := (s.es.map (·.1)).filter fun x => decide (x ∈ s.out)
theorem own_base {w : World} {b b' : Nat} {e : TypeId} {sz n : Nat} {v : Value} {xs : List Value} (h : w.ownsRow b e sz v n xs) (hb : b' ≤ b) : w.ownsRow b' e sz v n xs := by
  obtain ⟨h1, h2⟩ := h
  refine ⟨h1, ?_⟩
  rcases h2 with h2 | ⟨g, cap, cur, rfl, hg, r⟩
  · exact .inl h2
  · exact .inr ⟨g, cap, cur, rfl, by omega, r⟩
set_option maxHeartbeats 8000000 in
set_option maxRecDepth 100000 in
theorem outstanding_is {w : World} {F : Nat → Prop} {g gm : Nat} {s : St} (h : BL w F g gm s) :
    Calls Try.prog 28 #[.pointer (some ⟨g, 0, none⟩)] w fun e w' => ∃ v', e = .returned v' ∧ w'.ownsRow w.heap.size 30 32 v' (outS s).length (idsL (outS s)) ∧ Below w.heap.size w w' := by
  have hu80 := Try.underlying80
  obtain ⟨i0, z0, hi0, hz0, hs0, hb0, hzc0⟩ := info30r
  have HI := Aside0.mk (And.intro hi0 (And.intro hz0 (And.intro hs0 (And.intro hb0 hzc0))))
  have HB := Aside0.mk h
  have hn := h.wf.len
  clear h hi0 hz0 hs0 hb0 hzc0
  go_enter Try.func28, Try.ntmps28
  go_wp2_with (first | (go_at_call 27; refine (all_is HB.out).mono ?_; rintro e_ w1 ⟨v1, rfl, ho1, hb1⟩; obtain ⟨A, gb, cp, rfl, hA, hE⟩ := ents_of_own HB.out.wf.l32 ho1; have HW1 := Aside0.mk (And.intro hb1 hE); clear ho1 hb1 hE))
  go_loopw [3, 9] (fun p3 p9 wr => ∃ (i : Nat) (acc : List (List Int)), p9 = .int .i64 i ∧ Aside0 (i ≤ s.es.length ∧ acc = ((s.es.take i).map (·.1)).filter (fun x => decide (x ∈ s.out))) ∧ Aside0 (Below w1.heap.size w1 wr) ∧ Aside0 (wr.ownsRow w1.heap.size 30 32 p3 acc.length (idsL acc)))
    (fun _ p9 _ => s.es.length - (intOf p9).toNat)
  case atStart => exact ⟨0, [], rfl, ⟨Nat.zero_le _, rfl⟩, ⟨Below.refl _ _⟩, ⟨World.ownsRow_nil _ _ _ _⟩⟩
  case round =>
    obtain ⟨i, acc, rfl, HD, HW, HO⟩ := hrel
    by_cases hi : i < s.es.length
    · obtain ⟨⟨x, d, t⟩, he⟩ : ∃ e, s.es[i]? = some e := ⟨_, List.getElem?_eq_getElem hi⟩
      have hA2 := hA (by omega)
      subst hA2
      have hx := HB.out.wf.ids _ (List.mem_of_getElem? he)
      have HX := Aside0.mk hx
      have HXL : Aside0 (x.length = 32) := ⟨hx.1⟩
      have hld := run_ld59 wr gb (i * 34) x d t hx.1 (range_below (HW1.out.2 i _ he) HW.out)
      have hts : ((s.es.take (i + 1)).map (·.1)).filter (fun x => decide (x ∈ s.out)) = acc ++ (if x ∈ s.out then [x] else []) := by
        rw [List.take_add_one, he, HD.out.2]
        simp [List.filter_cons]
      have HTS := Aside0.mk hts
      have hal : acc.length ≤ i := by
        rw [HD.out.2]
        refine Nat.le_trans (List.length_filter_le _ _) ?_
        simp; omega
      have HAL := Aside0.mk hal
      have HLOW := Aside0.mk (HW1.out.1.trans (HW.out.mono HW1.out.1.size))
      have HW8 := Aside0.mk (below_alloc HLOW.out (.cells (entL x d t).toArray 59))
      obtain ⟨A3, c3, hv3⟩ : ∃ A3 c3, u3 = .slice A3 acc.length c3 := by
        rcases HO.out.2 with ⟨h1, h2⟩ | ⟨g7, c7, _, h1, _⟩
        · exact ⟨none, 0, by rw [h1, h2]⟩
        · exact ⟨_, c7, h1⟩
      subst hv3
      have hlk0 : ∀ n, (look78 (.map (some gm)) (.agg (x.map (Value.int .u8)).toArray)).run Try.prog ((wr.alloc (.cells (entL x d t).toArray 59)).drewN n) = .ok (.bool (decide (x ∈ s.out))) ((wr.alloc (.cells (entL x d t).toArray 59)).drewN n) := fun n => (HB.out.below (HW8.out.trans (drewN_mk _ n |>.mono HW8.out.size))).map.look HX.out
      have hl30 : ∀ n, (ld30 (.pointer (some ⟨wr.heap.size, 0, none⟩))).run Try.prog ((wr.alloc (.cells (entL x d t).toArray 59)).drewN n) = .ok (.agg (x.map (Value.int .u8)).toArray) ((wr.alloc (.cells (entL x d t).toArray 59)).drewN n) := fun n => run_ld30 _ _ x HX.out.1 (ent_range wr x d t)
      have hl30b : (ld30 (.pointer (some ⟨wr.heap.size, 0, none⟩))).run Try.prog (wr.alloc (.cells (entL x d t).toArray 59)) = .ok (.agg (x.map (Value.int .u8)).toArray) (wr.alloc (.cells (entL x d t).toArray 59)) := run_ld30 _ _ x HX.out.1 (ent_range wr x d t)
      have hc4 : (wr.alloc (.cells (entL x d t).toArray 59)).cell? ⟨g, 4, none⟩ = some (.map (some gm)) := by
        obtain ⟨v, k1, _, _⟩ := (HB.out.below HW8.out).blk
        exact (blk_cell k1 4).trans rfl
      clear hx he hts hal
      by_cases hr : x ∈ s.out
      · rw [decide_eq_true hr] at hlk0
        have HR := Aside0.mk hr
        clear hr
        go_wp2
        go_quiet (fail)
        go_wp2_with (at_builtin; refine wpList_append_lies _ rfl (.tmp 20) (.tmp 23) 40 rfl w1.heap.size 30 i0 z0 32 32 Try.underlying40 HI.out.1 HI.out.2.1 HI.out.2.2.1 HI.out.2.2.2.1 HI.out.2.2.2.2 (by omega) _ acc.length (idsL acc) rfl ?qo ⟨wr.heap.size + 1, 0, none⟩ 1 1 (x.map (Value.int .u8)) rfl ?ql ?qn (id_one x) (by omega) ?q6 ?q3 ?qb _ rfl ?_)
        case qo => exact own_below HO.out (below_alloc (pw_below_drewN (below_alloc (Below.refl _ _) _) _) _)
        case ql => rw [List.length_map, HX.out.1]
        case qn =>
          intro j u hu
          have hbk := heap_alloc_new ((wr.alloc (.cells (entL x d t).toArray 59)).drewN nq) (.cells (x.map (Value.int .u8)).toArray 30)
          refine World.news_of_block (cs := (x.map (Value.int .u8)).toArray) (t := 30) (fr := (0, 0)) ?_ j u hu
          simpa using hbk
        case q6 => exact m63 (by have := HAL.out; omega)
        case q3 => exact m32 (by have := HAL.out; omega)
        case qb => have := HW.out.size; simp; omega
        intro g' cap1 w3 hown hgrow hat hlt3
        go_wp2
        go_roundw
        case rel =>
          refine ⟨i + 1, acc ++ [x], by go_num, ⟨by omega, ?_⟩, ⟨?_⟩, ⟨?_⟩⟩
          · rw [HTS.out, if_pos HR.out]
          · refine (below_alloc (pw_below_drewN (below_alloc HW.out _) _) _).grown hgrow (by have := HW.out.size; simp; omega) (fun k hk => (HO.out.lt k hk).1)
          · rw [List.length_append, idsL_append]; exact hown
        case measure => simp [intOf]; omega
      · rw [decide_eq_false hr] at hlk0
        have HR := Aside0.mk hr
        clear hr
        go_wp2
        go_quiet (fail)
        go_wp2
        go_roundw
        case rel =>
          refine ⟨i + 1, acc, by go_num, ⟨by omega, ?_⟩, ⟨pw_below_drewN (below_alloc HW.out _) _⟩, ⟨(HO.out.alloc _).kept (row := none) ⟨rfl, rfl, rfl, Nat.le_refl _, fun _ _ _ => rfl⟩ (by cases A3 <;> simp [Value.ownBlock])⟩⟩
          rw [HTS.out, if_neg HR.out, List.append_nil]
        case measure => simp [intOf]; omega
    · have hle := HD.out.1
      have hto : s.es.take i = s.es := List.take_of_length_le (by omega)
      have HTO := Aside0.mk hto
      clear hto
      go_wp2
      go_ret
      refine ⟨_, rfl, ?_, HW1.out.1.trans (HW.out.mono HW1.out.1.size)⟩
      have := HD.out.2
      rw [HTO.out] at this
      have h2 := HO.out
      rw [this] at h2
      exact own_base h2 HW1.out.1.size
end Go.Proofs.Ytbhibodgbgndbaa.B
/- slices.Equal of identities and of entries. Condition: at most 1000000 elements. -/
namespace Go.Proofs.Ytbhibodgbgndbaa.B
open Go Go.RowKit Go.Proofs Go.Proofs.YtbhibodgbgndbaaW.PrintWords Go.Proofs.YtbhibodgbgndbaaW.PrintLast Go.Proofs.YtbhibodgbgndbaaW.PrintMore
set_option linter.unusedVariables false
set_option linter.unusedSimpArgs false
set_option maxRecDepth 100000
set_option maxHeartbeats 16000000
attribute [local go_sem ↓] execOp_ld29 execOp_ld30 execOp_ld59

theorem eqIds_is (l m : List (List Int)) (hl : ∀ x ∈ l, x.length = 32) (hm : ∀ x ∈ m, x.length = 32) (hn : l.length ≤ 1000000) (v u : Value) (b1 b2 : Nat) (w : World) (ho : w.ownsRow b1 30 32 v l.length (idsL l)) (hp : w.ownsRow b2 30 32 u m.length (idsL m)) :
    Calls Try.prog 29 #[v, u] w fun e w' => e = .returned (.bool (decide (l = m))) ∧ Below w.heap.size w w' := by
  obtain ⟨A, ga, ca, rfl, hA, hE⟩ := ids_of_own hl ho
  obtain ⟨B, gb, cb, rfl, hB, hF⟩ := ids_of_own hm hp
  by_cases hlen : l.length = m.length
  · have HL := Aside0.mk (And.intro hl (And.intro hm (And.intro hE (And.intro hF hlen))))
    have hln : ((l.length : Int) == (m.length : Int)) = true := by simp [hlen]
    have hln2 : (l.length : Int) = (m.length : Int) := by omega
    clear hl hm ho hp hE hF hlen
    go_enter Try.func29, Try.ntmps29
    go_wp2
    go_loopw [13] (fun p5 wr => ∃ i : Nat, p5 = .int .i64 i ∧ Aside0 (i ≤ l.length ∧ (l = m ↔ l.drop i = m.drop i)) ∧ Aside0 (Below w.heap.size w wr)) (fun p5 _ => l.length - (intOf p5).toNat)
    case atStart => exact ⟨0, rfl, ⟨Nat.zero_le _, by simp⟩, ⟨Below.refl _ _⟩⟩
    case round =>
      obtain ⟨i, rfl, HI, HW⟩ := hrel
      by_cases hi : i < l.length
      · have hi2 : i < m.length := by have := HL.out.2.2.2.2; omega
        obtain ⟨x, hx⟩ : ∃ x, l[i]? = some x := ⟨_, List.getElem?_eq_getElem hi⟩
        obtain ⟨y, hy⟩ : ∃ y, m[i]? = some y := ⟨_, List.getElem?_eq_getElem hi2⟩
        have a1 := hA (by omega)
        have a2 := hB (by omega)
        subst a1
        subst a2
        have kx := HL.out.1 x (List.mem_of_getElem? hx)
        have ky := HL.out.2.1 y (List.mem_of_getElem? hy)
        have rx := range_below (HL.out.2.2.1 i x hx) HW.out
        have ry := range_below (HL.out.2.2.2.1 i y hy) HW.out
        have l1 : ∀ n, (ld30 (.pointer (some ⟨ga, i * 32, none⟩))).run Try.prog (wr.drewN n) = .ok (.agg (x.map (Value.int .u8)).toArray) (wr.drewN n) := fun n => run_loadAt_mid (wr.drewN n) ga (i * 32) 30 _ _ rx Try.underlying30 rfl (by rw [List.length_map, kx]; exact info30)
        have l2 : (ld30 (.pointer (some ⟨ga, i * 32, none⟩))).run Try.prog wr = .ok (.agg (x.map (Value.int .u8)).toArray) wr := run_loadAt_mid wr ga (i * 32) 30 _ _ rx Try.underlying30 rfl (by rw [List.length_map, kx]; exact info30)
        have l3 : ∀ n, (ld30 (.pointer (some ⟨gb, i * 32, none⟩))).run Try.prog (wr.drewN n) = .ok (.agg (y.map (Value.int .u8)).toArray) (wr.drewN n) := fun n => run_loadAt_mid (wr.drewN n) gb (i * 32) 30 _ _ ry Try.underlying30 rfl (by rw [List.length_map, ky]; exact info30)
        have l4 : (ld30 (.pointer (some ⟨gb, i * 32, none⟩))).run Try.prog wr = .ok (.agg (y.map (Value.int .u8)).toArray) wr := run_loadAt_mid wr gb (i * 32) 30 _ _ ry Try.underlying30 rfl (by rw [List.length_map, ky]; exact info30)
        have heq : ∀ W : World, (Op.equalIn 10000 30 (.agg (x.map (Value.int .u8)).toArray) (.agg (y.map (Value.int .u8)).toArray)).run Try.prog W = .ok (decide (x = y)) W := fun W => run_eqId 9998 W x y kx ky
        have p1 : (0 : Int) ≤ (i : Int) := by omega
        have p2 : (i : Int) < (l.length : Int) := by omega
        have p2' : (i : Int) < (m.length : Int) := by omega
        have p3 := wrap_i64 ((i : Int) + 1) (by omega) (by omega)
        have HDR := Aside0.mk (And.intro (drop_at' hx) (drop_at' hy))
        clear hx hy kx ky rx ry
        by_cases hq : x = y
        · rw [decide_eq_true hq] at heq
          have HQ := Aside0.mk hq
          clear hq
          go_wp2
          go_quiet (fail)
          go_wp2
          go_roundw
          case rel =>
            refine ⟨i + 1, by go_num, ⟨by omega, ?_⟩, ⟨HW.out.trans ((drewN_mk wr _).mono HW.out.size)⟩⟩
            have h1 := HI.out.2
            rw [HDR.out.1, HDR.out.2, HQ.out] at h1
            rw [h1]; simp
          case measure => simp [intOf]; omega
        · rw [decide_eq_false hq] at heq
          have HQ := Aside0.mk hq
          clear hq
          go_wp2
          go_quiet (fail)
          go_wp2
          go_ret
          have h1 := HI.out.2
          rw [HDR.out.1, HDR.out.2] at h1
          have h2 : ¬ l = m := fun h => by
            have := h1.1 h
            simp at this
            exact HQ.out this.1
          exact ⟨by rw [decide_eq_false h2]; rfl, HW.out.trans ((drewN_mk wr _).mono HW.out.size)⟩
      · have hle := HI.out.1
        go_wp2
        go_ret
        have h1 := HI.out.2
        rw [List.drop_eq_nil_of_le (by omega), List.drop_eq_nil_of_le (by have := HL.out.2.2.2.2; omega)] at h1
        exact ⟨by rw [decide_eq_true (h1.2 rfl)]; rfl, HW.out⟩
  · have hln : ((l.length : Int) == (m.length : Int)) = false := by simpa using fun h => hlen (by omega)
    have hd : decide (l = m) = false := decide_eq_false (fun h => hlen (by rw [h]))
    rw [hd]
    clear hl hm ho hp hE hF hlen
    go_enter Try.func29, Try.ntmps29
    go_wp2
    go_ret
    exact ⟨rfl, Below.refl _ _⟩
theorem eqEnts_is (l m : List Ent) (hl : ∀ x ∈ l, x.1.length = 32) (hm : ∀ x ∈ m, x.1.length = 32) (hn : l.length ≤ 1000000) (v u : Value) (b1 b2 : Nat) (w : World) (ho : w.ownsRow b1 59 34 v l.length (entsL l)) (hp : w.ownsRow b2 59 34 u m.length (entsL m)) :
    Calls Try.prog 30 #[v, u] w fun e w' => e = .returned (.bool (decide (l = m))) ∧ Below w.heap.size w w' := by
  obtain ⟨A, ga, ca, rfl, hA, hE⟩ := ents_of_own hl ho
  obtain ⟨B, gb, cb, rfl, hB, hF⟩ := ents_of_own hm hp
  by_cases hlen : l.length = m.length
  · have HL := Aside0.mk (And.intro hl (And.intro hm (And.intro hE (And.intro hF hlen))))
    have hln : ((l.length : Int) == (m.length : Int)) = true := by simp [hlen]
    have hln2 : (l.length : Int) = (m.length : Int) := by omega
    clear hl hm ho hp hE hF hlen
    go_enter Try.func30, Try.ntmps30
    go_wp2
    go_loopw [13] (fun p5 wr => ∃ i : Nat, p5 = .int .i64 i ∧ Aside0 (i ≤ l.length ∧ (l = m ↔ l.drop i = m.drop i)) ∧ Aside0 (Below w.heap.size w wr)) (fun p5 _ => l.length - (intOf p5).toNat)
    case atStart => exact ⟨0, rfl, ⟨Nat.zero_le _, by simp⟩, ⟨Below.refl _ _⟩⟩
    case round =>
      obtain ⟨i, rfl, HI, HW⟩ := hrel
      by_cases hi : i < l.length
      · have hi2 : i < m.length := by have := HL.out.2.2.2.2; omega
        obtain ⟨⟨x, d, t⟩, hx⟩ : ∃ x, l[i]? = some x := ⟨_, List.getElem?_eq_getElem hi⟩
        obtain ⟨⟨y, d', t'⟩, hy⟩ : ∃ y, m[i]? = some y := ⟨_, List.getElem?_eq_getElem hi2⟩
        have a1 := hA (by omega)
        have a2 := hB (by omega)
        subst a1
        subst a2
        have kx := HL.out.1 _ (List.mem_of_getElem? hx)
        have ky := HL.out.2.1 _ (List.mem_of_getElem? hy)
        have rx := range_below (HL.out.2.2.1 i _ hx) HW.out
        have ry := range_below (HL.out.2.2.2.1 i _ hy) HW.out
        have l1 := fun n => run_ld59 (wr.drewN n) ga (i * 34) x d t kx rx
        have l3 := fun n => run_ld59 (wr.drewN n) gb (i * 34) y d' t' ky ry
        have l2 := run_ld59 wr ga (i * 34) x d t kx rx
        have l4 := run_ld59 wr gb (i * 34) y d' t' ky ry
        have heq := fun W => run_eqEnt W x y kx ky d d' t t'
        have p1 : (0 : Int) ≤ (i : Int) := by omega
        have p2 : (i : Int) < (l.length : Int) := by omega
        have p2' : (i : Int) < (m.length : Int) := by omega
        have p3 := wrap_i64 ((i : Int) + 1) (by omega) (by omega)
        have HDR := Aside0.mk (And.intro (drop_at' hx) (drop_at' hy))
        clear hx hy kx ky rx ry
        by_cases hq : x = y ∧ d = d' ∧ t = t'
        · rw [decide_eq_true hq] at heq
          have HQ := Aside0.mk hq
          clear hq
          go_wp2
          go_quiet (fail)
          go_wp2
          go_roundw
          case rel =>
            refine ⟨i + 1, by go_num, ⟨by omega, ?_⟩, ⟨HW.out.trans ((drewN_mk wr _).mono HW.out.size)⟩⟩
            have h1 := HI.out.2
            rw [HDR.out.1, HDR.out.2, HQ.out.1, HQ.out.2.1, HQ.out.2.2] at h1
            rw [h1]; simp
          case measure => simp [intOf]; omega
        · rw [decide_eq_false hq] at heq
          have HQ := Aside0.mk hq
          clear hq
          go_wp2
          go_quiet (fail)
          go_wp2
          go_ret
          have h1 := HI.out.2
          rw [HDR.out.1, HDR.out.2] at h1
          have h2 : ¬ l = m := fun h => by
            have := h1.1 h
            simp only [List.cons.injEq, Prod.mk.injEq] at this
            exact HQ.out this.1
          exact ⟨by rw [decide_eq_false h2]; rfl, HW.out.trans ((drewN_mk wr _).mono HW.out.size)⟩
      · have hle := HI.out.1
        go_wp2
        go_ret
        have h1 := HI.out.2
        rw [List.drop_eq_nil_of_le (by omega), List.drop_eq_nil_of_le (by have := HL.out.2.2.2.2; omega)] at h1
        exact ⟨by rw [decide_eq_true (h1.2 rfl)]; rfl, HW.out⟩
  · have hln : ((l.length : Int) == (m.length : Int)) = false := by simpa using fun h => hlen (by omega)
    have hd : decide (l = m) = false := decide_eq_false (fun h => hlen (by rw [h]))
    rw [hd]
    clear hl hm ho hp hE hF hlen
    go_enter Try.func30, Try.ntmps30
    go_wp2
    go_ret
    exact ⟨rfl, Below.refl _ _⟩
end Go.Proofs.Ytbhibodgbgndbaa.B
/- The law Order. No condition. -/
namespace Go.Proofs.Ytbhibodgbgndbaa.B
open Go Go.RowKit Go.Proofs Go.Proofs.YtbhibodgbgndbaaW.PrintWords Go.Proofs.YtbhibodgbgndbaaW.PrintLast Go.Proofs.YtbhibodgbgndbaaW.PrintMore
set_option linter.unusedVariables false
set_option linter.unusedSimpArgs false
set_option maxRecDepth 100000
set_option maxHeartbeats 16000000
attribute [local go_sem ↓] execOp_ld30 execOp_ld52 execOp_st52 execOp_alc52
attribute [local go_sem] run_alc52 run_st52n

theorem small_few {l : List OpV} (h : smallB l = true) : l.length ≤ 40 ∧ ∀ o ∈ l, o.ids.length ≤ 20 := by
  unfold smallB at h
  simp only [Bool.and_eq_true, List.all_eq_true, decide_eq_true_eq] at h
  exact ⟨h.2, h.1⟩
theorem outS_mem {s : St} {e : Ent} (he : e ∈ s.es) : decide (e.1 ∈ outS s) = decide (e.1 ∈ s.out) := by
  unfold outS
  rw [decide_eq_decide]
  simp only [List.mem_filter, decide_eq_true_eq]
  exact ⟨fun h => h.2, fun h => ⟨List.mem_map.2 ⟨e, he, rfl⟩, h⟩⟩
theorem outS_ok {s : St} (h : WF s) : (∀ x ∈ outS s, x.length = 32) ∧ (outS s).length ≤ 1000000 := by
  unfold outS
  refine ⟨fun x hx => ?_, ?_⟩
  · obtain ⟨e, he, rfl⟩ := List.mem_map.1 (List.mem_filter.1 hx).1
    exact h.l32 e he
  · have := List.length_filter_le (fun x => decide (x ∈ s.out)) (s.es.map (·.1))
    rw [List.length_map] at this
    have := h.len
    omega
theorem order_law (A : Option Addr) (C : Nat) (l : List OpV) (hl : l.length ≤ maxLen) (now most : Int) (w : World) (h : OpsAt w A l) :
    Calls Try.prog 6 #[.slice A l.length C, .int .i64 now, .int .i64 most] w fun e w' => e = .returned (.bool true) ∧ Below w.heap.size w w' := by
  by_cases hsm : smallB l = true
  · have hfew := small_few hsm
    have HO := Aside0.mk (And.intro h (And.intro hl (And.intro hsm hfew)))
    have RUN := Aside0.mk (fun (W : World) (hW : Below w.heap.size w W) => run_is 10 3 (by omega) (by omega) (by omega) (by omega) A C l (by omega) (fun o ho => by have := hfew.2 o ho; omega) W (h.below hW))
    clear h hl hsm hfew
    go_enter Try.func6, Try.ntmps6
    go_wp2_with (first
      | (go_at_call 10; refine (known_is _).mono ?_; rintro e_ w0 ⟨rfl, hb0⟩)
      | (go_at_call 11; refine (small_is A C l HO.out.2.1 _ (HO.out.1.below hb0)).mono ?_; rintro e_ w1 ⟨rfl, rfl⟩; rw [HO.out.2.2.1])
      | (go_at_call 26; refine (RUN.out _ hb0).mono ?_; rintro e_ w2 ⟨g, gm, F, s, lr, Ar, cr, rfl, hbl2, hrv2, hon2, hcap, hwait, hgd⟩; have H2 := Aside0.mk (And.intro hbl2 (hb0.trans (hon2.below.mono hb0.size))); clear hrv2 hon2 hgd hbl2 hcap hwait)
      | (go_at_call 27; refine (all_is (H2.out.1.below (below_alloc (Below.refl _ _) _))).mono ?_; rintro e_ w3 ⟨v3, rfl, ho3, hb3⟩; have H3 := Aside0.mk (And.intro ((H2.out.1.below (below_alloc (Below.refl _ _) _)).below hb3) (And.intro ho3 ((below_alloc H2.out.2 _).trans (hb3.mono (below_alloc H2.out.2 _).size)))); obtain ⟨A3, c3, rfl⟩ := own_slice ho3; clear ho3 hb3)
      | (go_at_call 28; refine (outstanding_is H3.out.1).mono ?_; rintro e_ w4 ⟨v4, rfl, ho4, hb4⟩; have H4 := Aside0.mk (And.intro (H3.out.1.below hb4) (And.intro (own_below H3.out.2.1 hb4) (And.intro ho4 (H3.out.2.2.trans (hb4.mono H3.out.2.2.size))))); obtain ⟨A4, c4, rfl⟩ := own_slice ho4; clear ho4 hb4))
    clear H2 H3
    obtain ⟨A3', ga, c3', e3, hA3, hE3⟩ := ents_of_own H4.out.1.wf.l32 H4.out.2.1
    cases e3
    obtain ⟨i0, z0, hi0, hz0, hs0, hb0', hzc0⟩ := info30r
    have HI := Aside0.mk (And.intro hi0 (And.intro hz0 (And.intro hs0 (And.intro hb0' hzc0))))
    have HE := Aside0.mk hE3
    have hlen := H4.out.1.wf.len
    obtain ⟨N, hN⟩ : ∃ N, N = nextG s.out now most s.es [] := ⟨_, rfl⟩
    have hN1 := nextG_ids s.out now most s.es [] H4.out.1.wf.l32 (by simp)
    rw [← hN] at hN1
    have HN := Aside0.mk (show N = nextG s.out now most s.es [] ∧ (∀ x ∈ N, x.length = 32) ∧ N.length ≤ 1000000 from ⟨hN, hN1.1, by have h1 := hN1.2; simp only [List.length_nil] at h1; omega⟩)
    have CT := Aside0.mk (fun (x : List Int) (hx : x.length = 32) (W : World) (hW : Below w4.heap.size w4 W) => show Calls Try.prog 21 #[.slice A4 (outS s).length c4, .agg (x.map (Value.int .u8)).toArray] W fun e w' => e = .returned (.bool (decide (x ∈ outS s))) ∧ Below W.heap.size W w' from
      contains_is (outS s) (outS_ok H4.out.1.wf).1 (outS_ok H4.out.1.wf).2 x hx _ _ W (own_below H4.out.2.2.1 hW))
    clear hE3 hi0 hz0 hs0 hb0' hzc0 hN hN1
    go_loopw [10, 13] (fun p10 p13 wr => ∃ (i : Nat) (acc : List (List Int)), p13 = .int .i64 i ∧ Aside0 (i ≤ s.es.length ∧ N = nextG s.out now most (s.es.drop i) acc ∧ acc.length ≤ i) ∧ Aside0 (Below w4.heap.size w4 wr) ∧ Aside0 (wr.ownsRow w4.heap.size 30 32 p10 acc.length (idsL acc)))
      (fun _ p13 _ => s.es.length - (intOf p13).toNat)
    case atStart => exact ⟨0, [], rfl, ⟨Nat.zero_le _, HN.out.1, Nat.le_refl _⟩, ⟨Below.refl _ _⟩, ⟨World.ownsRow_nil _ _ _ _⟩⟩
    case round =>
      obtain ⟨i, acc, rfl, HD, HW, HOW⟩ := hrel
      obtain ⟨A7, c7, hv7⟩ := own_slice HOW.out
      subst hv7
      by_cases hi : i < s.es.length
      · obtain ⟨⟨x, d, t⟩, he⟩ : ∃ e, s.es[i]? = some e := ⟨_, List.getElem?_eq_getElem hi⟩
        have hA2 := hA3 (by omega)
        subst hA2
        have hx := H4.out.1.wf.ids _ (List.mem_of_getElem? he)
        have HX := Aside0.mk hx
        have HXL : Aside0 (x.length = 32) := ⟨hx.1⟩
        have hrr : wr.rangeAt ga (i * 34) (entL x d t) := range_below (HE.out i _ he) HW.out
        have hld : (ld30 (.pointer (some ⟨ga, i * 34, none⟩))).run Try.prog wr = .ok (.agg (x.map (Value.int .u8)).toArray) wr := run_loadAt_mid wr ga (i * 34) 30 _ _ (id_of_ent _ _ _ _ _ _ hrr) Try.underlying30 rfl (by rw [List.length_map, hx.1]; exact info30)
        have d32 : wr.cell? ⟨ga, i * 34 + 32, none⟩ = some (.int .i64 d) := hrr 32 _ (by rw [entL, List.getElem?_append_right (by simp [hx.1])]; simp [hx.1])
        have HR := Aside0.mk hrr
        have HEI := Aside0.mk he
        have HOM := Aside0.mk (outS_mem (s := s) (List.mem_of_getElem? he))
        have p1 : (0 : Int) ≤ (i : Int) := by omega
        have p2 : (i : Int) < (s.es.length : Int) := by omega
        have p3 := wrap_i64 ((i : Int) + 1) (by omega) (by omega)
        clear hx he hrr
        by_cases hm : most ≤ (acc.length : Int)
        · have hd1 : decide ((acc.length : Int) < most) = false := decide_eq_false (by omega)
          have HACC : Aside0 (acc = N) := ⟨by
            have h1 := HD.out.2.1
            rw [drop_at' HEI.out, nextG, if_pos hm] at h1
            exact h1.symm⟩
          have HAL := Aside0.mk (show (∀ x ∈ acc, x.length = 32) ∧ acc.length ≤ 1000000 from by rw [HACC.out]; exact HN.out.2)
          clear hm hld d32
          go_wp2_with (first
            | (go_at_call 22; refine (next_is (H4.out.1.below HW.out) now most).mono ?_; rintro e_ w6 ⟨v6, rfl, ho6, hb6⟩; rw [← HN.out.1, ← HACC.out] at ho6; have H6 := Aside0.mk (And.intro hb6 ho6); clear ho6 hb6)
            | (go_at_call 29; refine (eqIds_is acc acc HAL.out.1 HAL.out.1 HAL.out.2 v6 _ _ _ _ H6.out.2 (own_below HOW.out H6.out.1)).mono ?_; rintro e_ w7 ⟨rfl, hb7⟩; rw [decide_eq_true rfl]; have H7 := Aside0.mk (H6.out.1.trans (hb7.mono H6.out.1.size)); clear hb7)
            | (go_at_call 27; refine (all_is ((H4.out.1.below HW.out).below H7.out)).mono ?_; rintro e_ w8 ⟨v8, rfl, ho8, hb8⟩; have H8 := Aside0.mk (And.intro (H7.out.trans (hb8.mono H7.out.size)) ho8); clear ho8 hb8)
            | (go_at_call 30; refine (eqEnts_is s.es s.es H4.out.1.wf.l32 H4.out.1.wf.l32 hlen v8 _ _ _ _ H8.out.2 (own_below (own_below H4.out.2.1 HW.out) H8.out.1)).mono ?_; rintro e_ w9 ⟨rfl, hb9⟩; rw [decide_eq_true rfl]))
          go_ret
          exact ⟨rfl, ((H4.out.2.2.2.trans (HW.out.mono H4.out.2.2.2.size)).trans ((H8.out.1.mono (Nat.le_trans H4.out.2.2.2.size HW.out.size)))).trans (hb9.mono (Nat.le_trans H4.out.2.2.2.size (Nat.le_trans HW.out.size H8.out.1.size)))⟩
        · have hd1 : decide ((acc.length : Int) < most) = true := decide_eq_true (by omega)
          have HM := Aside0.mk (show ¬ most ≤ (acc.length : Int) from hm)
          by_cases hdn : d ≤ now
          · have hd2 : decide (d ≤ now) = true := decide_eq_true hdn
            have HDN := Aside0.mk hdn
            by_cases hr : x ∈ s.out
            · have HRO := Aside0.mk hr
              clear hm hdn hr
              go_wp2_with (first | (go_at_call 21; refine (CT.out x HXL.out _ HW.out).mono ?_; rintro e_ w5 ⟨rfl, hb5⟩; rw [HOM.out, decide_eq_true HRO.out]))
              go_roundw
              case rel =>
                refine ⟨i + 1, acc, by go_num, ⟨by omega, ?_, by have := HD.out.2.2; omega⟩, ⟨HW.out.trans (hb5.mono HW.out.size)⟩, ⟨own_below HOW.out hb5⟩⟩
                have h1 := HD.out.2.1
                rw [drop_at' HEI.out, nextG, if_neg (by have := HM.out; omega), if_neg (fun h => h.2 HRO.out)] at h1
                exact h1
              case measure => simp [intOf]; omega
            · have HRO := Aside0.mk hr
              clear hm hdn hr
              go_wp2_with (first
                | (go_at_call 21; refine (CT.out x HXL.out _ HW.out).mono ?_; rintro e_ w5 ⟨rfl, hb5⟩; rw [HOM.out, decide_eq_false HRO.out]; have HB5 := Aside0.mk hb5; have hld5 : (ld30 (.pointer (some ⟨ga, i * 34, none⟩))).run Try.prog w5 = .ok (.agg (x.map (Value.int .u8)).toArray) w5 := run_loadAt_mid w5 ga (i * 34) 30 _ _ (id_of_ent _ _ _ _ _ _ (range_below HR.out hb5)) Try.underlying30 rfl (by rw [List.length_map, HXL.out]; exact info30); clear hb5)
                | (at_builtin; refine wpList_append_lies _ rfl (.tmp 63) (.tmp 69) 40 rfl w4.heap.size 30 i0 z0 32 32 Try.underlying40 HI.out.1 HI.out.2.1 HI.out.2.2.1 HI.out.2.2.2.1 HI.out.2.2.2.2 (by omega) _ acc.length (idsL acc) rfl ?qo ⟨w5.heap.size, 0, none⟩ 1 1 (x.map (Value.int .u8)) rfl ?ql ?qn (id_one x) (by omega) ?q6 ?q3 ?qb _ rfl ?_))
              case qo => exact own_below (own_below HOW.out HB5.out) (below_alloc (Below.refl _ _) _)
              case ql => rw [List.length_map, HXL.out]
              case qn => exact fun j u hu => World.news_of_block (heap_alloc_new w5 (.cells (x.map (Value.int .u8)).toArray 30)) j u hu
              case q6 => exact m63 (by have := HD.out.2.2; omega)
              case q3 => exact m32 (by have := HD.out.2.2; omega)
              case qb => have := HW.out.size; have := HB5.out.size; simp; omega
              intro g' cap1 w6 hown hgrow hat hlt3
              go_wp2
              go_roundw
              case rel =>
                refine ⟨i + 1, acc ++ [x], by go_num, ⟨by omega, ?_, by have := HD.out.2.2; simp; omega⟩, ⟨?_⟩, ⟨?_⟩⟩
                · have h1 := HD.out.2.1
                  rw [drop_at' HEI.out, nextG, if_neg (by have := HM.out; omega), if_pos ⟨HDN.out, HRO.out⟩] at h1
                  exact h1
                · exact (below_alloc (HW.out.trans (HB5.out.mono HW.out.size)) _).grown hgrow (by have := HW.out.size; have := HB5.out.size; simp; omega) (fun k hk => (HOW.out.lt k hk).1)
                · rw [List.length_append, idsL_append]; exact hown
              case measure => simp [intOf]; omega
          · have hd2 : decide (d ≤ now) = false := decide_eq_false hdn
            have HDN := Aside0.mk (show ¬ d ≤ now from hdn)
            clear hm hdn
            go_wp2
            go_roundw
            case rel =>
              refine ⟨i + 1, acc, by go_num, ⟨by omega, ?_, by have := HD.out.2.2; omega⟩, HW, HOW⟩
              have h1 := HD.out.2.1
              rw [drop_at' HEI.out, nextG, if_neg (by have := HM.out; omega), if_neg (fun h => by have h0 : d ≤ now := h.1; have := HDN.out; omega)] at h1
              exact h1
            case measure => simp [intOf]; omega
      · have hle := HD.out.1
        have HACC : Aside0 (acc = N) := ⟨by
          have h1 := HD.out.2.1
          rw [List.drop_eq_nil_of_le (by omega), nextG] at h1
          exact h1.symm⟩
        have HAL := Aside0.mk (show (∀ x ∈ acc, x.length = 32) ∧ acc.length ≤ 1000000 from by rw [HACC.out]; exact HN.out.2)
        go_wp2_with (first
          | (go_at_call 22; refine (next_is (H4.out.1.below HW.out) now most).mono ?_; rintro e_ w6 ⟨v6, rfl, ho6, hb6⟩; rw [← HN.out.1, ← HACC.out] at ho6; have H6 := Aside0.mk (And.intro hb6 ho6); clear ho6 hb6)
          | (go_at_call 29; refine (eqIds_is acc acc HAL.out.1 HAL.out.1 HAL.out.2 v6 _ _ _ _ H6.out.2 (own_below HOW.out H6.out.1)).mono ?_; rintro e_ w7 ⟨rfl, hb7⟩; rw [decide_eq_true rfl]; have H7 := Aside0.mk (H6.out.1.trans (hb7.mono H6.out.1.size)); clear hb7)
          | (go_at_call 27; refine (all_is ((H4.out.1.below HW.out).below H7.out)).mono ?_; rintro e_ w8 ⟨v8, rfl, ho8, hb8⟩; have H8 := Aside0.mk (And.intro (H7.out.trans (hb8.mono H7.out.size)) ho8); clear ho8 hb8)
          | (go_at_call 30; refine (eqEnts_is s.es s.es H4.out.1.wf.l32 H4.out.1.wf.l32 hlen v8 _ _ _ _ H8.out.2 (own_below (own_below H4.out.2.1 HW.out) H8.out.1)).mono ?_; rintro e_ w9 ⟨rfl, hb9⟩; rw [decide_eq_true rfl]))
        go_ret
        exact ⟨rfl, ((H4.out.2.2.2.trans (HW.out.mono H4.out.2.2.2.size)).trans ((H8.out.1.mono (Nat.le_trans H4.out.2.2.2.size HW.out.size)))).trans (hb9.mono (Nat.le_trans H4.out.2.2.2.size (Nat.le_trans HW.out.size H8.out.1.size)))⟩
  · have HO := Aside0.mk (And.intro h (And.intro hl (show smallB l = false by simpa using hsm)))
    clear h hl hsm
    go_enter Try.func6, Try.ntmps6
    go_wp2_with (first
      | (go_at_call 10; refine (known_is _).mono ?_; rintro e_ w3 ⟨rfl, hb3⟩; have HB9 := hb0)
      | (go_at_call 10; refine (known_is _).mono ?_; rintro e_ w0 ⟨rfl, hb0⟩)
      | (go_at_call 11; refine (small_is A C l HO.out.2.1 _ (HO.out.1.below hb0)).mono ?_; rintro e_ w1 ⟨rfl, rfl⟩; rw [HO.out.2.2]))
    go_ret
    exact ⟨rfl, hb0.trans (hb3.mono hb0.size)⟩
end Go.Proofs.Ytbhibodgbgndbaa.B
