/- Next of a backlog, told plainly. No condition. -/
import Derived.Test.YtbhibodgbgndbaaS
namespace Go.Proofs.Ytbhibodgbgndbaa.B
open Go Go.RowKit Go.Proofs Go.Proofs.YtbhibodgbgndbaaW.PrintWords Go.Proofs.YtbhibodgbgndbaaW.PrintLast Go.Proofs.YtbhibodgbgndbaaW.PrintMore
set_option linter.unusedVariables false
set_option linter.unusedSimpArgs false
attribute [local go_sem ↓] execOp_ld30 execOp_ld59 execOp_st59 execOp_alc59
attribute [local go_sem] run_alc59 run_st59 cell_ent32 cell_ent33 set_ent32 set_ent33 fro_ent at_ent32 at_ent33 put_ent32 put_ent33

/-- The cells of identities. -/
def idsL (l : List (List Int)) : List Value := l.flatMap fun x => x.map (Value.int .u8)
theorem idsL_append (l : List (List Int)) (x : List Int) : idsL (l ++ [x]) = idsL l ++ x.map (Value.int .u8) := by simp [idsL]
theorem id_one (x : List Int) : ∀ u ∈ x.map (Value.int .u8), u.oneCell' = true := by
  intro u hu
  obtain ⟨z, _, rfl⟩ := List.mem_map.1 hu
  rfl
def zeros32 : List Value := List.replicate 32 (.int .u8 0)
theorem zero30 : ((Try.prog.info? 30).bind (·.zero)).map (·.cells) = some zeros32.toArray := by kernel_rfl
theorem info30r : ∃ i z, Try.prog.info? 30 = some i ∧ i.zero = some z ∧ i.size = 32 ∧ i.bytes = 32 ∧ z.cells.size = 32 := by
  have h : (Try.prog.info? 30).map (fun i => (i.size, i.bytes)) = some (32, 32) := by kernel_rfl
  obtain ⟨v, h1, h2⟩ := Option.map_eq_some_iff.1 zero30
  obtain ⟨it, h3, h4⟩ := Option.bind_eq_some_iff.1 h1
  rw [h3] at h
  simp at h
  exact ⟨it, v, h3, h4, h.1, h.2, by rw [h2]; rfl⟩
theorem run_buildIds (c : List Value) (hc : c.length = 32) (W : World) : (Instr.buildSlice 40 1 #[(0, .agg c.toArray)]).run Try.prog W = .ok (.slice (some ⟨W.heap.size, 0, none⟩) 1 1) (W.alloc (.cells c.toArray 30)) := by
  obtain ⟨v, h1, h2⟩ := Option.map_eq_some_iff.1 zero30
  obtain ⟨it, h3, h4⟩ := Option.bind_eq_some_iff.1 h1
  have hz : it.size = 32 := by have := info30; rw [h3] at this; simpa using this
  refine run_buildSlice W 40 30 1 _ _ it v Try.underlying40 h3 h4 (by rw [hz]; omega) (by rw [hz]; omega) ?_
  rw [hz]
  have e0 : ((Array.range (1 * 32)).map (v.cells[· % v.cells.size]!)) = ([] ++ zeros32 ++ []).toArray := by rw [h2]; kernel_rfl
  rw [e0]
  show Instr.fill (fun i => some (i * 32, 32)) _ [(0, .agg c.toArray)] = _
  rw [fill_step _ [] zeros32 [] 0 _ _ rfl (by simp [Value.cells, hc]; rfl)]
  simp [Instr.fill, Value.cells]
def bldI (a : Value) : Sem Value := Instr.buildSlice 40 1 #[(0, a)]
@[go_sem ↓] theorem execOp_bldI (ρ : Operand → Value) (dst : Option Tmp) (p : Operand) (ty : TypeId) (pos : String) (after : Array Edge) (guard : Option (Nat × Bool)) :
    execOp ρ { dst, op := .buildSlice 40 1 #[(0, p)], type := ty, pos, after, guard } = (do pure (.value (← bldI (ρ p)))) := by simp [execOp, bldI]
@[go_sem] theorem run_bldI (x : List Int) (W : World) (hx : Aside0 (x.length = 32)) : (bldI (.agg (x.map (Value.int .u8)).toArray)).run Try.prog W = .ok (.slice (some ⟨W.heap.size, 0, none⟩) 1 1) (W.alloc (.cells (x.map (Value.int .u8)).toArray 30)) := run_buildIds _ (by simpa using hx.out) W
theorem m32 {n : Nat} (h : n ≤ 1000000) : (n + 1) * 32 ≤ 140737488355328 := by omega

def nextG (out : List (List Int)) (now most : Int) : List Ent → List (List Int) → List (List Int)
  | [], acc => acc
  | e :: es, acc => if most ≤ (acc.length : Int) then acc else if e.2.1 ≤ now ∧ e.1 ∉ out then nextG out now most es (acc ++ [e.1]) else nextG out now most es acc
set_option maxHeartbeats 8000000 in
set_option maxRecDepth 100000 in
theorem next_is {w : World} {F : Nat → Prop} {g gm : Nat} {s : St} (h : BL w F g gm s) (now most : Int) :
    Calls Try.prog 22 #[.pointer (some ⟨g, 0, none⟩), .int .i64 now, .int .i64 most] w fun e w' => ∃ v', e = .returned v' ∧ w'.ownsRow w.heap.size 30 32 v' (nextG s.out now most s.es []).length (idsL (nextG s.out now most s.es [])) ∧ Below w.heap.size w w' := by
  have hu80 := Try.underlying80
  obtain ⟨v, k1, k2, k3⟩ := h.blk
  obtain ⟨A, gb, cp, rfl, hA, hE⟩ := ents_of_own h.wf.l32 k2
  have hc3 : w.cell? ⟨g, 3, none⟩ = some (.slice A s.es.length cp) := (blk_cell k1 3).trans rfl
  have HC4 := Aside0.mk (show w.cell? ⟨g, 4, none⟩ = some (.map (some gm)) from (blk_cell k1 4).trans rfl)
  obtain ⟨i0, z0, hi0, hz0, hs0, hb0, hzc0⟩ := info30r
  have HI := Aside0.mk (And.intro hi0 (And.intro hz0 (And.intro hs0 (And.intro hb0 hzc0))))
  have HB := Aside0.mk (And.intro h (And.intro hA hE))
  have hn := h.wf.len
  clear h k1 k2 k3 hA hE hi0 hz0 hs0 hb0 hzc0
  go_enter Try.func22, Try.ntmps22
  go_wp2
  go_loopw [7, 18] (fun p7 p18 wr => ∃ (i : Nat) (acc : List (List Int)), p18 = .int .i64 i ∧ Aside0 (i ≤ s.es.length ∧ nextG s.out now most s.es [] = nextG s.out now most (s.es.drop i) acc ∧ acc.length ≤ i) ∧ Aside0 (Below w.heap.size w wr) ∧ Aside0 (wr.ownsRow w.heap.size 30 32 p7 acc.length (idsL acc)))
    (fun _ p18 _ => s.es.length - (intOf p18).toNat)
  case atStart => exact ⟨0, [], rfl, ⟨Nat.zero_le _, rfl, Nat.le_refl _⟩, ⟨Below.refl _ _⟩, ⟨World.ownsRow_nil _ _ _ _⟩⟩
  case round =>
    obtain ⟨i, acc, rfl, HD, HW, HO⟩ := hrel
    by_cases hi : i < s.es.length
    · obtain ⟨⟨x, d, t⟩, he⟩ : ∃ e, s.es[i]? = some e := ⟨_, List.getElem?_eq_getElem hi⟩
      have hA2 := HB.out.2.1 (by omega)
      subst hA2
      have hx := HB.out.1.wf.ids _ (List.mem_of_getElem? he)
      have HX := Aside0.mk hx
      have HXL : Aside0 (x.length = 32) := ⟨hx.1⟩
      have hE := HB.out.2.2 i _ he
      have hld := run_ld59 wr gb (i * 34) x d t hx.1 (fun j u hu => by
        have := hE j u hu
        exact (HW.out.cell (World.block_lt_of_cell? _ _ this)).trans this)
      have HEI := Aside0.mk he
      obtain ⟨A7, c7, hv7⟩ : ∃ A7 c7, u7 = .slice A7 acc.length c7 := by
        rcases HO.out.2 with ⟨h1, h2⟩ | ⟨g7, c7, _, h1, _⟩
        · exact ⟨none, 0, by rw [h1, h2]⟩
        · exact ⟨_, c7, h1⟩
      subst hv7
      have HW8 := Aside0.mk (below_alloc HW.out (.cells (entL x d t).toArray 59))
      obtain ⟨W8, hW8⟩ : ∃ W8, W8 = wr.alloc (.cells (entL x d t).toArray 59) := ⟨_, rfl⟩
      have hlk0 : ∀ n, (look78 (.map (some gm)) (.agg (x.map (Value.int .u8)).toArray)).run Try.prog ((wr.alloc (.cells (entL x d t).toArray 59)).drewN n) = .ok (.bool (decide (x ∈ s.out))) ((wr.alloc (.cells (entL x d t).toArray 59)).drewN n) := fun n => (HB.out.1.below (HW8.out.trans (drewN_mk _ n |>.mono HW8.out.size))).map.look HX.out
      have hl30 : ∀ n, (ld30 (.pointer (some ⟨wr.heap.size, 0, none⟩))).run Try.prog ((wr.alloc (.cells (entL x d t).toArray 59)).drewN n) = .ok (.agg (x.map (Value.int .u8)).toArray) ((wr.alloc (.cells (entL x d t).toArray 59)).drewN n) := fun n => run_ld30 _ _ x HX.out.1 (ent_range wr x d t)
      have hl30b : (ld30 (.pointer (some ⟨wr.heap.size, 0, none⟩))).run Try.prog (wr.alloc (.cells (entL x d t).toArray 59)) = .ok (.agg (x.map (Value.int .u8)).toArray) (wr.alloc (.cells (entL x d t).toArray 59)) := run_ld30 _ _ x HX.out.1 (ent_range wr x d t)
      have hc4 : (wr.alloc (.cells (entL x d t).toArray 59)).cell? ⟨g, 4, none⟩ = some (.map (some gm)) := cell_alloc ((HW.out.cell (World.block_lt_of_cell? _ _ HC4.out)).trans HC4.out) _
      clear hx hE he hW8
      by_cases hm : most ≤ (acc.length : Int)
      · have hd1 : decide ((acc.length : Int) ≥ most) = true := decide_eq_true hm
        have HM := Aside0.mk hm
        clear hlk0 hm
        go_wp2
        go_ret
        refine ⟨_, rfl, ?_, below_alloc HW.out _⟩
        have h1 := HD.out.2.1
        rw [drop_at HEI.out, nextG, if_pos HM.out] at h1
        rw [h1]
        exact HO.out.alloc _
      · have hd1 : decide ((acc.length : Int) ≥ most) = false := decide_eq_false (by omega)
        have HM := Aside0.mk hm
        by_cases hdn : d ≤ now
        · have hd2 : decide (d ≤ now) = true := decide_eq_true hdn
          have HDN := Aside0.mk hdn
          by_cases hr : x ∈ s.out
          · rw [decide_eq_true hr] at hlk0
            have HR := Aside0.mk hr
            clear hm hdn hr
            go_wp2
            go_quiet (fail)
            go_wp2
            go_roundw
            case rel =>
              refine ⟨i + 1, acc, by go_num, ⟨by omega, ?_, by have := HD.out.2.2; omega⟩, ⟨pw_below_drewN (below_alloc HW.out _) _⟩, ⟨(HO.out.alloc _).kept (row := none) ⟨rfl, rfl, rfl, Nat.le_refl _, fun _ _ _ => rfl⟩ (by cases A7 <;> simp [Value.ownBlock])⟩⟩
              have h1 := HD.out.2.1
              rw [drop_at HEI.out, nextG, if_neg (Int.not_le.2 HM.out), if_neg (fun h => h.2 HR.out)] at h1
              exact h1
            case measure => simp [intOf]; omega
          · rw [decide_eq_false hr] at hlk0
            have HR := Aside0.mk hr
            clear hm hdn hr
            go_wp2
            go_quiet (fail)
            go_wp2_with (at_builtin; refine wpList_append_lies _ rfl (.tmp 40) (.tmp 43) 40 rfl w.heap.size 30 i0 z0 32 32 Try.underlying40 HI.out.1 HI.out.2.1 HI.out.2.2.1 HI.out.2.2.2.1 HI.out.2.2.2.2 (by omega) _ acc.length (idsL acc) rfl ?qo ⟨wr.heap.size + 1, 0, none⟩ 1 1 (x.map (Value.int .u8)) rfl ?ql ?qn (id_one x) (by omega) ?q6 ?q3 ?qb _ rfl ?_)
            case qo => exact own_below HO.out (below_alloc (pw_below_drewN (below_alloc (Below.refl _ _) _) _) _)
            case ql => rw [List.length_map, HX.out.1]
            case qn =>
              intro j u hu
              have hbk := heap_alloc_new ((wr.alloc (.cells (entL x d t).toArray 59)).drewN nq) (.cells (x.map (Value.int .u8)).toArray 30)
              refine World.news_of_block (cs := (x.map (Value.int .u8)).toArray) (t := 30) (fr := (0, 0)) ?_ j u hu
              simpa using hbk
            case q6 => exact m63 (by have := HD.out.2.2; omega)
            case q3 => exact m32 (by have := HD.out.2.2; omega)
            case qb => have := HW.out.size; simp; omega
            intro g' cap1 w3 hown hgrow hat hlt3
            go_wp2
            go_roundw
            case rel =>
              refine ⟨i + 1, acc ++ [x], by go_num, ⟨by omega, ?_, by have := HD.out.2.2; simp; omega⟩, ⟨?_⟩, ⟨?_⟩⟩
              · have h1 := HD.out.2.1
                rw [drop_at HEI.out, nextG, if_neg (Int.not_le.2 HM.out), if_pos ⟨HDN.out, HR.out⟩] at h1
                exact h1
              · exact (below_alloc (pw_below_drewN (below_alloc HW.out _) _) _).grown hgrow (by have := HW.out.size; simp; omega) (fun k hk => (HO.out.lt k hk).1)
              · rw [List.length_append, idsL_append]; exact hown
            case measure => simp [intOf]; omega
        · have hd2 : decide (d ≤ now) = false := decide_eq_false hdn
          have HDN := Aside0.mk hdn
          clear hlk0 hm hdn
          go_wp2
          go_quiet (fail)
          go_wp2
          go_roundw
          case rel =>
            refine ⟨i + 1, acc, by go_num, ⟨by omega, ?_, by have := HD.out.2.2; omega⟩, ⟨pw_below_drewN (below_alloc HW.out _) _⟩, ⟨(HO.out.alloc _).kept (row := none) ⟨rfl, rfl, rfl, Nat.le_refl _, fun _ _ _ => rfl⟩ (by cases A7 <;> simp [Value.ownBlock])⟩⟩
            have h1 := HD.out.2.1
            rw [drop_at HEI.out, nextG, if_neg (Int.not_le.2 HM.out), if_neg (fun h => by have h0 : d ≤ now := h.1; have := HDN.out; omega)] at h1
            exact h1
          case measure => simp [intOf]; omega
    · have hle := HD.out.1
      go_wp2
      go_ret
      refine ⟨_, rfl, ?_, HW.out⟩
      have h1 := HD.out.2.1
      rw [List.drop_eq_nil_of_le (by omega)] at h1
      rw [h1]
      exact HO.out
end Go.Proofs.Ytbhibodgbgndbaa.B
