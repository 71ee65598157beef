/- Texts of this seat, joined: Ri Sc Sd Rj Se. No condition but those that each part names. -/
import Derived.Test.YtbhibodgbgndbaaMg6
/- The reference's Next. Condition: at most 1000000 entries. -/
namespace Go.Proofs.Ytbhibodgbgndbaa.B
open Go Go.RowKit Go.Proofs Go.Proofs.YtbhibodgbgndbaaW.PrintWords Go.Proofs.YtbhibodgbgndbaaW.PrintLast Go.Proofs.YtbhibodgbgndbaaW.PrintMore
set_option linter.unusedVariables false
set_option linter.unusedSimpArgs false
set_option maxRecDepth 100000
set_option maxHeartbeats 16000000
attribute [local go_sem ↓] execOp_ld29

theorem zero29 : ((Try.prog.info? 29).bind (·.zero)).map (·.cells) = some zeros32.toArray := by kernel_rfl
theorem info29r : ∃ i z, Try.prog.info? 29 = some i ∧ i.zero = some z ∧ i.size = 32 ∧ i.bytes = 32 ∧ z.cells.size = 32 := by
  have h : (Try.prog.info? 29).map (fun i => (i.size, i.bytes)) = some (32, 32) := by kernel_rfl
  obtain ⟨v, h1, h2⟩ := Option.map_eq_some_iff.1 zero29
  obtain ⟨it, h3, h4⟩ := Option.bind_eq_some_iff.1 h1
  rw [h3] at h
  simp at h
  exact ⟨it, v, h3, h4, h.1, h.2, by rw [h2]; rfl⟩
theorem run_buildJ (c : List Value) (hc : c.length = 32) (W : World) : (Instr.buildSlice 31 1 #[(0, .agg c.toArray)]).run Try.prog W = .ok (.slice (some ⟨W.heap.size, 0, none⟩) 1 1) (W.alloc (.cells c.toArray 29)) := by
  obtain ⟨v, h1, h2⟩ := Option.map_eq_some_iff.1 zero29
  obtain ⟨it, h3, h4⟩ := Option.bind_eq_some_iff.1 h1
  have hz : it.size = 32 := by have := info29; rw [h3] at this; simpa using this
  refine run_buildSlice W 31 29 1 _ _ it v Try.underlying31 h3 h4 (by rw [hz]; omega) (by rw [hz]; omega) ?_
  rw [hz]
  have e0 : ((Array.range (1 * 32)).map (v.cells[· % v.cells.size]!)) = ([] ++ zeros32 ++ []).toArray := by rw [h2]; kernel_rfl
  rw [e0]
  show Instr.fill (fun i => some (i * 32, 32)) _ [(0, .agg c.toArray)] = _
  rw [fill_step _ [] zeros32 [] 0 _ _ rfl (by simp [Value.cells, hc]; rfl)]
  simp [Instr.fill, Value.cells]
def bldJ (a : Value) : Sem Value := Instr.buildSlice 31 1 #[(0, a)]
@[go_sem ↓] theorem execOp_bldJ (ρ : Operand → Value) (dst : Option Tmp) (p : Operand) (ty : TypeId) (pos : String) (after : Array Edge) (guard : Option (Nat × Bool)) :
    execOp ρ { dst, op := .buildSlice 31 1 #[(0, p)], type := ty, pos, after, guard } = (do pure (.value (← bldJ (ρ p)))) := by simp [execOp, bldJ]
@[go_sem] theorem run_bldJ (x : List Int) (W : World) (hx : Aside0 (x.length = 32)) : (bldJ (.agg (x.map (Value.int .u8)).toArray)).run Try.prog W = .ok (.slice (some ⟨W.heap.size, 0, none⟩) 1 1) (W.alloc (.cells (x.map (Value.int .u8)).toArray 29)) := run_buildJ _ (by simpa using hx.out) W

def rnextG (now most : Int) : List RE → List (List Int) → List (List Int)
  | [], acc => acc
  | r :: l, acc => if most ≤ (acc.length : Int) then acc else if r.2.2.2 = false ∧ r.2.1 ≤ now then rnextG now most l (acc ++ [r.1]) else rnextG now most l acc
theorem re_cells {w : World} {b o : Nat} {r : RE} (hr : r.1.length = 32) (h : w.rangeAt b o (reL r)) : w.cell? ⟨b, o + 32, none⟩ = some (.int .i64 r.2.1) ∧ w.cell? ⟨b, o + 33, none⟩ = some (.int .i64 r.2.2.1) ∧ w.cell? ⟨b, o + 34, none⟩ = some (.bool r.2.2.2) := by
  refine ⟨h 32 _ ?_, h 33 _ ?_, h 34 _ ?_⟩ <;> (rw [reL, List.getElem?_append_right (by simp [hr])]; simp [hr])
theorem own_baseW {w : World} {b b' : Nat} {e : TypeId} {sz n : Nat} {v : Value} {xs : List Value} (h : w.ownsRow b e sz v n xs) (hb : b' ≤ b) : w.ownsRow b' e sz v n xs := by
  obtain ⟨h1, h2⟩ := h
  refine ⟨h1, ?_⟩
  rcases h2 with h2 | ⟨g, cap, cur, rfl, hg, r⟩
  · exact .inl h2
  · exact .inr ⟨g, cap, cur, rfl, by omega, r⟩
theorem rnext_is (cap wait : Int) (inc : Bool) (v : Value) (l : List RE) (hl : ∀ r ∈ l, r.1.length = 32) (hn : l.length ≤ 1000000) (now most : Int) (w : World) (ho : w.ownsRow 0 98 35 v l.length (resL l)) :
    Calls Try.prog 55 #[.agg (rbV cap wait inc v), .int .i64 now, .int .i64 most] w fun e w' => ∃ v', e = .returned v' ∧ w'.ownsRow w.heap.size 29 32 v' (rnextG now most l []).length (idsL (rnextG now most l [])) ∧ Below w.heap.size w w' := by
  obtain ⟨A, gb, cp, rfl, hA, hE⟩ := res_of_own hl ho
  have hu52 := Try.underlying52
  have hu98 := Try.underlying98
  obtain ⟨i0, z0, hi0, hz0, hs0, hb0, hzc0⟩ := info29r
  have HI := Aside0.mk (And.intro hi0 (And.intro hz0 (And.intro hs0 (And.intro hb0 hzc0))))
  have HL := Aside0.mk (And.intro hl hE)
  obtain ⟨B1, hB1⟩ : ∃ B1, B1 = rbV cap wait inc (.slice A l.length cp) := ⟨_, rfl⟩
  have hc3 : B1[3]? = some (.slice A l.length cp) := by rw [hB1]; rfl
  rw [← hB1]
  have HC3 := Aside0.mk hc3
  clear hl hE ho hi0 hz0 hs0 hb0 hzc0 hB1 hc3
  go_enter Try.func55, Try.ntmps55
  go_wp2
  go_loopw [7, 8] (fun p7 p8 wr => ∃ (i : Nat) (acc : List (List Int)), p8 = .int .i64 i ∧ Aside0 (i ≤ l.length ∧ rnextG now most l [] = rnextG now most (l.drop i) acc ∧ acc.length ≤ i) ∧ Aside0 (Below (w.alloc (.cells B1 52)).heap.size (w.alloc (.cells B1 52)) wr) ∧ Aside0 (wr.ownsRow (w.heap.size + 1) 29 32 p7 acc.length (idsL acc)))
    (fun _ p8 _ => l.length - (intOf p8).toNat)
  case atStart => exact ⟨0, [], rfl, ⟨Nat.zero_le _, rfl, Nat.le_refl _⟩, ⟨Below.refl _ _⟩, ⟨World.ownsRow_nil _ _ _ _⟩⟩
  case round =>
    obtain ⟨i, acc, rfl, HD, HW, HO⟩ := hrel
    have hc3 : wr.cell? ⟨w.heap.size, 3, none⟩ = some (.slice A l.length cp) := by
      have h0 : (w.alloc (.cells B1 52)).cell? ⟨w.heap.size, 3, none⟩ = some (.slice A l.length cp) := by
        rw [cell_of_row _ _ _ _ 52 (0, 0) (heap_alloc_last w _)]; exact HC3.out
      exact (HW.out.cell (World.block_lt_of_cell? _ _ h0)).trans h0
    have HLOW := Aside0.mk ((below_alloc (Below.refl w.heap.size w) (.cells B1 52)).trans (HW.out.mono (by simp)))
    obtain ⟨A3, c3, hv3⟩ := own_slice HO.out
    subst hv3
    by_cases hi : i < l.length
    · obtain ⟨r, he⟩ : ∃ r, l[i]? = some r := ⟨_, List.getElem?_eq_getElem hi⟩
      have hA2 := hA (by omega)
      subst hA2
      have hx := HL.out.1 r (List.mem_of_getElem? he)
      have HXL : Aside0 (r.1.length = 32) := ⟨hx⟩
      have hrr : wr.rangeAt gb (i * 35) (reL r) := range_below (HL.out.2 i r he) HLOW.out
      obtain ⟨d32, d33, d34⟩ := re_cells hx hrr
      have hld := run_ld29 wr gb (i * 35) r.1 hx (id_of_re hrr)
      have p1 : (0 : Int) ≤ (i : Int) := by omega
      have p2 : (i : Int) < (l.length : Int) := by omega
      have p3 := wrap_i64 ((i : Int) + 1) (by omega) (by omega)
      have HEI := Aside0.mk he
      clear hx hrr he
      by_cases hm : most ≤ (acc.length : Int)
      · have hd1 : decide ((acc.length : Int) < most) = false := decide_eq_false (by omega)
        have HM := Aside0.mk hm
        clear hm
        go_wp2
        go_ret
        have h1 := HD.out.2.1
        rw [drop_at' HEI.out, rnextG, if_pos HM.out] at h1
        refine ⟨_, rfl, ?_, HLOW.out⟩
        rw [h1]
        exact own_baseW HO.out (by omega)
      · have hd1 : decide ((acc.length : Int) < most) = true := decide_eq_true (by omega)
        have HM := Aside0.mk (show ¬ most ≤ (acc.length : Int) from hm)
        by_cases hq : r.2.2.2 = false ∧ r.2.1 ≤ now
        · have hq1 := hq.1
          have hq2 : decide (r.2.1 ≤ now) = true := decide_eq_true hq.2
          rw [hq1] at d34
          have HQ := Aside0.mk hq
          clear hm hq hq1
          go_wp2_with (at_builtin; refine wpList_append_lies _ rfl (.tmp 39) (.tmp 46) 31 rfl (w.heap.size + 1) 29 i0 z0 32 32 Try.underlying31 HI.out.1 HI.out.2.1 HI.out.2.2.1 HI.out.2.2.2.1 HI.out.2.2.2.2 (by omega) _ acc.length (idsL acc) rfl ?qo ⟨wr.heap.size, 0, none⟩ 1 1 (r.1.map (Value.int .u8)) rfl ?ql ?qn (id_one _) (by omega) ?q6 ?q3 ?qb _ rfl ?_)
          case qo => exact own_below HO.out (below_alloc (Below.refl _ _) _)
          case ql => first | exact HXL.out | (rw [List.length_map]; exact HXL.out)
          case q6 => exact m63 (by have := HD.out.2.2; omega)
          case q3 => exact m32 (by have := HD.out.2.2; omega)
          case qb => have := HW.out.size; simp at this ⊢; omega
          intro g' cap1 w3 hown hgrow hat hlt3
          go_wp2
          go_roundw
          case rel =>
            refine ⟨i + 1, acc ++ [r.1], by go_num, ⟨by omega, ?_, by have := HD.out.2.2; simp; omega⟩, ⟨?_⟩, ⟨?_⟩⟩
            · have h1 := HD.out.2.1
              rw [drop_at' HEI.out, rnextG, if_neg (by have := HM.out; omega), if_pos HQ.out] at h1
              exact h1
            · exact (below_alloc HW.out _).grown hgrow (by have := HW.out.size; simp at this ⊢; omega) (fun k hk => by have := (HO.out.lt k hk).1; simp; omega)
            · rw [List.length_append, idsL_append]; exact hown
          case measure => simp [intOf]; omega
        · have HQ := Aside0.mk (show ¬ (r.2.2.2 = false ∧ r.2.1 ≤ now) from hq)
          cases hb : r.2.2.2 with
          | true =>
            rw [hb] at d34
            clear hm hq hb
            go_wp2
            go_roundw
            case rel =>
              refine ⟨i + 1, acc, by go_num, ⟨by omega, ?_, by have := HD.out.2.2; omega⟩, HW, HO⟩
              have h1 := HD.out.2.1
              rw [drop_at' HEI.out, rnextG, if_neg (by have := HM.out; omega), if_neg HQ.out] at h1
              exact h1
            case measure => simp [intOf]; omega
          | false =>
            have hq2 : decide (r.2.1 ≤ now) = false := decide_eq_false (fun h => hq ⟨hb, h⟩)
            rw [hb] at d34
            clear hm hq hb
            go_wp2
            go_roundw
            case rel =>
              refine ⟨i + 1, acc, by go_num, ⟨by omega, ?_, by have := HD.out.2.2; omega⟩, HW, HO⟩
              have h1 := HD.out.2.1
              rw [drop_at' HEI.out, rnextG, if_neg (by have := HM.out; omega), if_neg HQ.out] at h1
              exact h1
            case measure => simp [intOf]; omega
    · have hle := HD.out.1
      have hdi : decide ((i : Int) < (l.length : Int)) = false := decide_eq_false (by omega)
      go_wp2
      go_ret
      have h1 := HD.out.2.1
      rw [List.drop_eq_nil_of_le (by omega)] at h1
      refine ⟨_, rfl, ?_, HLOW.out⟩
      rw [h1]
      exact own_baseW HO.out (by omega)
end Go.Proofs.Ytbhibodgbgndbaa.B
/- The reference's Change where it refuses. Condition: at most 1000000 entries. -/
namespace Go.Proofs.Ytbhibodgbgndbaa.B
open Go Go.RowKit Go.Proofs Go.Proofs.YtbhibodgbgndbaaW.PrintWords Go.Proofs.YtbhibodgbgndbaaW.PrintLast Go.Proofs.YtbhibodgbgndbaaW.PrintMore
set_option linter.unusedVariables false
set_option linter.unusedSimpArgs false
set_option linter.unusedSectionVars false
set_option maxRecDepth 100000
set_option maxHeartbeats 16000000
attribute [local go_sem ↓] execOp_ld29 execOp_ld52 execOp_st52

section
variable (cap wait : Int) (inc : Bool) (A : Option Addr) (cp : Nat) (l : List RE) (hl : ∀ r ∈ l, r.1.length = 32) (hn : l.length ≤ 1000000) (x : List Int) (hx : x.length = 32) (kind now : Int) (w : World) (ho : w.ownsRow 0 98 35 (.slice A l.length cp) l.length (resL l))
include hl hn hx ho
theorem rchg_nf (hk : (kind == 2) = false) (hm : idxOf (l.map rE) x = -1) :
    Calls Try.prog 50 #[.agg (rbV cap wait inc (.slice A l.length cp)), .int .i64 kind, .agg (idC x), .int .i64 now] w fun e w' => e = .returned (.tuple #[.agg (rbV cap wait inc (.slice A l.length cp)), .int .i64 8]) ∧ Below w.heap.size w w' := by
  have hu52 := Try.underlying52
  have hu98 := Try.underlying98
  obtain ⟨B1, hB1⟩ : ∃ B1, B1 = rbV cap wait inc (.slice A l.length cp) := ⟨_, rfl⟩
  have one := rbV_one cap wait inc A l.length cp
  have hc3 : B1[3]? = some (.slice A l.length cp) := by rw [hB1]; rfl
  have hc1 : B1[1]? = some (.int .i64 wait) := by rw [hB1]; rfl
  rw [← hB1] at one ⊢
  obtain ⟨v1, v2, v3, v4⟩ := set3 w B1 (by rw [hB1]; rfl) one x
  have l1 := v1.ld
  have l2 := run_ld29 _ _ _ x hx v3
  have l4 := v2.st v1.2.1 v1.2.2
  have HV := Aside0.mk (And.intro v1 (And.intro v2 (And.intro v3 v4)))
  have RF := Aside0.mk (fun (W : World) (hW : Below w.heap.size w W) => show Calls Try.prog 68 #[.agg B1, .agg (idC x)] W fun e w' => e = .returned (.int .i64 (-1)) ∧ Below W.heap.size W w' from by
    have := rfind_is cap wait inc _ l hl hn x hx W (own_below ho hW)
    rw [hm, ← hB1] at this
    exact this)
  have HC := Aside0.mk (And.intro hc3 hc1)
  clear hl hx ho hB1 one v1 v2 v3 v4 hc3 hc1 hm
  unfold zeroB at l1 l2 l4
  go_enter Try.func50, Try.ntmps50
  go_wp2_with (first | (go_at_call 68; refine (RF.out _ HV.out.2.2.2).mono ?_; rintro e_ w4 ⟨rfl, hb4⟩; have k1 := HV.out.1.below hb4; have k2 := HV.out.2.1.below hb4; have l5 := k1.ld; have l6 := k2.st k1.2.1 k1.2.2; have KK := Aside0.mk (And.intro k1 (And.intro k2 (HV.out.2.2.2.trans (hb4.mono HV.out.2.2.2.size)))); clear k1 k2 hb4))
  exact bodyPost_ret (results_B1 rfl _ _ _ B1 rfl (KK.out.2.1.set KK.out.1.2.1 KK.out.1.2.2)) rfl ⟨rfl, setRow_below KK.out.2.2 (by omega)⟩
theorem rchg_nf2 (hk : (kind == 2) = true) (hm1 : minB now = true) (hm2 : minB (now + wait) = true) (hw : IntKind.wrap .i64 (now + wait) = now + wait) (hm : idxOf (l.map rE) x = -1) :
    Calls Try.prog 50 #[.agg (rbV cap wait inc (.slice A l.length cp)), .int .i64 kind, .agg (idC x), .int .i64 now] w fun e w' => e = .returned (.tuple #[.agg (rbV cap wait inc (.slice A l.length cp)), .int .i64 8]) ∧ Below w.heap.size w w' := by
  have hu52 := Try.underlying52
  have hu98 := Try.underlying98
  obtain ⟨B1, hB1⟩ : ∃ B1, B1 = rbV cap wait inc (.slice A l.length cp) := ⟨_, rfl⟩
  have one := rbV_one cap wait inc A l.length cp
  have hc3 : B1[3]? = some (.slice A l.length cp) := by rw [hB1]; rfl
  have hc1 : B1[1]? = some (.int .i64 wait) := by rw [hB1]; rfl
  rw [← hB1] at one ⊢
  obtain ⟨v1, v2, v3, v4⟩ := set3 w B1 (by rw [hB1]; rfl) one x
  have l1 := v1.ld
  have l2 := run_ld29 _ _ _ x hx v3
  have l4 := v2.st v1.2.1 v1.2.2
  have HV := Aside0.mk (And.intro v1 (And.intro v2 (And.intro v3 v4)))
  have RF := Aside0.mk (fun (W : World) (hW : Below w.heap.size w W) => show Calls Try.prog 68 #[.agg B1, .agg (idC x)] W fun e w' => e = .returned (.int .i64 (-1)) ∧ Below W.heap.size W w' from by
    have := rfind_is cap wait inc _ l hl hn x hx W (own_below ho hW)
    rw [hm, ← hB1] at this
    exact this)
  have HM := Aside0.mk (And.intro hm1 hm2)
  have HC := Aside0.mk (And.intro hc3 hc1)
  clear hl hx ho hB1 one v1 v2 v3 v4 hc3 hm hm1 hm2
  unfold zeroB at l1 l2 l4
  go_enter Try.func50, Try.ntmps50
  go_wp2_with (first | (go_at_call 67; refine (rminute_is _ _).mono ?_; rintro e_ w1 ⟨rfl, hq⟩; subst w1; (first | rw [HM.out.1] | rw [HM.out.2])) | (go_at_call 68; refine (RF.out _ HV.out.2.2.2).mono ?_; rintro e_ w4 ⟨rfl, hb4⟩; have k1 := HV.out.1.below hb4; have k2 := HV.out.2.1.below hb4; have l5 := k1.ld; have l6 := k2.st k1.2.1 k1.2.2; have KK := Aside0.mk (And.intro k1 (And.intro k2 (HV.out.2.2.2.trans (hb4.mono HV.out.2.2.2.size)))); clear k1 k2 hb4))
  exact bodyPost_ret (results_B1 rfl _ _ _ B1 rfl (KK.out.2.1.set KK.out.1.2.1 KK.out.1.2.2)) rfl ⟨rfl, setRow_below KK.out.2.2 (by omega)⟩
theorem rchg_st (hk : (kind == 2) = false) (i : Nat) (hm : idxOf (l.map rE) x = (i : Int)) (r : RE) (hr : l[i]? = some r) (f : Bool) (hflag : r.2.2.2 = f) (hk0 : (kind == 0) = f) :
    Calls Try.prog 50 #[.agg (rbV cap wait inc (.slice A l.length cp)), .int .i64 kind, .agg (idC x), .int .i64 now] w fun e w' => e = .returned (.tuple #[.agg (rbV cap wait inc (.slice A l.length cp)), .int .i64 10]) ∧ Below w.heap.size w w' := by
  have hu52 := Try.underlying52
  have hu98 := Try.underlying98
  obtain ⟨B1, hB1⟩ : ∃ B1, B1 = rbV cap wait inc (.slice A l.length cp) := ⟨_, rfl⟩
  have one := rbV_one cap wait inc A l.length cp
  have hc3 : B1[3]? = some (.slice A l.length cp) := by rw [hB1]; rfl
  have hc1 : B1[1]? = some (.int .i64 wait) := by rw [hB1]; rfl
  rw [← hB1] at one ⊢
  obtain ⟨v1, v2, v3, v4⟩ := set3 w B1 (by rw [hB1]; rfl) one x
  have l1 := v1.ld
  have l2 := run_ld29 _ _ _ x hx v3
  have l4 := v2.st v1.2.1 v1.2.2
  have HV := Aside0.mk (And.intro v1 (And.intro v2 (And.intro v3 v4)))
  have RF := Aside0.mk (fun (W : World) (hW : Below w.heap.size w W) => show Calls Try.prog 68 #[.agg B1, .agg (idC x)] W fun e w' => e = .returned (.int .i64 (i : Int)) ∧ Below W.heap.size W w' from by
    have := rfind_is cap wait inc _ l hl hn x hx W (own_below ho hW)
    rw [hm, ← hB1] at this
    exact this)
  obtain ⟨A', gb, cp', hv, hA, hE⟩ := res_of_own hl ho
  cases hv
  have hil : i < l.length := (List.getElem?_eq_some_iff.1 hr).1
  have hA2 := hA (by omega)
  subst hA2
  have hr34 := (re_cells (hl r (List.mem_of_getElem? hr)) (hE i r hr)).2.2
  rw [hflag] at hr34
  have HR := Aside0.mk hr34
  have p1 : (0 : Int) ≤ (i : Int) := by omega
  have p2 : (i : Int) < (l.length : Int) := by omega
  have hdi : decide ((i : Int) < 0) = false := decide_eq_false (by omega)
  clear hA hE hr hr34 hflag
  have HC := Aside0.mk (And.intro hc3 hc1)
  clear hl hx ho hB1 one v1 v2 v3 v4 hc3 hc1 hm
  unfold zeroB at l1 l2 l4
  go_enter Try.func50, Try.ntmps50
  go_wp2_with (first | (go_at_call 68; refine (RF.out _ HV.out.2.2.2).mono ?_; rintro e_ w4 ⟨rfl, hb4⟩; have k1 := HV.out.1.below hb4; have k2 := HV.out.2.1.below hb4; have l5 := k1.ld; have l6 := k2.st k1.2.1 k1.2.2; have d3 : w4.cell? ⟨w.heap.size, 3, none⟩ = some (.slice (some ⟨gb, 0, none⟩) l.length cp) := (by rw [cell_of_row w4 _ 3 B1 52 (0, 0) k1.1]; exact HC.out.1); have d34 := ((HV.out.2.2.2.trans (hb4.mono HV.out.2.2.2.size)).cell (World.block_lt_of_cell? _ _ HR.out)).trans HR.out; have KK := Aside0.mk (And.intro k1 (And.intro k2 (HV.out.2.2.2.trans (hb4.mono HV.out.2.2.2.size)))); clear k1 k2 hb4))
  exact bodyPost_ret (results_B1 rfl _ _ _ B1 rfl (KK.out.2.1.set KK.out.1.2.1 KK.out.1.2.2)) rfl ⟨rfl, setRow_below KK.out.2.2 (by omega)⟩
theorem rchg_st2 (hk : (kind == 2) = true) (hm1 : minB now = true) (hm2 : minB (now + wait) = true) (hw : IntKind.wrap .i64 (now + wait) = now + wait) (i : Nat) (hm : idxOf (l.map rE) x = (i : Int)) (r : RE) (hr : l[i]? = some r) (f : Bool) (hflag : r.2.2.2 = f) (hk0 : (kind == 0) = f) :
    Calls Try.prog 50 #[.agg (rbV cap wait inc (.slice A l.length cp)), .int .i64 kind, .agg (idC x), .int .i64 now] w fun e w' => e = .returned (.tuple #[.agg (rbV cap wait inc (.slice A l.length cp)), .int .i64 10]) ∧ Below w.heap.size w w' := by
  have hu52 := Try.underlying52
  have hu98 := Try.underlying98
  obtain ⟨B1, hB1⟩ : ∃ B1, B1 = rbV cap wait inc (.slice A l.length cp) := ⟨_, rfl⟩
  have one := rbV_one cap wait inc A l.length cp
  have hc3 : B1[3]? = some (.slice A l.length cp) := by rw [hB1]; rfl
  have hc1 : B1[1]? = some (.int .i64 wait) := by rw [hB1]; rfl
  rw [← hB1] at one ⊢
  obtain ⟨v1, v2, v3, v4⟩ := set3 w B1 (by rw [hB1]; rfl) one x
  have l1 := v1.ld
  have l2 := run_ld29 _ _ _ x hx v3
  have l4 := v2.st v1.2.1 v1.2.2
  have HV := Aside0.mk (And.intro v1 (And.intro v2 (And.intro v3 v4)))
  have RF := Aside0.mk (fun (W : World) (hW : Below w.heap.size w W) => show Calls Try.prog 68 #[.agg B1, .agg (idC x)] W fun e w' => e = .returned (.int .i64 (i : Int)) ∧ Below W.heap.size W w' from by
    have := rfind_is cap wait inc _ l hl hn x hx W (own_below ho hW)
    rw [hm, ← hB1] at this
    exact this)
  obtain ⟨A', gb, cp', hv, hA, hE⟩ := res_of_own hl ho
  cases hv
  have hil : i < l.length := (List.getElem?_eq_some_iff.1 hr).1
  have hA2 := hA (by omega)
  subst hA2
  have hr34 := (re_cells (hl r (List.mem_of_getElem? hr)) (hE i r hr)).2.2
  rw [hflag] at hr34
  have HR := Aside0.mk hr34
  have p1 : (0 : Int) ≤ (i : Int) := by omega
  have p2 : (i : Int) < (l.length : Int) := by omega
  have hdi : decide ((i : Int) < 0) = false := decide_eq_false (by omega)
  clear hA hE hr hr34 hflag
  have HM := Aside0.mk (And.intro hm1 hm2)
  have HC := Aside0.mk (And.intro hc3 hc1)
  clear hl hx ho hB1 one v1 v2 v3 v4 hc3 hm hm1 hm2
  unfold zeroB at l1 l2 l4
  go_enter Try.func50, Try.ntmps50
  go_wp2_with (first | (go_at_call 67; refine (rminute_is _ _).mono ?_; rintro e_ w1 ⟨rfl, hq⟩; subst w1; (first | rw [HM.out.1] | rw [HM.out.2])) | (go_at_call 68; refine (RF.out _ HV.out.2.2.2).mono ?_; rintro e_ w4 ⟨rfl, hb4⟩; have k1 := HV.out.1.below hb4; have k2 := HV.out.2.1.below hb4; have l5 := k1.ld; have l6 := k2.st k1.2.1 k1.2.2; have d3 : w4.cell? ⟨w.heap.size, 3, none⟩ = some (.slice (some ⟨gb, 0, none⟩) l.length cp) := (by rw [cell_of_row w4 _ 3 B1 52 (0, 0) k1.1]; exact HC.out.1); have d34 := ((HV.out.2.2.2.trans (hb4.mono HV.out.2.2.2.size)).cell (World.block_lt_of_cell? _ _ HR.out)).trans HR.out; have KK := Aside0.mk (And.intro k1 (And.intro k2 (HV.out.2.2.2.trans (hb4.mono HV.out.2.2.2.size)))); clear k1 k2 hb4))
  exact bodyPost_ret (results_B1 rfl _ _ _ B1 rfl (KK.out.2.1.set KK.out.1.2.1 KK.out.1.2.2)) rfl ⟨rfl, setRow_below KK.out.2.2 (by omega)⟩
end
end Go.Proofs.Ytbhibodgbgndbaa.B
/- The reference's Change: Answered. Condition: at most 1000000 entries. -/
namespace Go.Proofs.Ytbhibodgbgndbaa.B
open Go Go.RowKit Go.Proofs Go.Proofs.YtbhibodgbgndbaaW.PrintWords Go.Proofs.YtbhibodgbgndbaaW.PrintLast Go.Proofs.YtbhibodgbgndbaaW.PrintMore
set_option linter.unusedVariables false
set_option linter.unusedSimpArgs false
set_option maxRecDepth 100000
set_option maxHeartbeats 16000000

/-! an entry of the reference in the block that was made last -/
def alc98 : Sem Value := Instr.alloc 98 true (.tuple #[])
theorem execOp_alc98 (ρ : Operand → Value) (dst : Option Tmp) (ty : TypeId) (pos : String) (after : Array Edge) (guard : Option (Nat × Bool)) :
    execOp ρ { dst, op := .alloc 98, type := ty, pos, after, guard } = (do pure (.value (← alc98))) := by simp [execOp, alc98]
theorem run_alc98 (W : World) : alc98.run Try.prog W = .ok (.pointer (some ⟨W.heap.size, 0, none⟩)) (W.alloc (.cells zeros35.toArray 98)) := by
  obtain ⟨v, h1, h2⟩ := Option.map_eq_some_iff.1 zero98
  obtain ⟨it, h3, h4⟩ := Option.bind_eq_some_iff.1 h1
  simp [alc98, Instr.alloc, zeroValue, typeInfo, h3, h4, newVar, h2, newRow, Result.andThen]
def st98 (p v : Value) : Sem Unit := Instr.storeAt 98 p v
theorem execOp_st98 (ρ : Operand → Value) (dst : Option Tmp) (p x : Operand) (ty : TypeId) (pos : String) (after : Array Edge) (guard : Option (Nat × Bool)) :
    execOp ρ { dst, op := .store 98 p x, type := ty, pos, after, guard } = (do st98 (ρ p) (ρ x); pure .skip) := by simp [execOp, st98]
theorem run_st98 (W : World) (N : Nat) (r : RE) (hN : W.heap.size = N) (hx : Aside0 (r.1.length = 32)) : (st98 (.pointer (some ⟨N, 0, none⟩)) (.agg (reL r).toArray)).run Try.prog (W.alloc (.cells zeros35.toArray 98)) = .ok () (W.alloc (.cells (reL r).toArray 98)) := by
  subst hN
  have hl := reL_len r hx.out
  exact run_storeAt_new W 98 _ _ (by simpa [hl] using info98) (by simp [hl, zeros35]) (all_oneCell_toArray (re_one r))
def ld98 (p : Value) : Sem Value := Instr.loadAt 98 p
theorem execOp_ld98 (ρ : Operand → Value) (dst : Option Tmp) (p : Operand) (ty : TypeId) (pos : String) (after : Array Edge) (guard : Option (Nat × Bool)) :
    execOp ρ { dst, op := .load 98 p, type := ty, pos, after, guard } = (do pure (.value (← ld98 (ρ p)))) := by simp [execOp, ld98]
theorem run_ld98 (W : World) (b o : Nat) (r : RE) (hx : r.1.length = 32) (h : W.rangeAt b o (reL r)) : (ld98 (.pointer (some ⟨b, o, none⟩))).run Try.prog W = .ok (.agg (reL r).toArray) W :=
  run_loadAt_mid W b o 98 _ _ h Try.underlying98 rfl (by rw [reL_len r hx]; exact info98)
attribute [local go_sem ↓] execOp_ld29 execOp_ld52 execOp_st52 execOp_alc98 execOp_st98 execOp_ld98
attribute [local go_sem] run_alc98 run_st98

theorem rchg_ans (cap wait : Int) (inc : Bool) (A : Option Addr) (cp : Nat) (l : List RE) (hl : ∀ r ∈ l, r.1.length = 32) (hn : l.length ≤ 1000000) (x : List Int) (hx : x.length = 32) (now : Int) (w : World) (ho : w.ownsRow 0 98 35 (.slice A l.length cp) l.length (resL l))
    (i : Nat) (hm : idxOf (l.map rE) x = (i : Int)) (r : RE) (hr : l[i]? = some r) (hflag : r.2.2.2 = true) :
    Calls Try.prog 50 #[.agg (rbV cap wait inc (.slice A l.length cp)), .int .i64 1, .agg (idC x), .int .i64 now] w fun e w' => ∃ v', e = .returned (.tuple #[.agg (rbV cap wait inc v'), .int .i64 0]) ∧ w'.ownsRow 0 98 35 v' (l.length - 1) (resL (l.eraseIdx i)) ∧ Below w.heap.size w w' := by
  have hu52 := Try.underlying52
  have hu98 := Try.underlying98
  have hi : i < l.length := (List.getElem?_eq_some_iff.1 hr).1
  obtain ⟨B1, hB1⟩ : ∃ B1, B1 = rbV cap wait inc (.slice A l.length cp) := ⟨_, rfl⟩
  have one := rbV_one cap wait inc A l.length cp
  rw [← hB1] at one ⊢
  obtain ⟨v1, v2, v3, v4⟩ := set3 w B1 (by rw [hB1]; rfl) one x
  have l1 := v1.ld
  have l2 := run_ld29 _ _ _ x hx v3
  have HV := Aside0.mk (And.intro v1 (And.intro v2 v4))
  have RF := Aside0.mk (fun (W : World) (hW : Below w.heap.size w W) => show Calls Try.prog 68 #[.agg B1, .agg (idC x)] W fun e w' => e = .returned (.int .i64 (i : Int)) ∧ Below W.heap.size W w' from by
    have := rfind_is cap wait inc _ l hl hn x hx W (own_below ho hW)
    rw [hm, ← hB1] at this
    exact this)
  have RW := Aside0.mk (fun (W : World) (hW : Below w.heap.size w W) => rwithout_is l hl hn i hi (.slice A l.length cp) W (own_below ho hW))
  have WI := Aside0.mk (fun (W : World) (B : Option Addr) (q d : Nat) => show Calls Try.prog 61 #[.agg B1, .slice B q d] W fun e w' => e = .returned (.agg (rbV cap wait inc (.slice B q d))) ∧ Below W.heap.size W w' from by
    have := rwith_is cap wait inc A B l.length q cp d W
    rw [← hB1] at this
    exact this)
  have hc3 : B1[3]? = some (.slice A l.length cp) := by rw [hB1]; rfl
  have hd : decide ((i : Int) < 0) = false := decide_eq_false (by omega)
  have HC3 := Aside0.mk hc3
  obtain ⟨A', gb, cp', hv, hA, hE⟩ := res_of_own hl ho
  cases hv
  have hA2 := hA (by omega)
  subst hA2
  have hrl := hl r (List.mem_of_getElem? hr)
  have HRL : Aside0 (r.1.length = 32) := ⟨hrl⟩
  have hr34 := (re_cells hrl (hE i r hr)).2.2
  rw [hflag] at hr34
  have HR := Aside0.mk (And.intro hr34 (hE i r hr))
  have p1 : (0 : Int) ≤ (i : Int) := by omega
  have p2 : (i : Int) < (l.length : Int) := by omega
  clear hl hx hm ho hB1 one v1 v2 v3 v4 hc3 hA hE hr hr34 hflag hrl
  unfold zeroB at l1 l2
  go_enter Try.func50, Try.ntmps50
  go_wp2_with (first | (go_at_call 68; refine (RF.out _ HV.out.2.2).mono ?_; rintro e_ w4 ⟨rfl, hb4⟩; have k1 := HV.out.1.below hb4; have k2 := HV.out.2.1.below hb4; have low4 := HV.out.2.2.trans (hb4.mono HV.out.2.2.size); have d3 : w4.cell? ⟨w.heap.size, 3, none⟩ = some (.slice (some ⟨gb, 0, none⟩) l.length cp) := (by rw [cell_of_row w4 _ 3 B1 52 (0, 0) k1.1]; exact HC3.out); have d34 := (low4.cell (World.block_lt_of_cell? _ _ HR.out.1)).trans HR.out.1; have hld := run_ld98 w4 gb (i * 35) r HRL.out (range_below HR.out.2 low4); have KK := Aside0.mk (And.intro (k1.below (below_alloc (Below.refl _ _) (.cells (reL r).toArray 98))) (And.intro (k2.below (below_alloc (Below.refl _ _) (.cells (reL r).toArray 98))) (below_alloc low4 (.cells (reL r).toArray 98)))); clear k1 k2 hb4 low4))
  clear hld d3 d34 l1 l2
  generalize w4.alloc (.cells (reL r).toArray 98) = WZ at KK ⊢
  have s1 : (ld52 (.pointer (some ⟨w.heap.size, 0, none⟩))).run Try.prog WZ.drew = .ok (.agg B1) WZ.drew := (show BVar WZ.drew w.heap.size B1 from KK.out.1).ld
  have s2 : WZ.drew.cell? ⟨w.heap.size, 3, none⟩ = some (.slice (some ⟨gb, 0, none⟩) l.length cp) := by
    show WZ.cell? _ = _
    rw [cell_of_row WZ _ 3 B1 52 (0, 0) KK.out.1.1]; exact HC3.out
  go_region_held3 (fun w' => (ld52 (.pointer (some ⟨w.heap.size, 0, none⟩))).run Try.prog w' = .ok (.agg B1) w' ∧ w'.cell? ⟨w.heap.size, 3, none⟩ = some (.slice (some ⟨gb, 0, none⟩) l.length cp))
    (first | exact ⟨q1, q2⟩ | exact ⟨t1, t2⟩ | exact ⟨r1, r2⟩ | exact ⟨s1, s2⟩ | fail)
    (first
      | (go_at_call 69; refine (RW.out _ (below_drew1 KK.out.2.2)).mono ?_; rintro e_ w5 ⟨v5, rfl, ho5, hb5⟩; obtain ⟨A5, c5, rfl⟩ := own_slice ho5; have b5 := (show BVar WZ.drew w.heap.size B1 from KK.out.1).below hb5; have r1 := b5.ld; have r2 : w5.cell? ⟨w.heap.size, 3, none⟩ = some (.slice (some ⟨gb, 0, none⟩) l.length cp) := by { rw [cell_of_row w5 _ 3 B1 52 (0, 0) b5.1]; exact HC3.out }; have K5 := Aside0.mk (And.intro b5 (And.intro ((show BVar WZ.drew (w.heap.size + 1 + 1) zeroB from KK.out.2.1).below hb5) (And.intro ((below_drew1 KK.out.2.2).trans (hb5.mono KK.out.2.2.size)) ho5))); clear b5 hb5 ho5)
      | (go_at_call 61; refine (WI.out _ _ _ _).mono ?_; rintro e_ w6 ⟨rfl, hb6⟩; have b6 := K5.out.1.below hb6; have t1 := b6.ld; have t2 : w6.cell? ⟨w.heap.size, 3, none⟩ = some (.slice (some ⟨gb, 0, none⟩) l.length cp) := by { rw [cell_of_row w6 _ 3 B1 52 (0, 0) b6.1]; exact HC3.out }; have z6 := K5.out.2.1.below hb6; have st6 := z6.st (d := rbV cap wait inc (.slice A5 (l.length - 1) c5)) rfl (rbV_one _ _ _ _ _ _); have q0 : BVar (w6.setRow (w.heap.size + 1 + 1) (rbV cap wait inc (.slice A5 (l.length - 1) c5))) w.heap.size B1 := ⟨(setRow_other _ _ _ _ (by omega)).trans b6.1, b6.2⟩; have q1 := q0.ld; have q2 : (w6.setRow (w.heap.size + 1 + 1) (rbV cap wait inc (.slice A5 (l.length - 1) c5))).cell? ⟨w.heap.size, 3, none⟩ = some (.slice (some ⟨gb, 0, none⟩) l.length cp) := by { rw [cell_of_row _ _ 3 B1 52 (0, 0) q0.1]; exact HC3.out }; have K6 := Aside0.mk (And.intro z6 (And.intro (K5.out.2.2.1.trans (hb6.mono K5.out.2.2.1.size)) (own_below K5.out.2.2.2 hb6))); clear b6 z6 hb6 q0))
  go_wp2
  refine bodyPost_ret (results_B1 rfl _ _ _ _ rfl (K6.out.1.set rfl (rbV_one _ _ _ _ _ _))) rfl ⟨_, rfl, ?_, setRow_below K6.out.2.1 (by omega)⟩
  have hz : w.heap.size + 1 + 1 < WZ.heap.size := (Array.getElem?_eq_some_iff.1 KK.out.2.1.1).1
  have h9 := own_kept (w' := w6.setRow (w.heap.size + 1 + 1) (rbV cap wait inc (.slice A5 (l.length - 1) c5))) K6.out.2.2 (fun k hk => setRow_other _ _ _ _ (by
    have h8 : WZ.heap.size ≤ k := (K6.out.2.2.lt k hk).1
    omega))
  exact own_base0 h9
end Go.Proofs.Ytbhibodgbgndbaa.B
/- The reference's Drop. Condition: at most 1000000 entries. -/
namespace Go.Proofs.Ytbhibodgbgndbaa.B
open Go Go.RowKit Go.Proofs Go.Proofs.YtbhibodgbgndbaaW.PrintWords Go.Proofs.YtbhibodgbgndbaaW.PrintLast Go.Proofs.YtbhibodgbgndbaaW.PrintMore
set_option linter.unusedVariables false
set_option linter.unusedSimpArgs false
set_option maxRecDepth 100000
set_option maxHeartbeats 16000000
attribute [local go_sem ↓] execOp_ld52 execOp_st52

theorem wpList_append_row {w : World} {ops : Array Oper} {rest : List Oper} {o : Oper} {a : Act} {Q : Exit → Act → World → Prop} (hgd : o.guard = none) (s x : Operand)
    (ho : o.op = .call { callee := .builtin .append, args := #[s, x], argTypes := #[50, 50] }) (base : Nat)
    (v : Value) (n : Nat) (xs : List Value) (hs : a.eval s = v) (hown : w.ownsRow base 98 35 v n xs)
    (y : Value) (m b2 : Nat) (news : List Value) (hx : a.eval x = y) (hy : w.ownsRow b2 98 35 y m news) (h1 : ∀ u ∈ news, u.oneCell' = true)
    (h63 : n + m ≤ maxLen) (hbytes : (n + m) * 56 ≤ 140737488355328) (hbase : base ≤ w.heap.size)
    (h : ∀ v' w', w'.ownsRow base 98 35 v' (n + m) (xs ++ news) → w.grownBy w' v.ownBlock → (∀ k, v.ownBlock = some k → base ≤ k) → wpList Try.prog ops Q rest (a.put o.dst v') w') :
    wpList Try.prog ops Q (o :: rest) a w :=
  wpList_plain hgd fun K' hK' => by
    have hw : Region.wanted o (yielded ops a.tmps) = true := by simp [Region.wanted, hgd]
    have := step_append_row (ops := ops) (K := K') (Q := Q) (E := False) hgd s x ho base v n xs hs hown y m b2 news hx hy h1 h63 hbytes hbase (fun v' w' k1 k2 k3 => hK' _ _ (h v' w' k1 k2 k3))
    rwa [if_pos hw] at this
def clr (r : RE) : RE := (r.1, r.2.1, r.2.2.1, false)
theorem resL_set (l : List RE) (hl : ∀ r ∈ l, r.1.length = 32) (i : Nat) (r : RE) (hr : l[i]? = some r) : (resL l).set (i * 35 + 34) (.bool false) = resL (l.set i (clr r)) := by
  induction l generalizing i with
  | nil => simp at hr
  | cons z l ih =>
    have hz : (reL z).length = 35 := reL_len z (hl z (by simp))
    show (reL z ++ resL l).set (i * 35 + 34) (.bool false) = _
    cases i with
    | zero =>
      simp at hr
      subst hr
      show _ = reL (clr z) ++ resL l
      rw [List.set_append_left _ _ (by omega)]
      congr 1
      have hz2 : (z.1.map (Value.int .u8)).length = 32 := by rw [List.length_map]; exact hl z (by simp)
      unfold reL clr
      rw [List.set_append_right _ _ (by omega), hz2]
      rfl
    | succ i =>
      show _ = reL z ++ resL (l.set i (clr r))
      rw [List.set_append_right _ _ (by omega), show (i + 1) * 35 + 34 - (reL z).length = i * 35 + 34 by omega, ih (fun e h => hl e (by simp [h])) i (by simpa using hr)]
/-- How many are out. -/
def outN (l : List RE) : Nat := (l.filter fun r => r.2.2.2).length
theorem rdrop_is (cap wait : Int) (inc : Bool) (v : Value) (l : List RE) (hl : ∀ r ∈ l, r.1.length = 32) (hn : l.length ≤ 1000000) (w : World) (ho : w.ownsRow 0 98 35 v l.length (resL l)) :
    Calls Try.prog 39 #[.agg (rbV cap wait inc v)] w fun e w' => ∃ v', e = .returned (.tuple #[.agg (rbV cap wait inc v'), .int .i64 (outN l : Int)]) ∧ w'.ownsRow 0 98 35 v' l.length (resL (l.map clr)) ∧ Below w.heap.size w w' := by
  obtain ⟨A, cp, rfl⟩ := own_slice ho
  have hu52 := Try.underlying52
  have hu98 := Try.underlying98
  have HL := Aside0.mk (And.intro hl ho)
  obtain ⟨B1, hB1⟩ : ∃ B1, B1 = rbV cap wait inc (.slice A l.length cp) := ⟨_, rfl⟩
  have hc3 : B1[3]? = some (.slice A l.length cp) := by rw [hB1]; rfl
  have one := rbV_one cap wait inc A l.length cp
  have hsz : B1.size = 4 := by rw [hB1]; rfl
  rw [← hB1] at one ⊢
  have WI := Aside0.mk (fun (W : World) (B : Option Addr) (q d : Nat) => show Calls Try.prog 61 #[.agg B1, .slice B q d] W fun e w' => e = .returned (.agg (rbV cap wait inc (.slice B q d))) ∧ Below W.heap.size W w' from by
    have := rwith_is cap wait inc A B l.length q cp d W
    rw [← hB1] at this
    exact this)
  have HC := Aside0.mk (And.intro hc3 (And.intro one hsz))
  clear hl ho hB1 one hsz
  go_enter Try.func39, Try.ntmps39
  go_wp2_with (at_builtin; refine wpList_append_row rfl (.tmp 7) (.tmp 9) rfl (w.heap.size + 1 + 1) (.slice (some ⟨w.heap.size + 1 + 1, 0, none⟩) 0 0) 0 [] rfl ?qo (.slice A l.length cp) l.length 0 (resL l) rfl ?qy (res_one _) ?q6 ?q3 ?qb ?_)
  case qo =>
    have h := World.ownsRow_made (base := w.heap.size + 1 + 1) (e := 98) (size := 35) ((w.alloc (.cells B1 52)).alloc (.cells zeroB 52)) #[] 0 (by simp) (Nat.zero_le _) (by simp)
    rw [show ((w.alloc (.cells B1 52)).alloc (.cells zeroB 52)).heap.size = w.heap.size + 1 + 1 by simp] at h
    exact h
  case qy => exact own_below HL.out.2 (below_alloc (below_alloc (below_alloc (Below.refl _ _) _) _) _)
  case q6 => simp only [maxLen]; omega
  case q3 => omega
  case qb => simp
  intro v5 w5 hown5 hgrow5 hge5
  have W3 := Aside0.mk (show Below (w.heap.size + 1 + 1) (((w.alloc (.cells B1 52)).alloc (.cells zeroB 52)).alloc (.cells #[] 98)) w5 from (Below.refl _ _).grown hgrow5 (by simp) hge5)
  have V1 := Aside0.mk (show BVar w5 w.heap.size B1 from by
    have h1 : (((w.alloc (.cells B1 52)).alloc (.cells zeroB 52)).alloc (.cells #[] 98)).heap[w.heap.size]? = some (.cells B1 52 (0, 0)) := by
      rw [Below.heap_alloc _ _ _ (by simp; omega), Below.heap_alloc _ _ _ (by simp)]; exact heap_alloc_last w _
    exact ⟨(W3.out.block _ (by omega)).trans h1, HC.out.2.2, HC.out.2.1⟩)
  have V2 := Aside0.mk (show BVar w5 (w.heap.size + 1) zeroB from by
    have h1 : (((w.alloc (.cells B1 52)).alloc (.cells zeroB 52)).alloc (.cells #[] 98)).heap[w.heap.size + 1]? = some (.cells zeroB 52 (0, 0)) := by
      rw [Below.heap_alloc _ _ _ (by simp)]
      have := heap_alloc_last (w.alloc (.cells B1 52)) (.cells zeroB 52)
      rw [show (w.alloc (.cells B1 52)).heap.size = w.heap.size + 1 by simp] at this
      exact this
    exact ⟨(W3.out.block _ (by omega)).trans h1, rfl, zeroB_one⟩)
  have LW := Aside0.mk (show Below w.heap.size w w5 from (below_alloc (below_alloc (below_alloc (Below.refl w.heap.size w) (.cells B1 52)) (.cells zeroB 52)) (.cells #[] 98)).trans (W3.out.mono (by omega)))
  have HO5 := Aside0.mk (show w5.ownsRow (w.heap.size + 1 + 1) 98 35 v5 l.length (resL l) from by simpa using hown5)
  clear hown5 hgrow5 hge5 hc3
  obtain ⟨A5, c5, rfl⟩ := own_slice HO5.out
  go_wp2
  go_loopw [4, 6] (fun p4 p6 wr => ∃ (i : Nat), p6 = .int .i64 i ∧ p4 = .int .i64 (outN (l.take i) : Int) ∧ Aside0 (i ≤ l.length) ∧ Aside0 (Below (w.heap.size + 1 + 1) w5 wr) ∧ Aside0 (wr.ownsRow (w.heap.size + 1 + 1) 98 35 (.slice A5 l.length c5) l.length (resL ((l.take i).map clr ++ l.drop i))))
    (fun _ p6 _ => l.length - (intOf p6).toNat)
  case atStart => exact ⟨0, rfl, rfl, ⟨Nat.zero_le _⟩, ⟨Below.refl _ _⟩, ⟨HO5.out⟩⟩
  case round =>
    obtain ⟨i, rfl, rfl, HI, HW, HO⟩ := hrel
    by_cases hi : i < l.length
    · obtain ⟨r, he⟩ : ∃ r, l[i]? = some r := ⟨_, List.getElem?_eq_getElem hi⟩
      obtain ⟨g5, c5', hv5, hge, hg5l⟩ := HO.out.form (by omega)
      cases hv5
      have hil : ((l.take i).map clr).length = i := by rw [List.length_map, List.length_take]; omega
      have hLi : ((l.take i).map clr ++ l.drop i)[i]? = some r := by
        rw [List.getElem?_append_right (by omega), hil, List.getElem?_drop]
        simpa using he
      have hL32 : ∀ q ∈ (l.take i).map clr ++ l.drop i, q.1.length = 32 := fun q hq => by
        rcases List.mem_append.1 hq with hq | hq
        · obtain ⟨z, hz, rfl⟩ := List.mem_map.1 hq
          exact HL.out.1 z (List.mem_of_mem_take hz)
        · exact HL.out.1 q (List.mem_of_mem_drop hq)
      have d34 : wr.cell? ⟨g5, i * 35 + 34, none⟩ = some (.bool r.2.2.2) := by
        have h1 : (reL r)[34]? = some (.bool r.2.2.2) := by
          have := hL32 r (List.mem_of_getElem? hLi)
          rw [reL, List.getElem?_append_right (by simp [this])]; simp [this]
        have h2 := HO.out.cells (g := g5) rfl (i * 35 + 34) _ (resL_at _ hL32 i r hLi 34 _ h1)
        rwa [cell_add] at h2
      have f34 : wr.frozen? ⟨g5, i * 35 + 34, none⟩ = false := HO.out.frozenAt _
      have HSET := Aside0.mk (show (resL ((l.take i).map clr ++ l.drop i)).set (i * 35 + 34) (.bool false) = resL ((l.take (i + 1)).map clr ++ l.drop (i + 1)) from by
        rw [resL_set _ hL32 i r hLi]
        congr 1
        rw [List.take_add_one, he, drop_at' he]
        rw [List.set_append_right _ _ (by omega), hil, Nat.sub_self]
        simp)
      have HST := Aside0.mk (HO.out.stored (i * 35 + 34) (.bool false))
      have HOUT := Aside0.mk (show outN (l.take (i + 1)) = outN (l.take i) + (if r.2.2.2 = true then 1 else 0) from by
        unfold outN
        rw [List.take_add_one, he]
        simp [List.filter_cons]
        cases r.2.2.2 <;> simp)
      have hon : outN (l.take i) ≤ 1000000 := by
        unfold outN
        refine Nat.le_trans (List.length_filter_le _ _) ?_
        rw [List.length_take]; omega
      have p1 : (0 : Int) ≤ (i : Int) := by omega
      have p2 : (i : Int) < (l.length : Int) := by omega
      have p3 := wrap_i64 ((i : Int) + 1) (by omega) (by omega)
      have p4 := wrap_i64 ((outN (l.take i) : Int) + 1) (by omega) (by omega)
      clear he hil hLi hL32
      cases hb : r.2.2.2 with
      | true =>
        rw [hb] at d34
        have HQ := Aside0.mk hb
        clear hb
        go_wp2
        go_roundw
        case rel =>
          refine ⟨i + 1, by go_num, ?_, ⟨by omega⟩, ⟨HW.out.setCell (p := ⟨g5, i * 35 + 34, none⟩) hge (.bool false)⟩, ⟨?_⟩⟩
          · rw [HOUT.out, HQ.out]; simp
          · rw [← HSET.out]; exact HST.out.1
        case measure => simp [intOf]; omega
      | false =>
        rw [hb] at d34
        have HQ := Aside0.mk hb
        clear hb
        go_wp2
        go_roundw
        case rel =>
          refine ⟨i + 1, by go_num, ?_, ⟨by omega⟩, ⟨HW.out.setCell (p := ⟨g5, i * 35 + 34, none⟩) hge (.bool false)⟩, ⟨?_⟩⟩
          · rw [HOUT.out, HQ.out]; simp
          · rw [← HSET.out]; exact HST.out.1
        case measure => simp [intOf]; omega
    · have hle := HI.out
      have e1 : l.take i = l := List.take_of_length_le (by omega)
      have e2 : l.drop i = [] := List.drop_eq_nil_of_le (by omega)
      have HE := Aside0.mk (And.intro e1 e2)
      have b1 : BVar wr w.heap.size B1 := ⟨(HW.out.block _ (by omega)).trans V1.out.1, V1.out.2⟩
      have b2 : BVar wr (w.heap.size + 1) zeroB := ⟨(HW.out.block _ (by omega)).trans V2.out.1, V2.out.2⟩
      have l1 := b1.ld
      have KK := Aside0.mk (And.intro b2 (And.intro (LW.out.trans (HW.out.mono (by have := LW.out.size; omega))) (show wr.ownsRow (w.heap.size + 1 + 1) 98 35 (.slice A5 l.length c5) l.length (resL (l.map clr)) from by
        have h1 := HO.out
        rw [e1, e2, List.append_nil] at h1
        exact h1)))
      have HN := Aside0.mk (show outN (l.take i) = outN l by rw [e1])
      clear b1 b2 e1 e2
      go_wp2_with (first | (go_at_call 61; refine (WI.out _ _ _ _).mono ?_; rintro e_ w7 ⟨rfl, hb7⟩; have z7 := KK.out.1.below hb7; have st7 := z7.st (d := rbV cap wait inc (.slice A5 l.length c5)) rfl (rbV_one _ _ _ _ _ _); have K7 := Aside0.mk (And.intro z7 (And.intro (KK.out.2.1.trans (hb7.mono KK.out.2.1.size)) (own_below KK.out.2.2 hb7))); clear z7 hb7))
      refine bodyPost_ret (results_B1 rfl _ _ _ _ rfl (K7.out.1.set rfl (rbV_one _ _ _ _ _ _))) rfl ⟨.slice A5 l.length c5, ?_, ?_, setRow_below K7.out.2.1 (by omega)⟩
      · rw [← HN.out]; rfl
      · refine own_base0 (own_kept K7.out.2.2 (fun k hk => setRow_other _ _ _ _ ?_))
        have h8 := (K7.out.2.2.lt k hk).1
        omega
end Go.Proofs.Ytbhibodgbgndbaa.B
/- The reference's Change: Offered. Condition: at most 1000000 entries. -/
namespace Go.Proofs.Ytbhibodgbgndbaa.B
open Go Go.RowKit Go.Proofs Go.Proofs.YtbhibodgbgndbaaW.PrintWords Go.Proofs.YtbhibodgbgndbaaW.PrintLast Go.Proofs.YtbhibodgbgndbaaW.PrintMore
set_option linter.unusedVariables false
set_option linter.unusedSimpArgs false
set_option maxRecDepth 100000
set_option maxHeartbeats 16000000
attribute [local go_sem ↓] execOp_ld29 execOp_ld52 execOp_st52 execOp_alc98 execOp_st98 execOp_ld98
attribute [local go_sem] run_alc98 run_st98

theorem resL_setb (b : Bool) (l : List RE) (hl : ∀ r ∈ l, r.1.length = 32) (i : Nat) (r : RE) (hr : l[i]? = some r) : (resL l).set (i * 35 + 34) (.bool b) = resL (l.set i (r.1, r.2.1, r.2.2.1, b)) := by
  induction l generalizing i with
  | nil => simp at hr
  | cons z l ih =>
    have hz : (reL z).length = 35 := reL_len z (hl z (by simp))
    show (reL z ++ resL l).set (i * 35 + 34) (.bool b) = _
    cases i with
    | zero =>
      simp at hr
      subst hr
      show _ = reL (z.1, z.2.1, z.2.2.1, b) ++ resL l
      rw [List.set_append_left _ _ (by omega)]
      congr 1
      have hz2 : (z.1.map (Value.int .u8)).length = 32 := by rw [List.length_map]; exact hl z (by simp)
      unfold reL
      rw [List.set_append_right _ _ (by omega), hz2]
      rfl
    | succ i =>
      show _ = reL z ++ resL (l.set i (r.1, r.2.1, r.2.2.1, b))
      rw [List.set_append_right _ _ (by omega), show (i + 1) * 35 + 34 - (reL z).length = i * 35 + 34 by omega, ih (fun e h => hl e (by simp [h])) i (by simpa using hr)]
theorem rchg_off (cap wait : Int) (inc : Bool) (A : Option Addr) (cp : Nat) (l : List RE) (hl : ∀ r ∈ l, r.1.length = 32) (hn : l.length ≤ 1000000) (x : List Int) (hx : x.length = 32) (now : Int) (w : World) (ho : w.ownsRow 0 98 35 (.slice A l.length cp) l.length (resL l))
    (i : Nat) (hm : idxOf (l.map rE) x = (i : Int)) (r : RE) (hr : l[i]? = some r) (hflag : r.2.2.2 = false) :
    Calls Try.prog 50 #[.agg (rbV cap wait inc (.slice A l.length cp)), .int .i64 0, .agg (idC x), .int .i64 now] w fun e w' => ∃ v', e = .returned (.tuple #[.agg (rbV cap wait inc v'), .int .i64 0]) ∧ w'.ownsRow 0 98 35 v' l.length (resL (l.set i (r.1, r.2.1, r.2.2.1, true))) ∧ Below w.heap.size w w' := by
  have hu52 := Try.underlying52
  have hu98 := Try.underlying98
  have hi : i < l.length := (List.getElem?_eq_some_iff.1 hr).1
  obtain ⟨B1, hB1⟩ : ∃ B1, B1 = rbV cap wait inc (.slice A l.length cp) := ⟨_, rfl⟩
  have one := rbV_one cap wait inc A l.length cp
  rw [← hB1] at one ⊢
  obtain ⟨v1, v2, v3, v4⟩ := set3 w B1 (by rw [hB1]; rfl) one x
  have l1 := v1.ld
  have l2 := run_ld29 _ _ _ x hx v3
  have HV := Aside0.mk (And.intro v1 (And.intro v2 v4))
  have RF := Aside0.mk (fun (W : World) (hW : Below w.heap.size w W) => show Calls Try.prog 68 #[.agg B1, .agg (idC x)] W fun e w' => e = .returned (.int .i64 (i : Int)) ∧ Below W.heap.size W w' from by
    have := rfind_is cap wait inc _ l hl hn x hx W (own_below ho hW)
    rw [hm, ← hB1] at this
    exact this)
  have WI := Aside0.mk (fun (W : World) (B : Option Addr) (q d : Nat) => show Calls Try.prog 61 #[.agg B1, .slice B q d] W fun e w' => e = .returned (.agg (rbV cap wait inc (.slice B q d))) ∧ Below W.heap.size W w' from by
    have := rwith_is cap wait inc A B l.length q cp d W
    rw [← hB1] at this
    exact this)
  have hc3 : B1[3]? = some (.slice A l.length cp) := by rw [hB1]; rfl
  have hd : decide ((i : Int) < 0) = false := decide_eq_false (by omega)
  have HC3 := Aside0.mk hc3
  have HO := Aside0.mk (And.intro hl (And.intro ho hr))
  obtain ⟨A', gb, cp', hv, hA, hE⟩ := res_of_own hl ho
  cases hv
  have hA2 := hA (by omega)
  subst hA2
  have hrl := hl r (List.mem_of_getElem? hr)
  have HRL : Aside0 (r.1.length = 32) := ⟨hrl⟩
  have hr34 := (re_cells hrl (hE i r hr)).2.2
  rw [hflag] at hr34
  have HFL := Aside0.mk hflag
  have HR := Aside0.mk (And.intro hr34 (hE i r hr))
  have p1 : (0 : Int) ≤ (i : Int) := by omega
  have p2 : (i : Int) < (l.length : Int) := by omega
  clear hl hx hm ho hB1 one v1 v2 v3 v4 hc3 hA hE hr hr34 hflag hrl
  unfold zeroB at l1 l2
  go_enter Try.func50, Try.ntmps50
  go_wp2_with (first | (go_at_call 68; refine (RF.out _ HV.out.2.2).mono ?_; rintro e_ w4 ⟨rfl, hb4⟩; have k1 := HV.out.1.below hb4; have k2 := HV.out.2.1.below hb4; have low4 := HV.out.2.2.trans (hb4.mono HV.out.2.2.size); have d3 : w4.cell? ⟨w.heap.size, 3, none⟩ = some (.slice (some ⟨gb, 0, none⟩) l.length cp) := (by rw [cell_of_row w4 _ 3 B1 52 (0, 0) k1.1]; exact HC3.out); have d34 := (low4.cell (World.block_lt_of_cell? _ _ HR.out.1)).trans HR.out.1; have hld := run_ld98 w4 gb (i * 35) r HRL.out (range_below HR.out.2 low4); have KK := Aside0.mk (And.intro (k1.below (below_alloc (Below.refl _ _) (.cells (reL r).toArray 98))) (And.intro (k2.below (below_alloc (Below.refl _ _) (.cells (reL r).toArray 98))) (below_alloc low4 (.cells (reL r).toArray 98)))); have LZ := Aside0.mk (below_alloc low4 (.cells (reL r).toArray 98)); have dz3 := cell_alloc (cell_alloc d3 (.cells (reL r).toArray 98)) (.cells #[] 98); clear k1 k2 hb4 low4) | (at_builtin; refine wpList_append_row rfl (.tmp 53) (.tmp 55) rfl (w4.heap.size + 1) (.slice (some ⟨w4.heap.size + 1, 0, none⟩) 0 0) 0 [] rfl ?qo (.slice (some ⟨gb, 0, none⟩) l.length cp) l.length 0 (resL l) rfl ?qy (res_one _) ?q6 ?q3 ?qb ?_))
  case qo =>
    have h := World.ownsRow_made (base := w4.heap.size + 1) (e := 98) (size := 35) (w4.alloc (.cells (reL r).toArray 98)) #[] 0 (by simp) (Nat.zero_le _) (by simp)
    rw [show (w4.alloc (.cells (reL r).toArray 98)).heap.size = w4.heap.size + 1 by simp] at h
    exact h
  case qy => exact own_below HO.out.2.1 (below_alloc LZ.out _)
  case q6 => simp only [maxLen]; omega
  case q3 => omega
  case qb => simp
  intro v5 w5 hown5 hgrow5 hge5
  have W3 := Aside0.mk (show Below (w4.heap.size + 1) ((w4.alloc (.cells (reL r).toArray 98)).alloc (.cells #[] 98)) w5 from (Below.refl _ _).grown hgrow5 (by simp) hge5)
  have K5 := Aside0.mk (And.intro (KK.out.1.below (below_alloc (Below.refl _ _) (.cells #[] 98))) (KK.out.2.1.below (below_alloc (Below.refl _ _) (.cells #[] 98))))
  have hz1 : w.heap.size + 1 + 1 < w4.heap.size + 1 := by have := (Array.getElem?_eq_some_iff.1 KK.out.2.1.1).1; simpa using this
  have HO5 : w5.ownsRow (w4.heap.size + 1) 98 35 v5 l.length (resL l) := by simpa using hown5
  obtain ⟨g5, c5, rfl, hge, hg5l⟩ := HO5.form (by omega)
  have d34' : w5.cell? ⟨g5, i * 35 + 34, none⟩ = some (.bool false) := by
    have h1 : (reL r)[34]? = some (.bool r.2.2.2) := by
      rw [reL, List.getElem?_append_right (by simp [HRL.out])]; simp [HRL.out]
    have h2 := HO5.cells (g := g5) rfl (i * 35 + 34) _ (resL_at _ HO.out.1 i r HO.out.2.2 34 _ h1)
    rw [cell_add, HFL.out] at h2
    exact h2
  have f34 : w5.frozen? ⟨g5, i * 35 + 34, none⟩ = false := HO5.frozenAt _
  have HST := Aside0.mk (HO5.stored (i * 35 + 34) (.bool true)).1
  have BB := Aside0.mk (And.intro (show BVar (w5.setCell ⟨g5, i * 35 + 34, none⟩ (.bool true)) w.heap.size B1 from ⟨(Below.heap_setCell _ _ _ _ (by simp; omega)).trans ((W3.out.block _ (by omega)).trans K5.out.1.1), K5.out.1.2⟩) (show BVar (w5.setCell ⟨g5, i * 35 + 34, none⟩ (.bool true)) (w.heap.size + 1 + 1) zeroB from ⟨(Below.heap_setCell _ _ _ _ (by simp; omega)).trans ((W3.out.block _ (by omega)).trans K5.out.2.1), K5.out.2.2⟩))
  have LW := Aside0.mk (show Below w.heap.size w (w5.setCell ⟨g5, i * 35 + 34, none⟩ (.bool true)) from ((below_alloc LZ.out (.cells #[] 98)).trans (W3.out.mono (by omega))).setCell (p := ⟨g5, i * 35 + 34, none⟩) (by show w.heap.size ≤ g5; omega) _)
  have l7 := BB.out.1.ld
  have HGE := Aside0.mk (And.intro hge hz1)
  clear hown5 hgrow5 hge5 HO5 hge hz1 hg5l dz3 d3 d34 l1 l2 hld
  go_wp2_with (first | (go_at_call 61; refine (WI.out _ _ _ _).mono ?_; rintro e_ w7 ⟨rfl, hb7⟩; have z7 := BB.out.2.below hb7; have st7 := z7.st (d := rbV cap wait inc (.slice (some ⟨g5, 0, none⟩) l.length c5)) rfl (rbV_one _ _ _ _ _ _); have K7 := Aside0.mk (And.intro z7 (And.intro (LW.out.trans (hb7.mono LW.out.size)) (own_below HST.out hb7))); clear z7 hb7))
  refine bodyPost_ret (results_B1 rfl _ _ _ _ rfl (K7.out.1.set rfl (rbV_one _ _ _ _ _ _))) rfl ⟨.slice (some ⟨g5, 0, none⟩) l.length c5, rfl, ?_, setRow_below K7.out.2.1 (by omega)⟩
  have h9 := K7.out.2.2
  rw [resL_setb true l HO.out.1 i r HO.out.2.2] at h9
  refine own_base0 (own_kept h9 (fun k hk => setRow_other _ _ _ _ ?_))
  have h8 := (h9.lt k hk).1
  have := HGE.out.2
  omega
end Go.Proofs.Ytbhibodgbgndbaa.B
