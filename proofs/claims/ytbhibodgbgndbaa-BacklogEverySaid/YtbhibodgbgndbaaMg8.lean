/- Texts of this seat, joined: Sg Sf Sb Sa Ta Tb. No condition but those that each part names. -/
import Derived.Test.YtbhibodgbgndbaaMg7
/- The reference's Change: Later that moves. Condition: at most 1000000 entries. -/
namespace Go.Proofs.Ytbhibodgbgndbaa.B
open Go Go.RowKit Go.Proofs Go.Proofs.YtbhibodgbgndbaaW.PrintWords Go.Proofs.YtbhibodgbgndbaaW.PrintLast Go.Proofs.YtbhibodgbgndbaaW.PrintMore
set_option linter.unusedVariables false
set_option linter.unusedSimpArgs false
set_option maxRecDepth 100000
set_option maxHeartbeats 16000000
attribute [local go_sem ↓] execOp_ld29 execOp_ld52 execOp_st52 execOp_alc98 execOp_st98 execOp_ld98
attribute [local go_sem] run_alc98 run_st98

/-- What the region of a move keeps: the backlog's variable, the result's variable, the entry in its block. -/
structure Kz (w W : World) (c : Array Value) (v : Value) (wt : Int) (d : Array Value) (N : Nat) (r : RE) : Prop where
  b1 : BVar W w.heap.size c
  b2 : BVar W (w.heap.size + 1 + 1) d
  low : Below w.heap.size w W
  c3 : c[3]? = some v
  c1 : c[1]? = some (.int .i64 wt)
  en : W.rangeAt N 0 (reL r)
  hN : w.heap.size + 1 + 1 < N
  hW : N < W.heap.size
  hr : r.1.length = 32
theorem Kz.below {w W W' : World} {c d : Array Value} {v : Value} {wt : Int} {N : Nat} {r : RE} (h : Kz w W c v wt d N r) (hb : Below W.heap.size W W') : Kz w W' c v wt d N r :=
  ⟨h.b1.below hb, h.b2.below hb, h.low.trans (hb.mono h.low.size), h.c3, h.c1, range_below h.en hb, h.hN, Nat.lt_of_lt_of_le h.hW hb.size, h.hr⟩
theorem Kz.drew {w W : World} {c d : Array Value} {v : Value} {wt : Int} {N : Nat} {r : RE} (h : Kz w W c v wt d N r) : Kz w W.drew c v wt d N r := h.below (below_drew1 (Below.refl _ _))
theorem Kz.grown {w W W' : World} {c d : Array Value} {v : Value} {wt : Int} {N : Nat} {r : RE} (h : Kz w W c v wt d N r) {row : Option Nat} (hg : W.grownBy W' row) (hr : ∀ k, row = some k → N + 1 ≤ k) : Kz w W' c v wt d N r := by
  have hb : Below (N + 1) W W' := (Below.refl _ W).grown hg h.hW hr
  have hN := h.hN
  refine ⟨⟨(hb.block _ (by omega)).trans h.b1.1, h.b1.2⟩, ⟨(hb.block _ (by omega)).trans h.b2.1, h.b2.2⟩, h.low.trans (hb.mono (by omega)), h.c3, h.c1, fun j u hu => ?_, h.hN, Nat.lt_of_lt_of_le h.hW hb.size, h.hr⟩
  exact (hb.cell (show N < _ by omega)).trans (h.en j u hu)
theorem Kz.set {w W : World} {c d d' : Array Value} {v : Value} {wt : Int} {N : Nat} {r : RE} (h : Kz w W c v wt d N r) (hd : d'.size = 4) (h1 : d'.all (·.oneCell') = true) : Kz w (W.setRow (w.heap.size + 1 + 1) d') c v wt d' N r :=
  ⟨⟨(setRow_other _ _ _ _ (by omega)).trans h.b1.1, h.b1.2⟩, h.b2.set hd h1, setRow_below h.low (by omega), h.c3, h.c1, fun j u hu => by
    have hN := h.hN
    have hb : (W.setRow (w.heap.size + 1 + 1) d').heap[N]? = W.heap[N]? := setRow_other _ _ _ _ (by omega)
    exact (World.cell?_of_block (w := W) hb).trans (h.en j u hu), h.hN, by have := h.hW; simp [World.setRow]; exact this, h.hr⟩
/-- The limbs that the walk reads. -/
@[reducible] def Sz (w : World) (c : Array Value) (v : Value) (wt : Int) (N : Nat) (r : RE) (W : World) : Prop :=
  (ld52 (.pointer (some ⟨w.heap.size, 0, none⟩))).run Try.prog W = .ok (.agg c) W ∧ W.cell? ⟨w.heap.size, 3, none⟩ = some v ∧ W.cell? ⟨w.heap.size, 1, none⟩ = some (.int .i64 wt) ∧ W.rangeAt N 0 (r.1.map (Value.int .u8)) ∧ W.cell? ⟨N, 33, none⟩ = some (.int .i64 r.2.2.1) ∧ ∃ d, Aside0 (Kz w W c v wt d N r)
theorem Kz.s {w W : World} {c d : Array Value} {v : Value} {wt : Int} {N : Nat} {r : RE} (h : Kz w W c v wt d N r) : Sz w c v wt N r W :=
  ⟨h.b1.ld, by rw [cell_of_row W _ 3 c 52 (0, 0) h.b1.1]; exact h.c3, by rw [cell_of_row W _ 1 c 52 (0, 0) h.b1.1]; exact h.c1, id_of_re h.en, by have := (re_cells h.hr h.en).2.1; rwa [Nat.zero_add] at this, d, ⟨h⟩⟩
theorem keepBz {w W W' : World} {c : Array Value} {v : Value} {wt : Int} {N : Nat} {r : RE} (h : Sz w c v wt N r W) (hb : Below W.heap.size W W') : Sz w c v wt N r W' := by
  obtain ⟨d, hd⟩ := h.2.2.2.2.2
  exact (hd.out.below hb).s
theorem keepGz {w W W' : World} {c : Array Value} {v : Value} {wt : Int} {N : Nat} {r : RE} (h : Sz w c v wt N r W) {row : Option Nat} (hg : W.grownBy W' row) (hr : ∀ k, row = some k → N + 1 ≤ k) : Sz w c v wt N r W' := by
  obtain ⟨d, hd⟩ := h.2.2.2.2.2
  exact (hd.out.grown hg hr).s
theorem keepSz {w W : World} {c d' : Array Value} {v : Value} {wt : Int} {N : Nat} {r : RE} (h : Sz w c v wt N r W) (hd : d'.size = 4) (h1 : d'.all (·.oneCell') = true) : Sz w c v wt N r (W.setRow (w.heap.size + 1 + 1) d') := by
  obtain ⟨d, hd0⟩ := h.2.2.2.2.2
  exact (hd0.out.set hd h1).s
theorem Sz.k {w W : World} {c : Array Value} {v : Value} {wt : Int} {N : Nat} {r : RE} (h : Sz w c v wt N r W) : ∃ d, Aside0 (Kz w W c v wt d N r) := h.2.2.2.2.2
theorem Sz.low {w W : World} {c : Array Value} {v : Value} {wt : Int} {N : Nat} {r : RE} (h : Sz w c v wt N r W) : Below w.heap.size w W := h.2.2.2.2.2.choose_spec.out.low
theorem Sz.hW {w W : World} {c : Array Value} {v : Value} {wt : Int} {N : Nat} {r : RE} (h : Sz w c v wt N r W) : N + 1 ≤ W.heap.size := h.2.2.2.2.2.choose_spec.out.hW

theorem rchg_mov (cap wait : Int) (inc : Bool) (A : Option Addr) (cp : Nat) (l : List RE) (hl : ∀ r ∈ l, r.1.length = 32) (hn : l.length ≤ 1000000) (x : List Int) (hx : x.length = 32) (now : Int) (w : World) (ho : w.ownsRow 0 98 35 (.slice A l.length cp) l.length (resL l))
    (hm1 : minB now = true) (hm2 : minB (now + wait) = true) (hw : IntKind.wrap .i64 (now + wait) = now + wait) (i : Nat) (hm : idxOf (l.map rE) x = (i : Int)) (r : RE) (hr : l[i]? = some r) (hflag : r.2.2.2 = true) (hw2 : IntKind.wrap .i64 (r.2.2.1 + 1) = r.2.2.1 + 1) :
    Calls Try.prog 50 #[.agg (rbV cap wait inc (.slice A l.length cp)), .int .i64 2, .agg (idC x), .int .i64 now] w fun e w' => ∃ v', e = .returned (.tuple #[.agg (rbV cap wait inc v'), .int .i64 0]) ∧ w'.ownsRow 0 98 35 v' (l.length - 1 + 1) (resL (l.eraseIdx i ++ [(r.1, now + wait, r.2.2.1 + 1, false)])) ∧ Below w.heap.size w w' := by
  have hu52 := Try.underlying52
  have hu98 := Try.underlying98
  have hi : i < l.length := (List.getElem?_eq_some_iff.1 hr).1
  obtain ⟨B1, hB1⟩ : ∃ B1, B1 = rbV cap wait inc (.slice A l.length cp) := ⟨_, rfl⟩
  have one := rbV_one cap wait inc A l.length cp
  rw [← hB1] at one ⊢
  obtain ⟨v1, v2, v3, v4⟩ := set3 w B1 (by rw [hB1]; rfl) one x
  have l1 := v1.ld
  have l2 := run_ld29 _ _ _ x hx v3
  have HV := Aside0.mk (And.intro v1 (And.intro v2 v4))
  have RF := Aside0.mk (fun (W : World) (hW : Below w.heap.size w W) => show Calls Try.prog 68 #[.agg B1, .agg (idC x)] W fun e w' => e = .returned (.int .i64 (i : Int)) ∧ Below W.heap.size W w' from by
    have := rfind_is cap wait inc _ l hl hn x hx W (own_below ho hW)
    rw [hm, ← hB1] at this
    exact this)
  have RW := Aside0.mk (fun (W : World) (hW : Below w.heap.size w W) => rwithout_is l hl hn i hi (.slice A l.length cp) W (own_below ho hW))
  have WI := Aside0.mk (fun (W : World) (B : Option Addr) (q d : Nat) => show Calls Try.prog 61 #[.agg B1, .slice B q d] W fun e w' => e = .returned (.agg (rbV cap wait inc (.slice B q d))) ∧ Below W.heap.size W w' from by
    have := rwith_is cap wait inc A B l.length q cp d W
    rw [← hB1] at this
    exact this)
  have hc3 : B1[3]? = some (.slice A l.length cp) := by rw [hB1]; rfl
  have hc1 : B1[1]? = some (.int .i64 wait) := by rw [hB1]; rfl
  have hd : decide ((i : Int) < 0) = false := decide_eq_false (by omega)
  have HC3 := Aside0.mk (And.intro hc3 hc1)
  obtain ⟨A', gb, cp', hv, hA, hE⟩ := res_of_own hl ho
  cases hv
  have hA2 := hA (by omega)
  subst hA2
  have hrl := hl r (List.mem_of_getElem? hr)
  have HRL : Aside0 (r.1.length = 32) := ⟨hrl⟩
  have hr34 := (re_cells hrl (hE i r hr)).2.2
  rw [hflag] at hr34
  have HR := Aside0.mk (And.intro hr34 (hE i r hr))
  have HM := Aside0.mk (And.intro hm1 hm2)
  have p1 : (0 : Int) ≤ (i : Int) := by omega
  have p2 : (i : Int) < (l.length : Int) := by omega
  clear hl hx hm ho hB1 one v1 v2 v3 v4 hc3 hA hE hr hr34 hflag hrl hm1 hm2
  unfold zeroB at l1 l2
  go_enter Try.func50, Try.ntmps50
  go_wp2_with (first | (go_at_call 67; refine (rminute_is _ _).mono ?_; rintro e_ w1 ⟨rfl, hq⟩; subst w1; (first | rw [HM.out.1] | rw [HM.out.2])) | (go_at_call 68; refine (RF.out _ HV.out.2.2).mono ?_; rintro e_ w4 ⟨rfl, hb4⟩; have k1 := HV.out.1.below hb4; have k2 := HV.out.2.1.below hb4; have low4 := HV.out.2.2.trans (hb4.mono HV.out.2.2.size); have d3 : w4.cell? ⟨w.heap.size, 3, none⟩ = some (.slice (some ⟨gb, 0, none⟩) l.length cp) := (by rw [cell_of_row w4 _ 3 B1 52 (0, 0) k1.1]; exact HC3.out.1); have d34 := (low4.cell (World.block_lt_of_cell? _ _ HR.out.1)).trans HR.out.1; have hld := run_ld98 w4 gb (i * 35) r HRL.out (range_below HR.out.2 low4); have KK := Aside0.mk (show Kz w (w4.alloc (.cells (reL r).toArray 98)) B1 (.slice (some ⟨gb, 0, none⟩) l.length cp) wait zeroB w4.heap.size r from ⟨k1.below (below_alloc (Below.refl _ _) (.cells (reL r).toArray 98)), k2.below (below_alloc (Below.refl _ _) (.cells (reL r).toArray 98)), below_alloc low4 (.cells (reL r).toArray 98), HC3.out.1, HC3.out.2, (by intro j u hu; rw [Nat.zero_add, cell_of_row _ _ _ _ 98 (0, 0) (heap_alloc_last w4 _)]; simpa using hu), (Array.getElem?_eq_some_iff.1 k2.1).1, (by simp), HRL.out⟩); clear k1 k2 hb4 low4))
  clear hld d3 d34 l1 l2 hc1
  generalize w4.alloc (.cells (reL r).toArray 98) = WZ at KK ⊢
  generalize w4.heap.size = N at KK ⊢
  have EB := Aside0.mk (show ((WZ.alloc (.cells (reL (r.1, now + wait, r.2.2.1 + 1, false)).toArray 98)).drew).ownsRow 0 98 35 (.slice (some ⟨WZ.heap.size, 0, none⟩) 1 1) 1 (reL (r.1, now + wait, r.2.2.1 + 1, false)) from
    World.ownsRow_lit (base := 0) (e := 98) (size := 35) WZ (reL (r.1, now + wait, r.2.2.1 + 1, false)).toArray 1 (Nat.zero_le _) (by simp only [maxLen]; omega) (by simp [reL, HRL.out]))
  have hu29 := Try.underlying29
  have hi29 : (Try.prog.info? 29).map (·.size) = some (r.1.map (Value.int .u8)).length := by rw [List.length_map, HRL.out]; exact info29
  go_region_held3 (fun w' => (ld52 (.pointer (some ⟨w.heap.size, 0, none⟩))).run Try.prog w' = .ok (.agg B1) w' ∧ w'.cell? ⟨w.heap.size, 3, none⟩ = some (.slice (some ⟨gb, 0, none⟩) l.length cp) ∧ w'.cell? ⟨w.heap.size, 1, none⟩ = some (.int .i64 wait) ∧ w'.rangeAt N 0 (r.1.map (Value.int .u8)) ∧ w'.cell? ⟨N, 33, none⟩ = some (.int .i64 r.2.2.1) ∧ ∃ d, Aside0 (Kz w w' B1 (.slice (some ⟨gb, 0, none⟩) l.length cp) wait d N r))
    (first | exact (Kz.s KK.out.drew) | exact keepSz (by assumption) rfl (rbV_one _ _ _ _ _ _) | exact keepGz (by assumption) (by assumption) HRW.out | exact keepBz (by assumption) (by assumption) | exact keepBz (by assumption) (below_alloc (Below.refl _ _) _) | fail)
    (first
      | (go_at_call 61; obtain ⟨A6, c6, rfl⟩ := own_slice HO6.out; refine (WI.out _ _ _ _).mono ?_; rintro e_ w7 ⟨rfl, hb7⟩; obtain ⟨d6, K6⟩ := Sz.k (by assumption : Sz w B1 (.slice (some ⟨gb, 0, none⟩) l.length cp) wait N r _); have K7 := Aside0.mk (K6.out.below hb7); have st7 := K7.out.b2.st (d := rbV cap wait inc (.slice A6 (l.length - 1 + 1) c6)) rfl (rbV_one _ _ _ _ _ _); have HO7 := Aside0.mk (own_below HO6.out hb7))
      | (refine step_append_row rfl (.tmp 76) (.tmp 87) rfl (N + 1) v5 (l.length - 1) (resL (l.eraseIdx i)) rfl HO5.out _ 1 0 (reL (r.1, now + wait, r.2.2.1 + 1, false)) rfl HE5.out (re_one _) (by simp only [maxLen]; omega) (by omega) (by have := HZ5.out; simp; omega) ?_; intro v6 w6 hown6 hgrow6 hge6; have HRW := Aside0.mk hge6; have HO6 := Aside0.mk hown6)
      | (refine step_append_row rfl (.tmp 76) (.tmp 87) rfl (N + 1) v5 (l.length - 1) (resL (l.eraseIdx i)) rfl (HO5.out.alloc _) _ 1 0 (reL (r.1, now + wait, r.2.2.1 + 1, false)) rfl (World.ownsRow_lit (base := 0) _ (reL (r.1, now + wait, r.2.2.1 + 1, false)).toArray 1 (Nat.zero_le _) (by simp only [maxLen]; omega) (by simp [reL, HRL.out])) (re_one _) (by simp only [maxLen]; omega) (by omega) (by have := HZ5.out; simp; omega) ?_; intro v6 w6 hown6 hgrow6 hge6; have HRW := Aside0.mk hge6; have HO6 := Aside0.mk hown6)
      | (go_at_call 69; refine (RW.out _ (Sz.low (by assumption : Sz w B1 (.slice (some ⟨gb, 0, none⟩) l.length cp) wait N r _))).mono ?_; rintro e_ w5 ⟨v5, rfl, ho5, hb5⟩; have HO5 := Aside0.mk (own_baseW ho5 (Sz.hW (by assumption : Sz w B1 (.slice (some ⟨gb, 0, none⟩) l.length cp) wait N r _))); have HZ5 := Aside0.mk (Nat.le_trans (Sz.hW (by assumption : Sz w B1 (.slice (some ⟨gb, 0, none⟩) l.length cp) wait N r _)) hb5.size); (first | (have HE5 := Aside0.mk (own_below EB.out hb5)) | (have HE5 := Aside0.mk True.intro)); clear ho5))
  all_goals (
    go_wp2
    refine bodyPost_ret (results_B1 rfl _ _ _ _ rfl (K7.out.b2.set rfl (rbV_one _ _ _ _ _ _))) rfl ⟨_, rfl, ?_, setRow_below K7.out.low (by omega)⟩
    rw [resL_append]
    refine own_base0 (own_kept HO7.out (fun k hk => setRow_other _ _ _ _ ?_))
    have h8 := (HO7.out.lt k hk).1
    have := KK.out.hN
    omega)
end Go.Proofs.Ytbhibodgbgndbaa.B
/- The reference's Change: Later at what is no minute. Condition: at most 1000000 entries. -/
namespace Go.Proofs.Ytbhibodgbgndbaa.B
open Go Go.RowKit Go.Proofs Go.Proofs.YtbhibodgbgndbaaW.PrintWords Go.Proofs.YtbhibodgbgndbaaW.PrintLast Go.Proofs.YtbhibodgbgndbaaW.PrintMore
set_option linter.unusedVariables false
set_option linter.unusedSimpArgs false
set_option linter.unusedSectionVars false
set_option maxRecDepth 100000
set_option maxHeartbeats 16000000
attribute [local go_sem ↓] execOp_ld29 execOp_ld52 execOp_st52

section
variable (cap wait : Int) (inc : Bool) (A : Option Addr) (cp : Nat) (l : List RE) (hl : ∀ r ∈ l, r.1.length = 32) (hn : l.length ≤ 1000000) (x : List Int) (hx : x.length = 32) (kind now : Int) (w : World) (ho : w.ownsRow 0 98 35 (.slice A l.length cp) l.length (resL l))
include hl hn hx ho
theorem rchg_r1 (hk : (kind == 2) = true) (hm1 : minB now = false) :
    Calls Try.prog 50 #[.agg (rbV cap wait inc (.slice A l.length cp)), .int .i64 kind, .agg (idC x), .int .i64 now] w fun e w' => e = .returned (.tuple #[.agg (rbV cap wait inc (.slice A l.length cp)), .int .i64 2]) ∧ Below w.heap.size w w' := by
  have hu52 := Try.underlying52
  have hu98 := Try.underlying98
  obtain ⟨B1, hB1⟩ : ∃ B1, B1 = rbV cap wait inc (.slice A l.length cp) := ⟨_, rfl⟩
  have one := rbV_one cap wait inc A l.length cp
  have hc3 : B1[3]? = some (.slice A l.length cp) := by rw [hB1]; rfl
  have hc1 : B1[1]? = some (.int .i64 wait) := by rw [hB1]; rfl
  rw [← hB1] at one ⊢
  obtain ⟨v1, v2, v3, v4⟩ := set3 w B1 (by rw [hB1]; rfl) one x
  have l1 := v1.ld
  have l2 := run_ld29 _ _ _ x hx v3
  have l4 := v2.st v1.2.1 v1.2.2
  have HV := Aside0.mk (And.intro v1 (And.intro v2 (And.intro v3 v4)))
  have HM := Aside0.mk hm1
  have HC := Aside0.mk (And.intro hc3 hc1)
  clear hl hx ho hB1 one v1 v2 v3 v4 hc3 hm1
  unfold zeroB at l1 l2 l4
  go_enter Try.func50, Try.ntmps50
  go_wp2_with (first | (go_at_call 67; refine (rminute_is _ _).mono ?_; rintro e_ w1 ⟨rfl, hq⟩; subst w1; rw [HM.out]))
  exact bodyPost_ret (results_B1 rfl _ _ _ B1 rfl (HV.out.2.1.set HV.out.1.2.1 HV.out.1.2.2)) rfl ⟨rfl, setRow_below HV.out.2.2.2 (by omega)⟩
theorem rchg_r2 (hk : (kind == 2) = true) (hm1 : minB now = true) (hm2 : minB (now + wait) = false) (hw : IntKind.wrap .i64 (now + wait) = now + wait) :
    Calls Try.prog 50 #[.agg (rbV cap wait inc (.slice A l.length cp)), .int .i64 kind, .agg (idC x), .int .i64 now] w fun e w' => e = .returned (.tuple #[.agg (rbV cap wait inc (.slice A l.length cp)), .int .i64 2]) ∧ Below w.heap.size w w' := by
  have hu52 := Try.underlying52
  have hu98 := Try.underlying98
  obtain ⟨B1, hB1⟩ : ∃ B1, B1 = rbV cap wait inc (.slice A l.length cp) := ⟨_, rfl⟩
  have one := rbV_one cap wait inc A l.length cp
  have hc3 : B1[3]? = some (.slice A l.length cp) := by rw [hB1]; rfl
  have hc1 : B1[1]? = some (.int .i64 wait) := by rw [hB1]; rfl
  rw [← hB1] at one ⊢
  obtain ⟨v1, v2, v3, v4⟩ := set3 w B1 (by rw [hB1]; rfl) one x
  have l1 := v1.ld
  have l2 := run_ld29 _ _ _ x hx v3
  have l4 := v2.st v1.2.1 v1.2.2
  have HV := Aside0.mk (And.intro v1 (And.intro v2 (And.intro v3 v4)))
  have HM := Aside0.mk (And.intro hm1 hm2)
  have HC := Aside0.mk (And.intro hc3 hc1)
  clear hl hx ho hB1 one v1 v2 v3 v4 hc3 hm1 hm2
  unfold zeroB at l1 l2 l4
  go_enter Try.func50, Try.ntmps50
  go_wp2_with (first | (go_at_call 67; refine (rminute_is _ _).mono ?_; rintro e_ w1 ⟨rfl, hq⟩; subst w1; (first | rw [HM.out.1] | rw [HM.out.2])))
  exact bodyPost_ret (results_B1 rfl _ _ _ B1 rfl (HV.out.2.1.set HV.out.1.2.1 HV.out.1.2.2)) rfl ⟨rfl, setRow_below HV.out.2.2.2 (by omega)⟩
end
end Go.Proofs.Ytbhibodgbgndbaa.B
/- The law's same. Condition: at most 1000000 identities. -/
namespace Go.Proofs.Ytbhibodgbgndbaa.B
open Go Go.RowKit Go.Proofs Go.Proofs.YtbhibodgbgndbaaW.PrintWords Go.Proofs.YtbhibodgbgndbaaW.PrintLast Go.Proofs.YtbhibodgbgndbaaW.PrintMore
set_option linter.unusedVariables false
set_option linter.unusedSimpArgs false
set_option maxRecDepth 100000
set_option maxHeartbeats 16000000
attribute [local go_sem ↓] execOp_ld29 execOp_ld30

theorem ids_of_own29 {W : World} {base : Nat} {v : Value} {l : List (List Int)} (hl : ∀ x ∈ l, x.length = 32) (h : W.ownsRow base 29 32 v l.length (idsL l)) :
    ∃ (A : Option Addr) (gb cap : Nat), v = .slice A l.length cap ∧ (0 < l.length → A = some ⟨gb, 0, none⟩) ∧ IdsAt W gb l := by
  rcases h.2 with ⟨rfl, h0⟩ | ⟨gb, cap, cur, rfl, _⟩
  · have : l = [] := List.eq_nil_of_length_eq_zero h0
    subst this
    exact ⟨none, 0, 0, rfl, fun h => by simp at h, fun i e he => by simp at he⟩
  · refine ⟨_, gb, cap, rfl, fun _ => rfl, fun i e he j u hu => ?_⟩
    have := h.cells (g := gb) rfl (i * 32 + j) u (idsL_at l hl i e he j u hu)
    rwa [cell_add] at this
theorem sameI_is (l m : List (List Int)) (hl : ∀ x ∈ l, x.length = 32) (hm : ∀ x ∈ m, x.length = 32) (hn : l.length ≤ 1000000) (v u : Value) (b1 b2 : Nat) (w : World) (ho : w.ownsRow b1 30 32 v l.length (idsL l)) (hp : w.ownsRow b2 29 32 u m.length (idsL m)) :
    Calls Try.prog 54 #[v, u] w fun e w' => e = .returned (.bool (decide (l = m))) ∧ Below w.heap.size w w' := by
  obtain ⟨A, ga, ca, rfl, hA, hE⟩ := ids_of_own hl ho
  obtain ⟨B, gb, cb, rfl, hB, hF⟩ := ids_of_own29 hm hp
  by_cases hlen : l.length = m.length
  · have HL := Aside0.mk (And.intro hl (And.intro hm (And.intro hE (And.intro hF hlen))))
    have hln : ((l.length : Int) == (m.length : Int)) = true := by simp [hlen]
    have hln2 : (l.length : Int) = (m.length : Int) := by omega
    clear hl hm ho hp hE hF hlen
    go_enter Try.func54, Try.ntmps54
    go_wp2
    go_loopw [5] (fun p5 wr => ∃ i : Nat, p5 = .int .i64 i ∧ Aside0 (i ≤ l.length ∧ (l = m ↔ l.drop i = m.drop i)) ∧ Aside0 (Below w.heap.size w wr)) (fun p5 _ => l.length - (intOf p5).toNat)
    case atStart => exact ⟨0, rfl, ⟨Nat.zero_le _, by simp⟩, ⟨Below.refl _ _⟩⟩
    case round =>
      obtain ⟨i, rfl, HI, HW⟩ := hrel
      by_cases hi : i < l.length
      · have hi2 : i < m.length := by have := HL.out.2.2.2.2; omega
        obtain ⟨x, hx⟩ : ∃ x, l[i]? = some x := ⟨_, List.getElem?_eq_getElem hi⟩
        obtain ⟨y, hy⟩ : ∃ y, m[i]? = some y := ⟨_, List.getElem?_eq_getElem hi2⟩
        have a1 := hA (by omega)
        have a2 := hB (by omega)
        subst a1
        subst a2
        have kx := HL.out.1 x (List.mem_of_getElem? hx)
        have ky := HL.out.2.1 y (List.mem_of_getElem? hy)
        have rx := range_below (HL.out.2.2.1 i x hx) HW.out
        have ry := range_below (HL.out.2.2.2.1 i y hy) HW.out
        have l1 : ∀ n, (ld30 (.pointer (some ⟨ga, i * 32, none⟩))).run Try.prog (wr.drewN n) = .ok (.agg (x.map (Value.int .u8)).toArray) (wr.drewN n) := fun n => run_loadAt_mid (wr.drewN n) ga (i * 32) 30 _ _ rx Try.underlying30 rfl (by rw [List.length_map, kx]; exact info30)
        have l2 : (ld30 (.pointer (some ⟨ga, i * 32, none⟩))).run Try.prog wr = .ok (.agg (x.map (Value.int .u8)).toArray) wr := run_loadAt_mid wr ga (i * 32) 30 _ _ rx Try.underlying30 rfl (by rw [List.length_map, kx]; exact info30)
        have l3 := fun n => run_ld29 (wr.drewN n) gb (i * 32) y ky ry
        have l4 := run_ld29 wr gb (i * 32) y ky ry
        have heq : ∀ W : World, (Op.equalIn 10000 30 (.agg (x.map (Value.int .u8)).toArray) (.agg (y.map (Value.int .u8)).toArray)).run Try.prog W = .ok (decide (x = y)) W := fun W => run_eqId 9998 W x y kx ky
        have p1 : (0 : Int) ≤ (i : Int) := by omega
        have p2 : (i : Int) < (l.length : Int) := by omega
        have p2' : (i : Int) < (m.length : Int) := by omega
        have p3 := wrap_i64 ((i : Int) + 1) (by omega) (by omega)
        have HDR := Aside0.mk (And.intro (drop_at' hx) (drop_at' hy))
        clear hx hy kx ky rx ry
        by_cases hq : x = y
        · rw [decide_eq_true hq] at heq
          have HQ := Aside0.mk hq
          clear hq
          go_wp2
          go_quiet (fail)
          go_wp2
          go_roundw
          case rel =>
            refine ⟨i + 1, by go_num, ⟨by omega, ?_⟩, ⟨HW.out.trans ((drewN_mk wr _).mono HW.out.size)⟩⟩
            have h1 := HI.out.2
            rw [HDR.out.1, HDR.out.2, HQ.out] at h1
            rw [h1]; simp
          case measure => simp [intOf]; omega
        · rw [decide_eq_false hq] at heq
          have HQ := Aside0.mk hq
          clear hq
          go_wp2
          go_quiet (fail)
          go_wp2
          go_ret
          have h1 := HI.out.2
          rw [HDR.out.1, HDR.out.2] at h1
          have h2 : ¬ l = m := fun h => by
            have := h1.1 h
            simp at this
            exact HQ.out this.1
          exact ⟨by rw [decide_eq_false h2]; rfl, HW.out.trans ((drewN_mk wr _).mono HW.out.size)⟩
      · have hle := HI.out.1
        go_wp2
        go_ret
        have h1 := HI.out.2
        rw [List.drop_eq_nil_of_le (by omega), List.drop_eq_nil_of_le (by have := HL.out.2.2.2.2; omega)] at h1
        exact ⟨by rw [decide_eq_true (h1.2 rfl)]; rfl, HW.out⟩
  · have hln : ((l.length : Int) == (m.length : Int)) = false := by simpa using fun h => hlen (by omega)
    have hd : decide (l = m) = false := decide_eq_false (fun h => hlen (by rw [h]))
    rw [hd]
    clear hl hm ho hp hE hF hlen
    go_enter Try.func54, Try.ntmps54
    go_wp2
    go_ret
    exact ⟨rfl, Below.refl _ _⟩
end Go.Proofs.Ytbhibodgbgndbaa.B
/- The plain state and the reference's list: what they share, kept by Next, Drop, Add, Remove. No condition. -/
namespace Go.Proofs.Ytbhibodgbgndbaa.B
open Go Go.RowKit Go.Proofs
set_option linter.unusedVariables false
set_option linter.unusedSimpArgs false

/-- The reference's list tells what the state tells. -/
structure Sim (s : St) (l : List RE) : Prop where
  es : s.es = l.map rE
  flag : ∀ r ∈ l, r.2.2.2 = decide (r.1 ∈ s.out)
theorem Sim.ids {s : St} {l : List RE} (h : Sim s l) : s.es.map (·.1) = l.map (·.1) := by
  rw [h.es, List.map_map]; rfl
theorem Sim.len {s : St} {l : List RE} (h : Sim s l) : s.es.length = l.length := by rw [h.es, List.length_map]
theorem sim_next (out : List (List Int)) (now most : Int) : ∀ (l : List RE) (acc : List (List Int)), (∀ r ∈ l, r.2.2.2 = decide (r.1 ∈ out)) → nextG out now most (l.map rE) acc = rnextG now most l acc
  | [], acc, _ => rfl
  | r :: l, acc, h => by
    have ih := fun a => sim_next out now most l a (fun q hq => h q (by simp [hq]))
    have hr := h r (by simp)
    show nextG out now most (rE r :: l.map rE) acc = _
    unfold nextG rnextG
    by_cases hm : most ≤ (acc.length : Int)
    · rw [if_pos hm, if_pos hm]
    · rw [if_neg hm, if_neg hm]
      by_cases hq : r.2.2.2 = false ∧ r.2.1 ≤ now
      · have h1 : r.1 ∉ out := by have := hq.1; rw [hr] at this; simpa using this
        rw [if_pos hq, if_pos (show (rE r).2.1 ≤ now ∧ (rE r).1 ∉ out from ⟨hq.2, h1⟩), ih]
        rfl
      · rw [if_neg hq, if_neg (show ¬ ((rE r).2.1 ≤ now ∧ (rE r).1 ∉ out) from fun h2 => hq ⟨by rw [hr]; exact decide_eq_false h2.2, h2.1⟩), ih]
theorem Sim.next {s : St} {l : List RE} (h : Sim s l) (now most : Int) : nextG s.out now most s.es [] = rnextG now most l [] := by
  rw [h.es]; exact sim_next s.out now most l [] h.flag
theorem Sim.drop {s : St} {l : List RE} (h : Sim s l) : Sim (dropS s) (l.map clr) :=
  ⟨by rw [show (dropS s).es = s.es from rfl, h.es, List.map_map]; rfl, fun r hr => by
    obtain ⟨q, _, rfl⟩ := List.mem_map.1 hr
    simp [clr, dropS]⟩
theorem Sim.dropN {s : St} {l : List RE} (h : Sim s l) (hw : WF s) (hn : s.out.Nodup) : s.out.length = outN l := by
  have h1 : outN l = ((l.map (·.1)).filter fun x => decide (x ∈ s.out)).length := by
    unfold outN
    rw [List.filter_map, List.length_map]
    congr 1
    exact List.filter_congr fun r hr => h.flag r hr
  rw [h1, ← h.ids]
  have hd : ((s.es.map (·.1)).filter fun x => decide (x ∈ s.out)).Nodup := hw.nod.filter _
  have a := len_of_sub s.out _ hn (fun x hx => List.mem_filter.2 ⟨hw.sub x hx, decide_eq_true hx⟩)
  have b := len_of_sub _ s.out hd (fun x hx => by simpa using (List.mem_filter.1 hx).2)
  omega
theorem Sim.missed {s : St} {l : List RE} (h : Sim s l) (b : Bool) : Sim { s with missed := b } l := ⟨h.es, h.flag⟩
theorem Sim.grow {s : St} {l : List RE} (h : Sim s l) (hw : WF s) {x : List Int} (hx : x ∉ s.es.map (·.1)) (d t : Int) : Sim { s with es := s.es ++ [(x, d, t)] } (l ++ [(x, d, t, false)]) :=
  ⟨by show s.es ++ _ = _; rw [h.es, List.map_append]; rfl, fun r hr => by
    rcases List.mem_append.1 hr with hr | hr
    · exact h.flag r hr
    · simp at hr; subst hr
      exact (decide_eq_false (fun hm => hx (hw.sub x hm))).symm⟩
theorem Sim.cut {s : St} {l : List RE} (h : Sim s l) (hw : WF s) (hn : s.out.Nodup) {i : Nat} {r : RE} (hr : l[i]? = some r) : Sim (cutE s i r.1) (l.eraseIdx i) := by
  refine ⟨?_, fun q hq => ?_⟩
  · show s.es.eraseIdx i = _
    rw [h.es]; simp [List.eraseIdx_eq_take_drop_succ]
  · show q.2.2.2 = decide (q.1 ∈ s.out.erase r.1)
    have h1 := h.flag q (List.mem_of_mem_eraseIdx hq)
    have hne : q.1 ≠ r.1 := fun e => by
      obtain ⟨j, hj, hji, hjq⟩ := List.mem_eraseIdx_iff_getElem.1 hq
      obtain ⟨hi, hir⟩ := List.getElem?_eq_some_iff.1 hr
      have hnod : (l.map (·.1)).Nodup := by rw [← h.ids]; exact hw.nod
      have e1 : (l.map (·.1))[j]'(by simpa using hj) = (l.map (·.1))[i]'(by simpa using hi) := by simp [hjq, hir, e]
      exact hji ((List.getElem_inj hnod).1 e1)
    rw [h1]
    simp [hn.mem_erase_iff, hne]
end Go.Proofs.Ytbhibodgbgndbaa.B
/- The reference's calls, told by the plain state. No condition. -/
namespace Go.Proofs.Ytbhibodgbgndbaa.B
open Go Go.RowKit Go.Proofs
set_option linter.unusedVariables false
set_option linter.unusedSimpArgs false

/-- The reference's value of a state. -/
def RBs (s : St) (v : Value) : Value := .agg (rbV s.cap s.wait s.missed v)
/-- What the reference's row tells of a state. -/
structure RV (W : World) (s : St) (l : List RE) (v : Value) : Prop where
  own : W.ownsRow 0 98 35 v l.length (resL l)
  sim : Sim s l
theorem RV.below {W W' : World} {s : St} {l : List RE} {v : Value} (h : RV W s l v) (hb : Below W.heap.size W W') : RV W' s l v := ⟨own_below h.own hb, h.sim⟩
theorem RV.l32 {W : World} {s : St} {l : List RE} {v : Value} (h : RV W s l v) (hw : WF s) : ∀ r ∈ l, r.1.length = 32 := fun r hr =>
  hw.l32 (rE r) (by rw [h.sim.es]; exact List.mem_map.2 ⟨r, hr, rfl⟩)
theorem RV.len {W : World} {s : St} {l : List RE} {v : Value} (h : RV W s l v) (hw : WF s) : l.length ≤ 1000000 := by rw [← h.sim.len]; exact hw.len
theorem RV.no {W : World} {s : St} {l : List RE} {v : Value} (h : RV W s l v) {x : List Int} (hx : x ∉ s.es.map (·.1)) : idxOf (l.map rE) x = -1 := by rw [← h.sim.es]; exact idxGo_no x _ 0 hx
theorem RV.yes {W : World} {s : St} {l : List RE} {v : Value} (h : RV W s l v) {x : List Int} (hx : x ∈ s.es.map (·.1)) : ∃ (i : Nat) (r : RE), idxOf (l.map rE) x = (i : Int) ∧ l[i]? = some r ∧ r.1 = x ∧ i < l.length ∧ idxOf s.es x = (i : Int) := by
  obtain ⟨i, e, h1, h2, h3⟩ := idx_some x s.es 0 hx
  rw [h.sim.es, List.getElem?_map] at h2
  obtain ⟨r, hr, rfl⟩ := Option.map_eq_some_iff.1 h2
  have h4 : idxOf s.es x = (i : Int) := by rw [Nat.zero_add] at h1; exact h1
  exact ⟨i, r, by rw [← h.sim.es]; exact h4, hr, h3, (List.getElem?_eq_some_iff.1 hr).1, h4⟩
theorem Sim.put {s : St} {l : List RE} (h : Sim s l) (hw : WF s) {i : Nat} {r : RE} (hr : l[i]? = some r) (hf : r.1 ∉ s.out) : Sim { s with out := putO r.1 s.out } (l.set i (r.1, r.2.1, r.2.2.1, true)) := by
  obtain ⟨hi, hri⟩ := List.getElem?_eq_some_iff.1 hr
  refine ⟨?_, fun q hq => ?_⟩
  · show s.es = _
    rw [h.es, List.map_set]
    apply List.ext_getElem?
    intro j
    rw [List.getElem?_set]
    by_cases hj : i = j
    · subst hj
      rw [if_pos rfl, List.getElem?_map, hr]; simp [hi, rE]
    · rw [if_neg hj]
  · unfold putO
    rw [if_neg hf]
    obtain ⟨j, hj⟩ := List.mem_iff_getElem?.1 hq
    rw [List.getElem?_set] at hj
    by_cases hji : i = j
    · subst hji
      rw [if_pos rfl] at hj
      simp [hi] at hj
      subst hj
      simp
    · rw [if_neg hji] at hj
      have h1 := h.flag q (List.mem_iff_getElem?.2 ⟨j, hj⟩)
      have hne : q.1 ≠ r.1 := fun e => by
        have hnod : (l.map (·.1)).Nodup := by rw [← h.ids]; exact hw.nod
        obtain ⟨hj1, hj2⟩ := List.getElem?_eq_some_iff.1 hj
        have e1 : (l.map (·.1))[j]'(by simpa using hj1) = (l.map (·.1))[i]'(by simpa using hi) := by simp [hj2, hri, e]
        exact hji ((List.getElem_inj hnod).1 e1).symm
      rw [h1]; simp [hne]
section
variable {W : World} {s : St} {l : List RE} {v : Value} (h : RV W s l v) (hw : WF s) (hnd : s.out.Nodup)
include h hw
theorem rv_off {x : List Int} (hx : Idok x) (now : Int) : Calls Try.prog 50 #[RBs s v, .int .i64 0, .agg (idC x), .int .i64 now] W fun e w' => ∃ v' l', e = .returned (.tuple #[RBs (offS s x).1 v', .int .i64 (offS s x).2]) ∧ RV w' (offS s x).1 l' v' ∧ Below W.heap.size W w' := by
  obtain ⟨A, c, rfl⟩ := own_slice h.own
  unfold offS findS
  by_cases hm : x ∈ s.es.map (·.1)
  · rw [if_pos hm]
    obtain ⟨i, r, h1, h2, h3, h4, h5⟩ := h.yes hm
    have hfl := h.sim.flag r (List.mem_of_getElem? h2)
    by_cases ho : x ∈ s.out
    · rw [if_neg (show ¬ decide (x ∈ s.out) = false by simp [ho]), if_neg (show ¬ ((0 : Int), (10 : Int)).2 = 0 by decide)]
      refine (rchg_st s.cap s.wait s.missed A c l (h.l32 hw) (h.len hw) x hx.1 0 now W h.own (by decide) i h1 r h2 true (by rw [hfl, h3]; exact decide_eq_true ho) (by decide)).mono ?_
      rintro e w' ⟨rfl, hb⟩
      exact ⟨_, l, rfl, h.below hb, hb⟩
    · rw [if_pos (decide_eq_false ho), if_pos rfl]
      refine (rchg_off s.cap s.wait s.missed A c l (h.l32 hw) (h.len hw) x hx.1 now W h.own i h1 r h2 (by rw [hfl, h3]; exact decide_eq_false ho)).mono ?_
      rintro e w' ⟨v', rfl, ho', hb⟩
      refine ⟨v', _, rfl, ⟨by rw [List.length_set]; exact ho', ?_⟩, hb⟩
      have := h.sim.put hw h2 (by rw [h3]; exact ho)
      rw [h3] at this; rw [h3]; exact this
  · rw [if_neg hm, if_neg (by decide)]
    refine (rchg_nf s.cap s.wait s.missed A c l (h.l32 hw) (h.len hw) x hx.1 0 now W h.own (by decide) (h.no hm)).mono ?_
    rintro e w' ⟨rfl, hb⟩
    exact ⟨_, l, rfl, h.below hb, hb⟩
include hnd
theorem rv_ans {x : List Int} (hx : Idok x) (now : Int) : Calls Try.prog 50 #[RBs s v, .int .i64 1, .agg (idC x), .int .i64 now] W fun e w' => ∃ v' l', e = .returned (.tuple #[RBs (ansS s x).1 v', .int .i64 (ansS s x).2]) ∧ RV w' (ansS s x).1 l' v' ∧ Below W.heap.size W w' := by
  obtain ⟨A, c, rfl⟩ := own_slice h.own
  unfold ansS findS
  by_cases hm : x ∈ s.es.map (·.1)
  · rw [if_pos hm]
    obtain ⟨i, r, h1, h2, h3, h4, h5⟩ := h.yes hm
    have hfl := h.sim.flag r (List.mem_of_getElem? h2)
    by_cases ho : x ∈ s.out
    · rw [if_pos (decide_eq_true ho), if_pos rfl, h5]
      refine (rchg_ans s.cap s.wait s.missed A c l (h.l32 hw) (h.len hw) x hx.1 now W h.own i h1 r h2 (by rw [hfl, h3]; exact decide_eq_true ho)).mono ?_
      rintro e w' ⟨v', rfl, ho', hb⟩
      refine ⟨v', _, rfl, ⟨by rw [List.length_eraseIdx_of_lt h4]; exact ho', ?_⟩, hb⟩
      have := h.sim.cut hw hnd h2
      rw [h3] at this; exact this
    · rw [if_neg (show ¬ decide (x ∈ s.out) = true by simp [ho]), if_neg (show ¬ ((0 : Int), (10 : Int)).2 = 0 by decide)]
      refine (rchg_st s.cap s.wait s.missed A c l (h.l32 hw) (h.len hw) x hx.1 1 now W h.own (by decide) i h1 r h2 false (by rw [hfl, h3]; exact decide_eq_false ho) (by decide)).mono ?_
      rintro e w' ⟨rfl, hb⟩
      exact ⟨_, l, rfl, h.below hb, hb⟩
  · rw [if_neg hm, if_neg (by decide)]
    refine (rchg_nf s.cap s.wait s.missed A c l (h.l32 hw) (h.len hw) x hx.1 1 now W h.own (by decide) (h.no hm)).mono ?_
    rintro e w' ⟨rfl, hb⟩
    exact ⟨_, l, rfl, h.below hb, hb⟩
theorem rv_lat {x : List Int} (hx : Idok x) (now : Int) (htr : ∀ e ∈ s.es, 0 ≤ e.2.2 ∧ e.2.2 ≤ 1000) : Calls Try.prog 50 #[RBs s v, .int .i64 2, .agg (idC x), .int .i64 now] W fun e w' => ∃ v' l', e = .returned (.tuple #[RBs (latS s x now).1 v', .int .i64 (latS s x now).2]) ∧ RV w' (latS s x now).1 l' v' ∧ Below W.heap.size W w' := by
  obtain ⟨A, c, rfl⟩ := own_slice h.own
  unfold latS
  by_cases hm1 : minB now = false
  · rw [if_pos (.inl hm1)]
    refine (rchg_r1 s.cap s.wait s.missed A c l (h.l32 hw) (h.len hw) x hx.1 2 now W h.own (by decide) hm1).mono ?_
    rintro e w' ⟨rfl, hb⟩
    exact ⟨_, l, rfl, h.below hb, hb⟩
  have hm1' : minB now = true := by simpa using hm1
  have hwr : IntKind.wrap .i64 (now + s.wait) = now + s.wait := by
    have h1 := hw.wait1
    have h2 := hw.wait2
    simp [minB] at hm1'
    exact wrap_i64 _ (by omega) (by omega)
  by_cases hm2 : minB (now + s.wait) = false
  · rw [if_pos (.inr hm2)]
    refine (rchg_r2 s.cap s.wait s.missed A c l (h.l32 hw) (h.len hw) x hx.1 2 now W h.own (by decide) hm1' hm2 hwr).mono ?_
    rintro e w' ⟨rfl, hb⟩
    exact ⟨_, l, rfl, h.below hb, hb⟩
  have hm2' : minB (now + s.wait) = true := by simpa using hm2
  rw [if_neg (by simp [hm1, hm2])]
  unfold findS
  by_cases hm : x ∈ s.es.map (·.1)
  · rw [if_pos hm]
    obtain ⟨i, r, h1, h2, h3, h4, h5⟩ := h.yes hm
    have hfl := h.sim.flag r (List.mem_of_getElem? h2)
    by_cases ho : x ∈ s.out
    · rw [if_pos (decide_eq_true ho), if_pos rfl, h5]
      have hri : rE r ∈ s.es := by rw [h.sim.es]; exact List.mem_map.2 ⟨r, List.mem_of_getElem? h2, rfl⟩
      have ht := htr (rE r) hri
      have hw2 : IntKind.wrap .i64 (r.2.2.1 + 1) = r.2.2.1 + 1 := wrap_i64 _ (by have h0 : 0 ≤ r.2.2.1 := ht.1; omega) (by have h0 : r.2.2.1 ≤ 1000 := ht.2; omega)
      refine (rchg_mov s.cap s.wait s.missed A c l (h.l32 hw) (h.len hw) x hx.1 now W h.own hm1' hm2' hwr i h1 r h2 (by rw [hfl, h3]; exact decide_eq_true ho) hw2).mono ?_
      rintro e w' ⟨v', rfl, ho', hb⟩
      have hg : s.es.getD (i : Int).toNat ([], 0, 0) = rE r := by rw [h.sim.es]; simp [List.getD_eq_getElem?_getD, h2]
      have hcut := h.sim.cut hw hnd h2
      refine ⟨v', l.eraseIdx i ++ [(r.1, now + s.wait, r.2.2.1 + 1, false)], rfl, ⟨by rw [List.length_append, List.length_eraseIdx_of_lt h4]; exact ho', ?_, fun q hq => ?_⟩, hb⟩
      · show s.es.eraseIdx (i : Int).toNat ++ _ = _
        have he := hcut.es
        have he2 : s.es.eraseIdx i = (l.eraseIdx i).map rE := he
        rw [hg, List.map_append, ← he2, Int.toNat_natCast]
        have h9 : wrap64 (r.2.2.1 + 1) = r.2.2.1 + 1 := by have h0 : 0 ≤ r.2.2.1 := ht.1; have h0 : r.2.2.1 ≤ 1000 := ht.2; unfold wrap64; omega
        show _ ++ [(x, now + s.wait, wrap64 (r.2.2.1 + 1))] = _
        rw [h9]
        simp [rE, h3]
      · show q.2.2.2 = decide (q.1 ∈ s.out.erase x)
        rcases List.mem_append.1 hq with hq | hq
        · have := hcut.flag q hq
          rw [h3] at this; exact this
        · simp at hq; subst hq
          refine (decide_eq_false ?_).symm
          rw [h3, hnd.mem_erase_iff]
          exact fun h => h.1 rfl
    · rw [if_neg (show ¬ decide (x ∈ s.out) = true by simp [ho]), if_neg (show ¬ ((0 : Int), (10 : Int)).2 = 0 by decide)]
      refine (rchg_st2 s.cap s.wait s.missed A c l (h.l32 hw) (h.len hw) x hx.1 2 now W h.own (by decide) hm1' hm2' hwr i h1 r h2 false (by rw [hfl, h3]; exact decide_eq_false ho) (by decide)).mono ?_
      rintro e w' ⟨rfl, hb⟩
      exact ⟨_, l, rfl, h.below hb, hb⟩
  · rw [if_neg hm, if_neg (by decide)]
    refine (rchg_nf2 s.cap s.wait s.missed A c l (h.l32 hw) (h.len hw) x hx.1 2 now W h.own (by decide) hm1' hm2' hwr (h.no hm)).mono ?_
    rintro e w' ⟨rfl, hb⟩
    exact ⟨_, l, rfl, h.below hb, hb⟩
theorem rv_rem {x : List Int} (hx : Idok x) : Calls Try.prog 52 #[RBs s v, .agg (idC x)] W fun e w' => ∃ v' l', e = .returned (.tuple #[RBs (remS s x).1 v', .bool (remS s x).2]) ∧ RV w' (remS s x).1 l' v' ∧ Below W.heap.size W w' := by
  obtain ⟨A, c, rfl⟩ := own_slice h.own
  unfold remS
  by_cases hm : x ∈ s.es.map (·.1)
  · rw [if_pos hm]
    obtain ⟨i, r, h1, h2, h3, h4, h5⟩ := h.yes hm
    rw [h5]
    refine (rrem_yes s.cap s.wait s.missed A l.length c l (h.l32 hw) (h.len hw) x hx.1 i h1 h4 W h.own).mono ?_
    rintro e w' ⟨v', rfl, ho', hb⟩
    refine ⟨v', _, rfl, ⟨by rw [List.length_eraseIdx_of_lt h4]; exact ho', ?_⟩, hb⟩
    have := h.sim.cut hw hnd h2
    rw [h3] at this; exact this
  · rw [if_neg hm]
    refine (rrem_no s.cap s.wait s.missed A l.length c l (h.l32 hw) (h.len hw) x hx.1 (h.no hm) W h.own).mono ?_
    rintro e w' ⟨rfl, hb⟩
    exact ⟨_, l, rfl, h.below hb, hb⟩
omit hnd
theorem rv_add {x : List Int} (hx : Idok x) (due : Int) : Calls Try.prog 51 #[RBs s v, .agg (idC x), .int .i64 due] W fun e w' => ∃ v' l', e = .returned (.tuple #[RBs (addS s x due).1 v', .int .i64 (addS s x due).2]) ∧ RV w' (addS s x due).1 l' v' ∧ Below W.heap.size W w' := by
  obtain ⟨A, c, rfl⟩ := own_slice h.own
  unfold addS
  by_cases hz : x = zeroId
  · rw [if_pos hz]
    refine (radd_zero s.cap s.wait s.missed A l.length c l (h.l32 hw) (h.len hw) x hx.1 due W h.own hz).mono ?_
    rintro e w' ⟨rfl, hb⟩
    exact ⟨_, l, rfl, h.below hb, hb⟩
  rw [if_neg hz]
  by_cases hd : minB due = false
  · rw [if_pos hd]
    refine (radd_range s.cap s.wait s.missed A l.length c l (h.l32 hw) (h.len hw) x hx.1 due W h.own hz hd).mono ?_
    rintro e w' ⟨rfl, hb⟩
    exact ⟨_, l, rfl, h.below hb, hb⟩
  rw [if_neg hd]
  have hd' : minB due = true := by simpa using hd
  by_cases hm : x ∈ s.es.map (·.1)
  · rw [if_pos hm]
    obtain ⟨i, r, h1, h2, h3, h4, h5⟩ := h.yes hm
    refine (radd_dup s.cap s.wait s.missed A l.length c l (h.l32 hw) (h.len hw) x hx.1 due W h.own hz hd' i h1).mono ?_
    rintro e w' ⟨rfl, hb⟩
    exact ⟨_, l, rfl, h.below hb, hb⟩
  rw [if_neg hm]
  by_cases hf : s.cap ≤ (s.es.length : Int)
  · rw [if_pos hf]
    refine (radd_full s.cap s.wait s.missed A c l (h.l32 hw) (h.len hw) x hx.1 due W h.own hz hd' (h.no hm) (by rw [← h.sim.len]; exact hf)).mono ?_
    rintro e w' ⟨rfl, hb⟩
    exact ⟨_, l, rfl, ⟨own_below h.own hb, h.sim.missed true⟩, hb⟩
  · rw [if_neg hf]
    refine (radd_ok s.cap s.wait s.missed A c l (h.l32 hw) (h.len hw) x hx.1 due W h.own hz hd' (h.no hm) (by rw [← h.sim.len]; omega)).mono ?_
    rintro e w' ⟨v', rfl, ho', hb⟩
    exact ⟨v', _, rfl, ⟨own_len ho', h.sim.grow hw hm due 0⟩, hb⟩
theorem rv_drop (hnd : s.out.Nodup) : Calls Try.prog 39 #[RBs s v] W fun e w' => ∃ v' l', e = .returned (.tuple #[RBs (dropS s) v', .int .i64 (s.out.length : Int)]) ∧ RV w' (dropS s) l' v' ∧ Below W.heap.size W w' := by
  refine (rdrop_is s.cap s.wait s.missed v l (h.l32 hw) (h.len hw) W h.own).mono ?_
  rintro e w' ⟨v', rfl, ho', hb⟩
  exact ⟨v', _, by rw [h.sim.dropN hw hnd]; rfl, ⟨by rw [List.length_map]; exact ho', h.sim.drop⟩, hb⟩
theorem rv_next (now most : Int) : Calls Try.prog 55 #[RBs s v, .int .i64 now, .int .i64 most] W fun e w' => ∃ v', e = .returned v' ∧ w'.ownsRow W.heap.size 29 32 v' (nextG s.out now most s.es []).length (idsL (nextG s.out now most s.es [])) ∧ Below W.heap.size W w' := by
  rw [h.sim.next]
  exact rnext_is s.cap s.wait s.missed v l (h.l32 hw) (h.len hw) now most W h.own
end
/-- The two scans. -/
theorem sim_scan {s : St} (cap now : Int) : ∀ (xs : List (List Int)) (es : List Ent) (l : List RE) (n : Int), es = l.map rE → (∀ r ∈ l, r.2.2.2 = decide (r.1 ∈ s.out)) → (∀ x ∈ s.out, x ∈ es.map (·.1)) →
    (scanG cap now xs es n).1 = (rscanG cap now xs l n).1.map rE ∧ (scanG cap now xs es n).2 = (rscanG cap now xs l n).2 ∧ ∀ r ∈ (rscanG cap now xs l n).1, r.2.2.2 = decide (r.1 ∈ s.out)
  | [], es, l, n, he, hf, _ => ⟨he, rfl, hf⟩
  | x :: xs, es, l, n, he, hf, hs => by
    have hi : es.map (·.1) = l.map (·.1) := by rw [he, ids_map]
    rw [scanG, rscanG, hi]
    by_cases h1 : x = zeroId ∨ x ∈ l.map (·.1)
    · rw [if_pos h1, if_pos h1]; exact sim_scan cap now xs es l n he hf hs
    · rw [if_neg h1, if_neg h1]
      have hlen : es.length = l.length := by rw [he, List.length_map]
      rw [hlen]
      by_cases h2 : cap ≤ (l.length : Int)
      · rw [if_pos h2, if_pos h2]; exact ⟨he, rfl, hf⟩
      · rw [if_neg h2, if_neg h2]
        refine sim_scan cap now xs _ _ _ (by rw [he, List.map_append]; rfl) (fun r hr => ?_) (fun y hy => by rw [List.map_append, List.mem_append]; exact .inl (hs y hy))
        rcases List.mem_append.1 hr with hr | hr
        · exact hf r hr
        · simp at hr; subst hr
          exact (decide_eq_false (fun hm => h1 (.inr (by rw [← hi]; exact hs x hm)))).symm
theorem rv_scan {W : World} {s : St} {l : List RE} {v : Value} (h : RV W s l v) (hw : WF s) (ids : List (List Int)) (hid : ∀ x ∈ ids, Idok x) (hlen : ids.length ≤ 1000) (B : Option Addr) (C gb off : Nat) (hB : 0 < ids.length → B = some ⟨gb, off, none⟩) (hc : ∀ (i : Nat) (x : List Int), ids[i]? = some x → W.rangeAt gb (off + i * 32) (x.map (Value.int .u8))) (now : Int) :
    Calls Try.prog 53 #[RBs s v, .slice B ids.length C, .int .i64 now] W fun e w' => ∃ v' l', e = .returned (.tuple #[RBs (scanS s ids now).1 v', .int .i64 (scanS s ids now).2.1, .bool (scanS s ids now).2.2]) ∧ RV w' (scanS s ids now).1 l' v' ∧ Below W.heap.size W w' := by
  obtain ⟨A, c, rfl⟩ := own_slice h.own
  unfold scanS
  by_cases hm : minB now = false
  · rw [if_pos hm]
    refine (rscan_min s.cap s.wait s.missed A l.length c _ now hm W).mono ?_
    rintro e w' ⟨rfl, hb⟩
    exact ⟨_, l, rfl, h.below hb, hb⟩
  · rw [if_neg hm]
    obtain ⟨q1, q2, q3⟩ := sim_scan (s := s) s.cap now ids s.es l 0 h.sim.es h.sim.flag hw.sub
    have hw4 := hw.few
    have hw5 := hw.cap2
    have hl5 := h.sim.len
    refine (rscan_is s.cap s.wait s.missed A c l (h.l32 hw) B C ids (fun x hx => (hid x hx).1) (by omega) now (by simpa using hm) W h.own gb off hB hc).mono ?_
    rintro e w' ⟨v', rfl, ho', hb⟩
    exact ⟨v', _, by rw [q2]; rfl, ⟨ho', q1, q3⟩, hb⟩
end Go.Proofs.Ytbhibodgbgndbaa.B
/- What the law's do keeps. No condition. -/
namespace Go.Proofs.Ytbhibodgbgndbaa.B
open Go Go.RowKit Go.Proofs
set_option linter.unusedVariables false
set_option linter.unusedSimpArgs false
set_option linter.unusedSectionVars false

/-- The kinds of blocks that a backlog has. -/
def okT : Obj → Prop
  | .cells _ t _ => t = 80 ∨ t = 59
  | .map .. => True
  | _ => False
def Typ (W : World) (F : Nat → Prop) : Prop := ∀ k, F k → ∃ o : Obj, W.heap[k]? = some o ∧ okT o
theorem BL.typ {W : World} {F : Nat → Prop} {g gm : Nat} {s : St} (h : BL W F g gm s) : ∃ F', (∀ k, F' k → F k) ∧ BL W F' g gm s ∧ Typ W F' := by
  obtain ⟨v, h1, h2, h3⟩ := h.blk
  refine ⟨fun k => k = g ∨ k = gm ∨ v.ownBlock = some k, ?_, ⟨⟨v, h1, h2, fun k hk => ⟨.inr (.inr hk), (h3 k hk).2⟩⟩, h.map, .inl rfl, .inr (.inl rfl), h.ne, ?_, h.wf⟩, ?_⟩
  · rintro k (rfl | rfl | hk)
    · exact h.fg
    · exact h.fm
    · exact (h3 k hk).1
  · rintro k (rfl | rfl | hk)
    · exact h.lt k h.fg
    · exact h.lt k h.fm
    · exact h.lt k (h3 k hk).1
  · rintro k (rfl | rfl | hk)
    · exact ⟨_, h1, .inl rfl⟩
    · obtain ⟨D, ⟨es, clock, hb, _⟩, _⟩ := h.map.own
      exact ⟨_, hb, trivial⟩
    · rcases h2.2 with ⟨rfl, _⟩ | ⟨g', cap, cur, rfl, _, hg, _⟩
      · simp [Value.ownBlock] at hk
      · simp [Value.ownBlock] at hk; subst hk
        exact ⟨_, hg, .inr rfl⟩
theorem Typ.no {W : World} {F : Nat → Prop} (h : Typ W F) {k : Nat} {c : Array Value} {t : TypeId} {fr : Nat × Nat} (hk : W.heap[k]? = some (.cells c t fr)) (h1 : t ≠ 80) (h2 : t ≠ 59) : ¬ F k := fun hF => by
  obtain ⟨o, ho, hc⟩ := h k hF
  rw [hk] at ho; cases ho
  rcases hc with h | h
  · exact h1 h
  · exact h2 h
/-- A backlog with its blocks, of these kinds alone; w: the world where the call began. -/
structure Dp (w : World) (F0 : Nat → Prop) (W : World) (F : Nat → Prop) (g gm : Nat) (s : St) : Prop where
  bl : BL W F g gm s
  typ : Typ W F
  sub : ∀ k, F k → F0 k ∨ w.heap.size ≤ k
  upd : Upd F0 w W
section
variable {w W W' : World} {F0 F : Nat → Prop} {g gm : Nat} {s s' : St}
theorem Dp.start (h : BL w F0 g gm s) : ∃ F, Dp w F0 w F g gm s := by
  obtain ⟨F, h1, h2, h3⟩ := h.typ
  exact ⟨F, h2, h3, fun k hk => .inl (h1 k hk), .refl _ _⟩
theorem Dp.read (h : Dp w F0 W F g gm s) (hb : Below W.heap.size W W') : Dp w F0 W' F g gm s :=
  ⟨h.bl.below hb, fun k hk => by
    obtain ⟨o, ho, hc⟩ := h.typ k hk
    exact ⟨o, (hb.block k (h.bl.lt k hk)).trans ho, hc⟩, h.sub, h.upd.trans (.of_below (F := F0) hb) (fun k hk => .inl hk)⟩
/-- Behind a call that writes the backlog. -/
theorem Dp.call (h : Dp w F0 W F g gm s) (ha : After F g gm W W' s') : ∃ F', Dp w F0 W' F' g gm s' := by
  obtain ⟨F1, k1, k2, k3⟩ := ha
  obtain ⟨F2, m1, m2, m3⟩ := k1.typ
  have hs := h.upd.size
  exact ⟨F2, m2, m3, fun k hk => (k2 k (m1 k hk)).elim (fun h1 => h.sub k h1) (fun h1 => .inr (by omega)), h.upd.trans k3 (fun k hk => h.sub k hk)⟩
/-- .. and other blocks stand. -/
theorem Dp.keep (h : Dp w F0 W F g gm s) (ha : After F g gm W W' s') {k : Nat} {c : Array Value} {t : TypeId} {fr : Nat × Nat} (hk : W.heap[k]? = some (.cells c t fr)) (h1 : t ≠ 80) (h2 : t ≠ 59) : W'.heap[k]? = some (.cells c t fr) := by
  obtain ⟨F1, k1, k2, k3⟩ := ha
  exact (k3.block k (Array.getElem?_eq_some_iff.1 hk).1 (h.typ.no hk h1 h2)).trans hk
theorem Dp.own (h : Dp w F0 W F g gm s) (ha : After F g gm W W' s') {b n sz : Nat} {e : TypeId} {v : Value} {xs : List Value} (ho : W.ownsRow b e sz v n xs) (h1 : e ≠ 80) (h2 : e ≠ 59) : W'.ownsRow b e sz v n xs := own_kept ho (fun k hk => by
  rcases ho.2 with ⟨rfl, _⟩ | ⟨g', cap, cur, rfl, _, hg, _⟩
  · simp [Value.ownBlock] at hk
  · simp [Value.ownBlock] at hk; subst hk
    rw [h.keep ha hg h1 h2, hg])
theorem Dp.after (h : Dp w F0 W F g gm s) : After F0 g gm w W s := ⟨F, h.bl, h.sub, h.upd⟩
/-- Behind a store into a variable. -/
theorem Dp.setRow (h : Dp w F0 W F g gm s) (h0 : ∀ k, F0 k → k < w.heap.size) {M : Nat} {c d : Array Value} (hM : BVar W M c) (hw : w.heap.size ≤ M) : Dp w F0 (W.setRow M d) F g gm s := by
  have hn : ∀ k, F k → k ≠ M := fun k hk e => h.typ.no (e ▸ hM.1) (by decide) (by decide) hk
  refine ⟨h.bl.kept (fun k hk => setRow_other _ _ _ _ (hn k hk)), fun k hk => ?_, h.sub, h.upd.os, h.upd.tape, h.upd.output, by simpa [World.setRow] using h.upd.size, fun k hk hF => ?_⟩
  · rw [setRow_other _ _ _ _ (hn k hk)]; exact h.typ k hk
  · rw [setRow_other _ _ _ _ (by omega)]; exact h.upd.block k hk hF
end
/-- The cells of an operation. -/
def opCs (o : OpV) (A : Option Addr) (C : Nat) : List Value := .int .i64 o.kind :: (o.id.map (Value.int .u8) ++ [.int .i64 o.now, .int .i64 o.most, .slice A o.ids.length C])
/-- The variables of the law's do: the reference's backlog, the operation, the result's backlog, the identity. -/
structure Dv (w W : World) (o : OpV) (A : Option Addr) (C : Nat) (c d : Array Value) : Prop where
  b4 : BVar W w.heap.size c
  b5 : W.heap[w.heap.size + 1]? = some (.cells (opCs o A C).toArray 33 (0, 0))
  b6 : BVar W (w.heap.size + 1 + 1) d
  b8 : W.heap[w.heap.size + 1 + 1 + 1]? = some (.cells (idC o.id) 30 (0, 0))
section
variable {w W W' : World} {o : OpV} {A : Option Addr} {C : Nat} {c d : Array Value}
theorem Dv.of (h : Dv w W o A C c d) (hk : ∀ (k : Nat) (cs : Array Value) (t : TypeId) (fr : Nat × Nat), W.heap[k]? = some (Obj.cells cs t fr) → t ≠ 80 → t ≠ 59 → W'.heap[k]? = some (Obj.cells cs t fr)) : Dv w W' o A C c d :=
  ⟨⟨hk _ _ _ _ h.b4.1 (by decide) (by decide), h.b4.2⟩, hk _ _ _ _ h.b5 (by decide) (by decide), ⟨hk _ _ _ _ h.b6.1 (by decide) (by decide), h.b6.2⟩, hk _ _ _ _ h.b8 (by decide) (by decide)⟩
theorem Dv.read (h : Dv w W o A C c d) (hb : Below W.heap.size W W') : Dv w W' o A C c d := h.of (fun k cs t fr hk _ _ => (hb.block k (Array.getElem?_eq_some_iff.1 hk).1).trans hk)
theorem Dv.call (h : Dv w W o A C c d) {F0 F : Nat → Prop} {g gm : Nat} {s s' : St} (hp : Dp w F0 W F g gm s) (ha : After F g gm W W' s') : Dv w W' o A C c d := h.of (fun k cs t fr hk h1 h2 => hp.keep ha hk h1 h2)
theorem Dv.set4 (h : Dv w W o A C c d) {e : Array Value} (he : e.size = 4) (h1 : e.all (·.oneCell') = true) : Dv w (W.setRow w.heap.size e) o A C e d :=
  ⟨h.b4.set he h1, (setRow_other _ _ _ _ (by omega)).trans h.b5, h.b6.other (by omega), (setRow_other _ _ _ _ (by omega)).trans h.b8⟩
theorem Dv.set6 (h : Dv w W o A C c d) {e : Array Value} (he : e.size = 4) (h1 : e.all (·.oneCell') = true) : Dv w (W.setRow (w.heap.size + 1 + 1) e) o A C c e :=
  ⟨h.b4.other (by omega), (setRow_other _ _ _ _ (by omega)).trans h.b5, h.b6.set he h1, (setRow_other _ _ _ _ (by omega)).trans h.b8⟩
theorem Dv.lt (h : Dv w W o A C c d) : w.heap.size + 1 + 1 + 1 < W.heap.size := (Array.getElem?_eq_some_iff.1 h.b8).1
theorem opCs_id (o : OpV) (A : Option Addr) (C : Nat) (j : Nat) (u : Value) (hu : (o.id.map (Value.int .u8))[j]? = some u) : (opCs o A C)[1 + j]? = some u := by
  have hj := (List.getElem?_eq_some_iff.1 hu).1
  rw [opCs, Nat.add_comm, List.getElem?_cons_succ, List.getElem?_append_left hj]; exact hu
theorem opCs_at (o : OpV) (A : Option Addr) (C : Nat) (hx : o.id.length = 32) : (opCs o A C)[0]? = some (.int .i64 o.kind) ∧ (opCs o A C)[33]? = some (.int .i64 o.now) ∧ (opCs o A C)[34]? = some (.int .i64 o.most) ∧ (opCs o A C)[35]? = some (.slice A o.ids.length C) := by
  refine ⟨rfl, ?_, ?_, ?_⟩ <;> (rw [opCs, List.getElem?_cons_succ, List.getElem?_append_right (by simp [hx])]; simp [hx])
theorem opCs_len (o : OpV) (A : Option Addr) (C : Nat) (hx : o.id.length = 32) : (opCs o A C).length = 36 := by simp [opCs, hx]
theorem op_cells {N : Nat} (hx : o.id.length = 32) (h : W.heap[N]? = some (.cells (opCs o A C).toArray 33 (0, 0))) :
    W.rangeAt N 1 (o.id.map (Value.int .u8)) ∧ W.cell? ⟨N, 0, none⟩ = some (.int .i64 o.kind) ∧ W.cell? ⟨N, 33, none⟩ = some (.int .i64 o.now) ∧ W.cell? ⟨N, 34, none⟩ = some (.int .i64 o.most) ∧ W.cell? ⟨N, 35, none⟩ = some (.slice A o.ids.length C) := by
  obtain ⟨h0, h1, h2, h3⟩ := opCs_at o A C hx
  refine ⟨fun j u hu => ?_, ?_, ?_, ?_, ?_⟩ <;> rw [cell_of_row _ _ _ _ 33 (0, 0) h]
  · simpa using opCs_id o A C j u hu
  · simpa using h0
  · simpa using h1
  · simpa using h2
  · simpa using h3
end
theorem RV.keep {w W W' : World} {F0 F : Nat → Prop} {g gm : Nat} {s s' sr : St} {l : List RE} {v : Value} (h : RV W sr l v) (hp : Dp w F0 W F g gm s) (ha : After F g gm W W' s') : RV W' sr l v := ⟨hp.own ha h.own (by decide) (by decide), h.sim⟩
theorem RV.setRow {W : World} {sr : St} {l : List RE} {v : Value} {M : Nat} {c d : Array Value} (h : RV W sr l v) (hM : BVar W M c) : RV (W.setRow M d) sr l v := ⟨own_setRow h.own hM, h.sim⟩
theorem own_slice98 {W : World} {s : St} {l : List RE} {v : Value} (h : RV W s l v) : ∃ A c, v = .slice A l.length c := own_slice h.own
end Go.Proofs.Ytbhibodgbgndbaa.B
