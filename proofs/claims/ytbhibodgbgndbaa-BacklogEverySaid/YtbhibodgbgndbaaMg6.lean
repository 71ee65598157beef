/- Texts of this seat, joined: Bk Sj Sk Sl Sm. No condition but those that each part names. -/
import Derived.Test.YtbhibodgbgndbaaMg5
import Derived.RangeFuncNested
import Derived.RangeFuncBound
import Derived.RangeFuncCalls
import Derived.RangeFuncLeaves
import Derived.RangeFuncBox
import Derived.Shelf.Abstract
import Derived.Shelf.RegionOpen
import Derived.OwnWalkIn
import Derived.TacticsInMore
import Derived.LoopNIn
import Derived.LoopIn
/- The law Kept. No condition. -/
namespace Go.Proofs.Ytbhibodgbgndbaa.B
open Go Go.RowKit Go.Proofs Go.Proofs.YtbhibodgbgndbaaW.PrintWords Go.Proofs.YtbhibodgbgndbaaW.PrintLast Go.Proofs.YtbhibodgbgndbaaW.PrintMore
set_option linter.unusedVariables false
set_option linter.unusedSimpArgs false

/-- What the law Kept knows of the backlog. -/
structure Kp (s : St) : Prop where
  cap : s.cap = 100
  has : idN 200 ∈ s.es.map (·.1)
  due : ∀ e ∈ s.es, e.2.1 ≤ 105190559
theorem ok200 : Idok (idN 200) := idN_ok 200 (by decide)
theorem Kp.off {s : St} (h : Kp s) (x : List Int) : Kp (offS s x).1 := by
  unfold offS; split
  · exact ⟨h.cap, h.has, h.due⟩
  · exact h
theorem Kp.drop {s : St} (h : Kp s) : Kp (dropS s) := ⟨h.cap, h.has, h.due⟩
theorem Kp.add {s : St} (h : Kp s) (x : List Int) : Kp (addS s x 6).1 := by
  unfold addS
  split
  · exact h
  split
  · exact h
  split
  · exact h
  split
  · exact ⟨h.cap, h.has, h.due⟩
  · refine ⟨h.cap, ?_, fun e he => ?_⟩
    · simp only [List.map_append, List.mem_append]; exact .inl h.has
    · rcases List.mem_append.1 he with he | he
      · exact h.due e he
      · simp at he; subst he; show (6 : Int) ≤ _; omega
theorem Kp.lat {s : St} (h : Kp s) : Kp (latS s (idN 200) 7).1 := by
  unfold latS
  split
  · exact h
  · rename_i hn
    split
    · refine ⟨h.cap, by simp, fun e he => ?_⟩
      rcases List.mem_append.1 he with he | he
      · exact h.due e (List.mem_of_mem_eraseIdx he)
      · simp at he; subst he
        simp only [not_or, Bool.not_eq_false] at hn
        have := hn.2
        simp [minB] at this
        show 7 + s.wait ≤ _
        omega
    · exact h
theorem next_all (M most : Int) : ∀ (es : List Ent) (acc : List (List Int)), (∀ e ∈ es, e.2.1 ≤ M) → (acc.length : Int) + es.length ≤ most → nextG [] M most es acc = acc ++ es.map (·.1)
  | [], acc, _, _ => by simp [nextG]
  | e :: es, acc, hd, hl => by
    simp only [List.length_cons] at hl
    unfold nextG
    rw [if_neg (by omega), if_pos ⟨hd e (by simp), by simp⟩, next_all M most es _ (fun e he => hd e (by simp [he])) (by simp; omega)]
    simp
attribute [local go_sem ↓] execOp_ld30 execOp_ld29 execOp_alc30 execOp_st30
attribute [local go_sem] run_alc30 run_st30
theorem kp0 : addS ⟨100, 2, false, [], []⟩ (idN 200) 5 = (⟨100, 2, false, [(idN 200, 5, 0)], []⟩, 0) := by kernel_rfl
theorem kpc1 {w : World} {F : Nat → Prop} {g gm : Nat} (h : BL w F g gm ⟨100, 2, false, [], []⟩) : Calls Try.prog 13 #[.pointer (some ⟨g, 0, none⟩), .agg ((idN 200).map (Value.int .u8)).toArray, .int .i64 5] w fun e w' => e = .returned (.int .i64 0) ∧ After F g gm w w' ⟨100, 2, false, [(idN 200, 5, 0)], []⟩ := by
  have := add_is h ok200 5
  rw [kp0] at this; exact this
theorem On.after {B : Nat} {w0 w w1 : World} {F : Nat → Prop} {g gm : Nat} {s : St} (h : On B w0 w F) (ha : After F g gm w w1 s) : ∃ F1, On B w0 w1 F1 ∧ BL w1 F1 g gm s := by
  obtain ⟨F1, h1, h2, h3⟩ := ha
  exact ⟨F1, h.step h2 h3, h1⟩
theorem next200 {w : World} {F : Nat → Prop} {g gm : Nat} {s : St} (h : BL w F g gm (dropS s)) (hk : Kp s) : Calls Try.prog 22 #[.pointer (some ⟨g, 0, none⟩), .int .i64 105190559, .int .i64 1000] w fun e w' => ∃ v', e = .returned v' ∧
    w'.ownsRow w.heap.size 30 32 v' (s.es.map (·.1)).length (idsL (s.es.map (·.1))) ∧ Below w.heap.size w w' := by
  have := next_is h 105190559 1000
  have hf := h.wf.few
  have hc := hk.cap
  have hf' : (s.es.length : Int) ≤ s.cap := hf
  have hq : nextG (dropS s).out 105190559 1000 (dropS s).es [] = s.es.map (·.1) := by
    have := next_all 105190559 1000 s.es [] hk.due (by simp only [List.length_nil]; omega)
    rw [List.nil_append] at this
    exact this
  rw [hq] at this
  exact this
theorem has200 {w : World} {F : Nat → Prop} {g gm : Nat} {s : St} (h : BL w F g gm s) (hk : Kp s) : Calls Try.prog 16 #[.pointer (some ⟨g, 0, none⟩), .agg ((idN 200).map (Value.int .u8)).toArray] w fun e w' => e = .returned (.bool true) ∧ Below w.heap.size w w' := by
  have := hasS h ok200
  rw [decide_eq_true hk.has] at this
  exact this
theorem contains200 {w : World} {F : Nat → Prop} {g gm : Nat} {s : St} {w0 : World} (h : BL w0 F g gm s) (hk : Kp s) {v : Value} {base : Nat} (ho : w.ownsRow base 30 32 v (s.es.map (·.1)).length (idsL (s.es.map (·.1)))) : Calls Try.prog 21 #[v, .agg ((idN 200).map (Value.int .u8)).toArray] w fun e w' => e = .returned (.bool true) ∧ Below w.heap.size w w' := by
  have h1 : ∀ x ∈ s.es.map (·.1), x.length = 32 := fun x hx => by
    obtain ⟨e, he, e1⟩ := List.mem_map.1 hx
    rw [← e1]; exact h.wf.l32 e he
  have h2 : (s.es.map (·.1)).length ≤ 1000000 := by rw [List.length_map]; exact h.wf.len
  have h3 := hk.has
  generalize s.es.map (·.1) = L at h1 h2 h3 ho
  have := contains_is L h1 h2 (idN 200) (idN_len 200) v base w ho
  rw [decide_eq_true h3] at this
  exact this
set_option maxHeartbeats 16000000 in
set_option maxRecDepth 100000 in
theorem kept_law (A : Option Addr) (C : Nat) (l : List OpV) (hl : l.length ≤ maxLen) (w : World) (h : OpsAt w A l) :
    Calls Try.prog 4 #[.slice A l.length C] w fun e w' => e = .returned (.bool true) ∧ Below w.heap.size w w' := by
  by_cases hsm : smallB l = true
  · have HO := Aside0.mk (And.intro h (And.intro hl hsm))
    clear h hl hsm
    go_enter Try.func4, Try.ntmps4
    go_wp2_with (first
      | (go_at_call 10; refine (known_is _).mono ?_; rintro e_ w0 ⟨rfl, hb0⟩)
      | (go_at_call 11; refine (small_is A C l HO.out.2.1 _ (HO.out.1.below hb0)).mono ?_; rintro e_ w1 ⟨rfl, rfl⟩; rw [HO.out.2.2])
      | (go_at_call 12; refine (newS 100 2 (by omega) (by omega) (by decide) (by decide) _).mono ?_; rintro e_ w2 ⟨g, gm, rfl, hb2, HB2, hq1, hq2⟩)
      | (go_at_call 13; refine (kpc1 HB2).mono ?_; rintro e_ w3 ⟨rfl, ha3⟩))
    have o2 : On w.heap.size w w2 (fun k => k = g ∨ k = gm) := ⟨hb0.trans (hb2.mono hb0.size), by rintro k (rfl | rfl) <;> (have := hb0.size; omega), Nat.le_trans hb0.size hb2.size⟩
    obtain ⟨F3, o3, B3⟩ := o2.after ha3
    have HR0 := Aside0.mk (And.intro o3 (And.intro B3 (show Kp ⟨100, 2, false, [(idN 200, 5, 0)], []⟩ from ⟨rfl, by simp, by simp⟩)))
    clear hb0 hb2 HB2 hq1 hq2 o2 o3 B3 ha3
    go_loopw [5] (fun p5 wr => ∃ (i : Nat) (F : Nat → Prop) (s : St), p5 = .int .i64 i ∧ Aside0 (i ≤ l.length) ∧ Aside0 (On w.heap.size w wr F ∧ BL wr F g gm s ∧ Kp s)) (fun p5 _ => l.length - (intOf p5).toNat)
    case atStart => exact ⟨0, _, _, rfl, ⟨Nat.zero_le _⟩, HR0⟩
    case round =>
      obtain ⟨i, F, s, rfl, HI, HRD⟩ := hrel
      by_cases hi : i < l.length
      · obtain ⟨o, he⟩ : ∃ o, l[i]? = some o := ⟨_, List.getElem?_eq_getElem hi⟩
        obtain ⟨a, rfl, hO⟩ := (HO.out.1.below HRD.out.1.below) i o he
        have HX := Aside0.mk hO.idok
        have HXL : Aside0 (o.id.length = 32) := ⟨hO.idok.1⟩
        have hl0 := run_ld29 wr _ _ o.id hO.idok.1 hO.id
        have hl3 := ld30_new wr o.id hO.idok.1
        have hck := cell_alloc hO.kind (.cells (idC o.id) 30)
        have hlo := HO.out.2.1
        have hm : l.length ≤ 9223372036854775807 := by simpa [maxLen] using hlo
        have p1 : (0 : Int) ≤ (i : Int) := by omega
        have p2 : (i : Int) < (l.length : Int) := by omega
        have p3 := wrap_i64 ((i : Int) + 1) (by omega) (by omega)
        have O1 := Aside0.mk (HRD.out.1.read (below_alloc (Below.refl _ _) (.cells (idC o.id) 30)))
        have B1 := HRD.out.2.1.below (below_alloc (Below.refl _ _) (.cells (idC o.id) 30))
        clear he hO hlo
        by_cases hk0 : o.kind = 0
        · rw [hk0] at hck
          clear hk0
          go_wp2_with (first | (go_at_call 18; refine (offered_is B1 ok200).mono ?_; rintro e_ w4 ⟨rfl, ha4⟩; obtain ⟨F4, o4, B4⟩ := O1.out.after ha4; have K4 := HRD.out.2.2.off (idN 200)) | (go_at_call 16; refine (has200 B4 K4).mono ?_; rintro e_ w5 ⟨rfl, hb5⟩))
          go_roundw
          case rel => exact ⟨i + 1, F4, _, by go_num, ⟨by omega⟩, ⟨o4.read hb5, B4.below hb5, K4⟩⟩
          case measure => simp [intOf]; omega
        by_cases hk1 : o.kind = 1
        · rw [hk1] at hck
          clear hk0 hk1
          go_wp2_with (first | (go_at_call 19; refine (drop_is B1).mono ?_; rintro e_ w4 ⟨rfl, ha4⟩; obtain ⟨F4, o4, B4⟩ := O1.out.after ha4; have K4 := HRD.out.2.2.drop) | (go_at_call 16; refine (has200 B4 K4).mono ?_; rintro e_ w5 ⟨rfl, hb5⟩))
          go_roundw
          case rel => exact ⟨i + 1, F4, _, by go_num, ⟨by omega⟩, ⟨o4.read hb5, B4.below hb5, K4⟩⟩
          case measure => simp [intOf]; omega
        by_cases hk2 : o.kind = 2
        · rw [hk2] at hck
          clear hk0 hk1 hk2
          go_wp2_with (first | (go_at_call 20; refine (later_is B1 ok200 7).mono ?_; rintro e_ w4 ⟨rfl, ha4⟩; obtain ⟨F4, o4, B4⟩ := O1.out.after ha4; have K4 := HRD.out.2.2.lat) | (go_at_call 16; refine (has200 B4 K4).mono ?_; rintro e_ w5 ⟨rfl, hb5⟩))
          go_roundw
          case rel => exact ⟨i + 1, F4, _, by go_num, ⟨by omega⟩, ⟨o4.read hb5, B4.below hb5, K4⟩⟩
          case measure => simp [intOf]; omega
        by_cases hk3 : o.kind = 3
        · rw [hk3] at hck
          clear hk0 hk1 hk2 hk3
          go_wp2_with (first | (go_at_call 13; refine (add_is B1 HX.out 6).mono ?_; rintro e_ w4 ⟨rfl, ha4⟩; obtain ⟨F4, o4, B4⟩ := O1.out.after ha4; have K4 := HRD.out.2.2.add o.id) | (go_at_call 16; refine (has200 B4 K4).mono ?_; rintro e_ w5 ⟨rfl, hb5⟩))
          go_roundw
          case rel => exact ⟨i + 1, F4, _, by go_num, ⟨by omega⟩, ⟨o4.read hb5, B4.below hb5, K4⟩⟩
          case measure => simp [intOf]; omega
        by_cases hk4 : o.kind = 4
        · rw [hk4] at hck
          clear hk0 hk1 hk2 hk3 hk4
          go_wp2_with (first | (go_at_call 18; refine (offered_is B1 HX.out).mono ?_; rintro e_ w4 ⟨rfl, ha4⟩; obtain ⟨F4, o4, B4⟩ := O1.out.after ha4; have K4 := HRD.out.2.2.off o.id) | (go_at_call 16; refine (has200 B4 K4).mono ?_; rintro e_ w5 ⟨rfl, hb5⟩))
          go_roundw
          case rel => exact ⟨i + 1, F4, _, by go_num, ⟨by omega⟩, ⟨o4.read hb5, B4.below hb5, K4⟩⟩
          case measure => simp [intOf]; omega
        have hn0 : (o.kind == 0) = false := by simpa using hk0
        have hn1 : (o.kind == 1) = false := by simpa using hk1
        have hn2 : (o.kind == 2) = false := by simpa using hk2
        have hn3 : (o.kind == 3) = false := by simpa using hk3
        have hn4 : (o.kind == 4) = false := by simpa using hk4
        clear hk0 hk1 hk2 hk3 hk4
        go_wp2_with (first | (go_at_call 16; refine (has200 B1 HRD.out.2.2).mono ?_; rintro e_ w5 ⟨rfl, hb5⟩))
        go_roundw
        case rel => exact ⟨i + 1, F, s, by go_num, ⟨by omega⟩, ⟨O1.out.read hb5, B1.below hb5, HRD.out.2.2⟩⟩
        case measure => simp [intOf]; omega
      · have hle := HI.out
        go_wp2_with (first
          | (go_at_call 19; refine (drop_is HRD.out.2.1).mono ?_; rintro e_ w4 ⟨rfl, ha4⟩; obtain ⟨F4, o4, B4⟩ := HRD.out.1.after ha4)
          | (go_at_call 22; refine (next200 B4 HRD.out.2.2).mono ?_; rintro e_ w5 ⟨v5, rfl, ho5, hb5⟩; have HN := Aside0.mk (And.intro ho5 hb5); clear ho5 hb5)
          | (go_at_call 21; refine (contains200 HRD.out.2.1 HRD.out.2.2 HN.out.1).mono ?_; rintro e_ w6 ⟨rfl, hb6⟩))
        go_ret
        exact ⟨rfl, ((o4.read HN.out.2).read hb6).below⟩
  · have HO := Aside0.mk (And.intro h (And.intro hl (show smallB l = false by simpa using hsm)))
    clear h hl hsm
    go_enter Try.func4, Try.ntmps4
    go_wp2_with (first
      | (go_at_call 10; refine (known_is _).mono ?_; rintro e_ w3 ⟨rfl, hb3⟩; have HB9 := hb0)
      | (go_at_call 10; refine (known_is _).mono ?_; rintro e_ w0 ⟨rfl, hb0⟩)
      | (go_at_call 11; refine (small_is A C l HO.out.2.1 _ (HO.out.1.below hb0)).mono ?_; rintro e_ w1 ⟨rfl, rfl⟩; rw [HO.out.2.2]))
    go_ret
    exact ⟨rfl, hb0.trans (hb3.mono hb0.size)⟩
end Go.Proofs.Ytbhibodgbgndbaa.B
/- slices.Values of identities: an iterator that yields them all. Condition: at most 1000000 identities. -/
namespace Go.Proofs.Ytbhibodgbgndbaa.B
open Go Go.RowKit Go.Shelf Go.Proofs Go.Proofs.YtbhibodgbgndbaaW.PrintWords Go.Proofs.YtbhibodgbgndbaaW.PrintLast Go.Proofs.YtbhibodgbgndbaaW.PrintMore
set_option linter.unusedVariables false
set_option linter.unusedSimpArgs false
set_option maxRecDepth 100000
set_option maxHeartbeats 4000000

/-- Identities as a type. -/
abbrev IdT := {x : List Int // Idok x}
/-- What a round keeps: all blocks below n₀ but those in F. -/
def KpV (n₀ : Nat) (F : Nat → Prop) (A B : World) : Prop := A.heap.size ≤ B.heap.size ∧ ∀ k, k < n₀ → ¬ F k → B.heap[k]? = A.heap[k]?
theorem kpV_t {n₀ : Nat} {F : Nat → Prop} {A B C : World} (h : KpV n₀ F A B) (k : KpV n₀ F B C) : KpV n₀ F A C := ⟨Nat.le_trans h.1 k.1, fun i hi hF => (k.2 i hi hF).trans (h.2 i hi hF)⟩
theorem kpV_b {n₀ : Nat} {F : Nat → Prop} {w : World} (hn : n₀ ≤ w.heap.size) (W : World) (l : Nat) (o o' : Obj) (hl : w.heap.size ≤ l) (h : W.heap[l]? = some o) (hc : o.isCells = false) (hw : o.isWalk = false) : KpV n₀ F W (W.putObj l o') :=
  ⟨by simp, fun k hk _ => World.putObj_heap_other (by omega)⟩
theorem kpV_below {n₀ : Nat} {F : Nat → Prop} {A B : World} (hb : Below A.heap.size A B) (hn : n₀ ≤ A.heap.size) : KpV n₀ F A B := ⟨hb.size, fun k hk _ => hb.block k (by omega)⟩

attribute [local go_sem] Oper.semAt_some
attribute [local go_sem ↓] execOp_ld30 execOp_alc30 execOp_st30
attribute [local go_sem] run_alc30 run_st30
theorem values1_in (n : Nat) (hn : 1 ≤ n) (y : Nat) (Bs n₀ gb : Nat) (F : Nat → Prop) (A : Option Addr) (c : Nat) (l : List IdT) (hlen : l.length ≤ 1000000) (J Jx : List IdT → World → Prop)
    (hJd : ∀ pre A B, J pre A → Below A.heap.size A B → J pre B)
    (hY : ∀ pre x W, J pre W → pre.length < l.length → YieldAt Fence.wide (n - 1) Try.prog y #[.agg (x.1.map (Value.int .u8)).toArray] W fun e W' =>
      (e = .returned (.bool true) ∧ J (pre ++ [x]) W' ∧ KpV n₀ F W W') ∨ (e = .returned (.bool false) ∧ Jx (pre ++ [x]) W'))
    (W : World) (hBs : W.cell? ⟨Bs, 0, none⟩ = some (.slice A l.length c)) (hA : 0 < l.length → A = some ⟨gb, 0, none⟩) (hE : IdsAt W gb (l.map (·.1))) (hg : gb < n₀) (hF : ¬ F gb) (hW : n₀ ≤ W.heap.size) (h0 : J [] W) :
    CallsIn Fence.wide n Try.prog 46 #[.func (.yield y) #[] #[], .pointer (some ⟨Bs, 0, none⟩)] W fun e W' => (∃ v, e = .returned v) ∧
      ((∃ ys, ys = l ∧ J ys W') ∨ (∃ pre, pre <+: l ∧ Jx pre W')) := by
  refine callsIn_of_wp Try.func46 rfl trivial ?_ rfl
  simp only [Try.ntmps46, List.size_toArray, List.length_cons, List.length_nil, Nat.reduceAdd, Nat.reduceSub, Array.replicate_succ, Array.replicate_zero, List.push_toArray, List.append_toArray, List.nil_append, List.cons_append]
  gi_wp2
  gi_loopw [7] (fun p wr => ∃ i : Nat, p = .int .i64 i ∧ Aside0 (i ≤ l.length) ∧ Aside0 (J (l.take i) wr) ∧ Aside0 (KpV n₀ F W wr))
    (fun p _ => l.length - (intOf p).toNat)
  case atStart => exact ⟨0, rfl, ⟨by omega⟩, ⟨h0⟩, ⟨Nat.le_refl _, fun _ _ _ => rfl⟩⟩
  case round =>
    obtain ⟨i, rfl, HI, HJ, HK⟩ := hrel
    have HC := Aside0.mk (And.intro hE (And.intro hg (And.intro hF hW)))
    clear hBs h0 hE hg hF hW
    by_cases hi : i < l.length
    · obtain ⟨x, hx⟩ : ∃ x : IdT, l[i]? = some x := ⟨_, List.getElem?_eq_getElem hi⟩
      have hA2 := hA (by omega)
      subst hA2
      obtain ⟨x, hxo⟩ := x
      have hxl := hxo.1
      have HXL : Aside0 (x.length = 32) := ⟨hxl⟩
      have hr : wr.rangeAt gb (i * 32) (x.map (Value.int .u8)) := fun j u hu => by
        have h1 := HC.out.1 i x (by rw [List.getElem?_map, hx]; rfl) j u hu
        rw [World.cell?_of_block (w := W) (HK.out.2 gb HC.out.2.1 HC.out.2.2.1)]; exact h1
      have hld : (ld30 (.pointer (some ⟨gb, i * 32, none⟩))).run Try.prog wr = .ok (.agg (x.map (Value.int .u8)).toArray) wr := run_loadAt_mid wr gb (i * 32) 30 _ _ hr Try.underlying30 rfl (by rw [List.length_map, hxl]; exact info30)
      have hl2 := ld30_new wr x hxl
      have HT := Aside0.mk (show l.take (i + 1) = l.take i ++ [⟨x, hxo⟩] from by rw [List.take_add_one, hx]; rfl)
      have HP := Aside0.mk (show (l.take i).length < l.length from by rw [List.length_take]; omega)
      have p1 : (0 : Int) ≤ (i : Int) := by omega
      have p2 : (i : Int) < (l.length : Int) := by omega
      have p3 := wrap_i64 ((i : Int) + 1) (by omega) (by omega)
      have HKa := Aside0.mk (kpV_t HK.out (kpV_below (below_alloc (Below.refl _ _) (.cells (idC x) 30)) (Nat.le_trans HC.out.2.2.2 HK.out.1)))
      obtain ⟨fn, tmps, assign, body, hy, hR⟩ := hY (l.take i) ⟨x, hxo⟩ (wr.alloc (.cells (idC x) 30)) (hJd _ _ _ HJ.out (below_alloc (Below.refl _ _) _)) HP.out
      dsimp only at hy
      clear hx hr hxl
      gi_wp2
      refine hR.mono ?_
      rintro e W3 (⟨rfl, hJ3, hk3⟩ | ⟨rfl, hJx3⟩)
      · gi_wp2
        go_roundw
        case rel => exact ⟨i + 1, by go_num, ⟨by omega⟩, ⟨by rw [HT.out]; exact hJ3⟩, ⟨kpV_t HKa.out hk3⟩⟩
        case measure => simp [intOf]; omega
      · gi_wp2
        refine bodyPost_ret (results_none rfl _ _ _) rfl ?_
        exact ⟨⟨_, rfl⟩, .inr ⟨l.take i ++ [⟨x, hxo⟩], by rw [← HT.out]; exact List.take_prefix _ _, hJx3⟩⟩
    · have hle := HI.out
      have HT := Aside0.mk (show l.take i = l from List.take_of_length_le (by omega))
      gi_wp2
      go_end0
      have hj := HJ.out
      rw [HT.out] at hj
      exact ⟨⟨_, rfl⟩, .inl ⟨l, rfl, hj⟩⟩
/-- Values hands back a value that yields all identities, or a beginning of them where a round has said 'no more'. -/
theorem values_stops (n : Nat) (hn : 1 ≤ n) (Bs n₀ gb : Nat) (F : Nat → Prop) (A : Option Addr) (c : Nat) (l : List IdT) (hlen : l.length ≤ 1000000) (w : World)
    (hBs : w.cell? ⟨Bs, 0, none⟩ = some (.slice A l.length c)) (hA : 0 < l.length → A = some ⟨gb, 0, none⟩) (hE : IdsAt w gb (l.map (·.1))) (hg : gb < n₀) (hF : ¬ F gb) (hn₀ : n₀ ≤ w.heap.size) :
    SeqStopsK Fence.wide n Try.prog 46 #[.pointer (some ⟨Bs, 0, none⟩)] (fun x : IdT => #[.agg (x.1.map (Value.int .u8)).toArray]) (KpV n₀ F) (fun ys => ys = l) (fun pre => pre <+: l) l.length w := fun y J Jx W hW hJ _ hY h0 =>
  values1_in n hn y Bs n₀ gb F A c l hlen J Jx (fun pre A B h hb => hJ pre A B none h (grown_of_below hb none) (fun r e => by cases e)) hY W ((hW.cell (World.block_lt_of_cell? _ _ hBs)).trans hBs) hA (fun i x hx => range_below (hE i x hx) hW) hg hF (Nat.le_trans hn₀ hW.size) h0
end Go.Proofs.Ytbhibodgbgndbaa.B
/- A scan, plainly; what a scan's loop keeps. No condition. -/
namespace Go.Proofs.Ytbhibodgbgndbaa.B
open Go Go.RowKit Go.Shelf Go.Proofs Go.Proofs.YtbhibodgbgndbaaW.PrintWords Go.Proofs.YtbhibodgbgndbaaW.PrintLast Go.Proofs.YtbhibodgbgndbaaW.PrintMore
set_option linter.unusedVariables false
set_option linter.unusedSimpArgs false

/-- A scan, plainly: the entries behind it, how many were added, whether all were looked at. -/
def scanG (cap now : Int) : List (List Int) → List Ent → Int → List Ent × Int × Bool
  | [], es, n => (es, n, true)
  | x :: xs, es, n => if x = zeroId ∨ x ∈ es.map (·.1) then scanG cap now xs es n else if cap ≤ (es.length : Int) then (es, n, false) else scanG cap now xs (es ++ [(x, now, 0)]) (n + 1)
theorem scanG_append (cap now : Int) : ∀ (xs ys : List (List Int)) (es : List Ent) (n : Int),
    scanG cap now (xs ++ ys) es n = if (scanG cap now xs es n).2.2 then scanG cap now ys (scanG cap now xs es n).1 (scanG cap now xs es n).2.1 else scanG cap now xs es n
  | [], ys, es, n => by simp [scanG]
  | x :: xs, ys, es, n => by
    rw [List.cons_append, scanG, scanG]
    split
    · exact scanG_append cap now xs ys es n
    split
    · simp
    · exact scanG_append cap now xs ys _ _
theorem scanG_one (cap now : Int) (x : List Int) (es : List Ent) (n : Int) : scanG cap now [x] es n = if x = zeroId ∨ x ∈ es.map (·.1) then (es, n, true) else if cap ≤ (es.length : Int) then (es, n, false) else (es ++ [(x, now, 0)], n + 1, true) := by
  simp [scanG]
theorem scanG_le (cap now : Int) : ∀ (xs : List (List Int)) (es : List Ent) (n : Int), n ≤ (scanG cap now xs es n).2.1 ∧ (scanG cap now xs es n).2.1 ≤ n + xs.length
  | [], es, n => by simp [scanG]
  | x :: xs, es, n => by
    rw [scanG]
    split
    · have := scanG_le cap now xs es n
      simp only [List.length_cons]; omega
    split
    · simp only [List.length_cons]; omega
    · have := scanG_le cap now xs (es ++ [(x, now, 0)]) (n + 1)
      simp only [List.length_cons]; omega
/-- Scan, plainly. -/
def scanS (s : St) (ids : List (List Int)) (now : Int) : St × Int × Bool :=
  if minB now = false then (s, 0, false)
  else ({ s with es := (scanG s.cap now ids s.es 0).1, missed := !(scanG s.cap now ids s.es 0).2.2 }, (scanG s.cap now ids s.es 0).2.1, (scanG s.cap now ids s.es 0).2.2)

/-- A backlog of which all that lies from B on is cells. -/
structure BT (B : Nat) (W : World) (F : Nat → Prop) (g gm : Nat) (s : St) : Prop where
  bl : BL W F g gm s
  cells : ∀ k, F k → B ≤ k → ∃ o : Obj, W.heap[k]? = some o ∧ o.isCells = true
theorem BL.tight {W : World} {F : Nat → Prop} {g gm : Nat} {s : St} {B : Nat} (h : BL W F g gm s) (hB : gm < B) : ∃ F', (∀ k, F' k → F k) ∧ BT B W F' g gm s := by
  obtain ⟨v, h1, h2, h3⟩ := h.blk
  refine ⟨fun k => k = g ∨ k = gm ∨ v.ownBlock = some k, ?_, ⟨⟨v, h1, h2, fun k hk => ⟨.inr (.inr hk), (h3 k hk).2⟩⟩, h.map, .inl rfl, .inr (.inl rfl), h.ne, ?_, h.wf⟩, ?_⟩
  · rintro k (rfl | rfl | hk)
    · exact h.fg
    · exact h.fm
    · exact (h3 k hk).1
  · rintro k (rfl | rfl | hk)
    · exact h.lt k h.fg
    · exact h.lt k h.fm
    · exact h.lt k (h3 k hk).1
  · rintro k (rfl | rfl | hk) hk2
    · exact ⟨_, h1, rfl⟩
    · omega
    · rcases h2.2 with ⟨rfl, _⟩ | ⟨g', cap, cur, rfl, _, hg, _⟩
      · simp [Value.ownBlock] at hk
      · simp [Value.ownBlock] at hk; subst hk
        exact ⟨_, hg, rfl⟩
/-- What a scan's loop keeps of the backlog: w is the world where the call began, B the heap's size where the loop began. -/
def Sn (w : World) (B : Nat) (F0 : Nat → Prop) (g gm : Nat) (s : St) (W : World) : Prop := ∃ F, BT B W F g gm s ∧ (∀ k, F k → F0 k ∨ B ≤ k) ∧ Upd F0 w W ∧ B ≤ W.heap.size
section
variable {w W W' : World} {B : Nat} {F0 : Nat → Prop} {g gm : Nat} {s s' : St}
theorem Sn.step (hwB : w.heap.size ≤ B) {row : Option Nat} (h : Sn w B F0 g gm s W) (hg : W.grownBy W' row) (hr : ∀ r, row = some r → B ≤ r ∧ ∃ o : Obj, W.heap[r]? = some o ∧ o.isCells = false) : Sn w B F0 g gm s W' := by
  obtain ⟨F, h1, h2, h3, h4⟩ := h
  have hk : ∀ k, F k → W'.heap[k]? = W.heap[k]? := fun k hk => hg.block k (h1.bl.lt k hk) (fun e => by
    obtain ⟨hB, o, ho, hc⟩ := hr k e.symm
    obtain ⟨o', ho', hc'⟩ := h1.cells k hk hB
    rw [ho] at ho'; cases ho'; rw [hc] at hc'; cases hc')
  refine ⟨F, ⟨h1.bl.kept hk, fun k hF hB => ?_⟩, h2, ⟨hg.os.trans h3.os, hg.tape.trans h3.tape, hg.output.trans h3.output, Nat.le_trans h3.size hg.size, fun k hk2 hF => ?_⟩, Nat.le_trans h4 hg.size⟩
  · rw [hk k hF]; exact h1.cells k hF hB
  · rw [← h3.block k hk2 hF]
    exact hg.block k (Nat.lt_of_lt_of_le hk2 h3.size) (fun e => by have := (hr k e.symm).1; omega)
theorem Sn.own (hwB : w.heap.size ≤ B) (F0 : Nat → Prop) (g gm : Nat) {β : Type} (f : β → St) : OwnFrom B (fun (b : β) W => Sn w B F0 g gm (f b) W) := fun _ _ _ _ h hg hr => h.step hwB hg hr
/-- Behind a call that reads. -/
theorem Sn.read (hwB : w.heap.size ≤ B) (h : Sn w B F0 g gm s W) (hb : Below W.heap.size W W') : Sn w B F0 g gm s W' := h.step hwB (row := none) (grown_of_below hb none) (fun r e => by cases e)
/-- Behind a store into a box of the call's own. -/
theorem Sn.set (hwB : w.heap.size ≤ B) (h0 : ∀ k, F0 k → k < w.heap.size) (h : Sn w B F0 g gm s W) (k : Nat) (hk1 : w.heap.size ≤ k) (hk2 : k < B) (v : Value) : Sn w B F0 g gm s (W.setCell ⟨k, 0, none⟩ v) := by
  obtain ⟨F, h1, h2, h3, h4⟩ := h
  have hne : ∀ j, F j → j ≠ k := fun j hj e => by
    rcases h2 j hj with h5 | h5
    · have := h0 j h5; omega
    · omega
  refine ⟨F, ⟨h1.bl.kept (fun j hj => Below.heap_setCell _ _ _ _ (hne j hj)), fun j hj hB => ?_⟩, h2, ⟨h3.os, h3.tape, h3.output, by simpa [World.setCell] using h3.size, fun j hj hF => ?_⟩, by simpa [World.setCell] using h4⟩
  · rw [Below.heap_setCell W ⟨k, 0, none⟩ v j (hne j hj)]; exact h1.cells j hj hB
  · rw [Below.heap_setCell W ⟨k, 0, none⟩ v j (by simp; omega)]; exact h3.block j hj hF
/-- Behind a call that writes the backlog. -/
theorem Sn.call (hwB : w.heap.size ≤ B) {F : Nat → Prop} (h : BT B W F g gm s ∧ (∀ k, F k → F0 k ∨ B ≤ k) ∧ Upd F0 w W ∧ B ≤ W.heap.size) (hgm : gm < B) (hcall : After F g gm W W' s') :
    Sn w B F0 g gm s' W' ∧ KeepsFrom B W W' ∧ KpV B F0 W W' := by
  obtain ⟨h1, h2, h3, h4⟩ := h
  obtain ⟨F1, k1, k2, k3⟩ := hcall
  obtain ⟨F2, m1, m2⟩ := k1.tight (B := B) hgm
  refine ⟨⟨F2, m2, fun k hk => ?_, h3.trans k3 (fun k hk => (h2 k hk).imp id (fun h => by omega)), Nat.le_trans h4 k3.size⟩, ⟨k3.size, fun k o hB hk ho => ?_⟩, ⟨k3.size, fun k hk hF => ?_⟩⟩
  · rcases k2 k (m1 k hk) with h5 | h5
    · exact h2 k h5
    · exact .inr (by omega)
  · rw [k3.block k (Array.getElem?_eq_some_iff.1 hk).1 (fun hF => by
      obtain ⟨o', ho', hc'⟩ := h1.cells k hF hB
      rw [hk] at ho'; cases ho'; rw [ho] at hc'; cases hc')]
    exact hk
  · exact k3.block k (by omega) (fun hF2 => by rcases h2 k hF2 with h5 | h5; exact hF h5; omega)
theorem Sn.bl (h : Sn w B F0 g gm s W) : ∃ F, BL W F g gm s := by obtain ⟨F, h1, _⟩ := h; exact ⟨F, h1.bl⟩
theorem Sn.after (hwB : w.heap.size ≤ B) (h : Sn w B F0 g gm s W) : After F0 g gm w W s := by
  obtain ⟨F, h1, h2, h3, h4⟩ := h
  exact ⟨F, h1.bl, fun k hk => (h2 k hk).imp id (fun h => by omega), h3⟩
theorem Sn.start (h : BL w F0 g gm s) (hb : Below w.heap.size w W) : Sn w W.heap.size F0 g gm s W := by
  obtain ⟨F, h1, h2⟩ := (h.below hb).tight (B := W.heap.size) ((h.below hb).lt gm (h.fm))
  exact ⟨F, h2, fun k hk => .inl (h1 k hk), .of_below hb, Nat.le_refl _⟩
end
end Go.Proofs.Ytbhibodgbgndbaa.B
/- Scan of a backlog, told plainly. Condition: at most 1000000 identities. -/
namespace Go.Proofs.Ytbhibodgbgndbaa.B
open Go Go.RowKit Go.Shelf Go.Proofs Go.Proofs.YtbhibodgbgndbaaW.PrintWords Go.Proofs.YtbhibodgbgndbaaW.PrintLast Go.Proofs.YtbhibodgbgndbaaW.PrintMore
set_option linter.unusedVariables false
set_option linter.unusedSimpArgs false
set_option maxRecDepth 100000
set_option maxHeartbeats 8000000
attribute [local go_sem] Oper.semAt_some
attribute [local go_sem ↓] execOp_ld30 execOp_alc30 execOp_st30
attribute [local go_sem] run_alc30 run_st30
theorem eq_fnd (d : Nat) (fs : Fn) (a b : Array Value) (W : World) : (Op.equalIn (d + 1) 46 (.func fs a b) .nilFunc).run Try.prog W = .ok false W := by
  simp [Op.equalIn, run_underlying Try.underlying46]
theorem eq_fn (fs : Fn) (a b : Array Value) (W : World) : (binOp .eql 46 (.func fs a b) .nilFunc).run Try.prog W = .ok (.bool false) W := by
  have h2 : (Op.equal 46 (.func fs a b) .nilFunc).run Try.prog W = .ok false W := eq_fnd 9999 fs a b W
  simp only [binOp]
  simp [h2, Result.andThen]

/-- The five boxes of a scan. -/
structure Bx (W : World) (N : Nat) (g : Nat) (now r6 : Int) (r7 : Bool) (n : Int) : Prop where
  b3 : Boxed W N 25 (.pointer (some ⟨g, 0, none⟩))
  b5 : Boxed W (N + 1) 3 (.int .i64 now)
  b6 : Boxed W (N + 1 + 1) 3 (.int .i64 r6)
  b7 : Boxed W (N + 1 + 1 + 1) 4 (.bool r7)
  b8 : Boxed W (N + 1 + 1 + 1 + 1) 3 (.int .i64 n)
theorem Bx.of {W W' : World} {N g : Nat} {now r6 : Int} {r7 : Bool} {n : Int} (h : Bx W N g now r6 r7 n) (hk : ∀ k, N ≤ k → k ≤ N + 4 → W'.heap[k]? = W.heap[k]?) : Bx W' N g now r6 r7 n :=
  ⟨(hk _ (by omega) (by omega)).trans h.b3, (hk _ (by omega) (by omega)).trans h.b5, (hk _ (by omega) (by omega)).trans h.b6, (hk _ (by omega) (by omega)).trans h.b7, (hk _ (by omega) (by omega)).trans h.b8⟩
theorem Bx.lt {W : World} {N g : Nat} {now r6 : Int} {r7 : Bool} {n : Int} (h : Bx W N g now r6 r7 n) : N + 4 < W.heap.size := (Array.getElem?_eq_some_iff.1 h.b8).1
theorem Bx.below {W W' : World} {N g : Nat} {now r6 : Int} {r7 : Bool} {n : Int} (h : Bx W N g now r6 r7 n) (hb : Below W.heap.size W W') : Bx W' N g now r6 r7 n := h.of (fun k _ hk => hb.block k (by have := h.lt; omega))
theorem Bx.own (N B : Nat) (g : Nat) (now r6 : Int) (r7 : Bool) {β : Type} (f : β → Int) (hB : N + 5 ≤ B) : OwnFrom B (fun (b : β) W => Bx W N g now r6 r7 (f b)) := fun b W W' row h hg hr =>
  h.of (fun k _ hk => hg.block k (by have := h.lt; omega) (fun e => by have := (hr k e.symm).1; omega))
theorem Bx.set8 {W : World} {N g : Nat} {now r6 : Int} {r7 : Bool} {n : Int} (h : Bx W N g now r6 r7 n) (n' : Int) : Bx (W.setCell ⟨N + 1 + 1 + 1 + 1, 0, none⟩ (.int .i64 n')) N g now r6 r7 n' :=
  ⟨h.b3.other (by omega) _, h.b5.other (by omega) _, h.b6.other (by omega) _, h.b7.other (by omega) _, h.b8.set _⟩
theorem Bx.set6 {W : World} {N g : Nat} {now r6 : Int} {r7 : Bool} {n : Int} (h : Bx W N g now r6 r7 n) (n' : Int) : Bx (W.setCell ⟨N + 1 + 1, 0, none⟩ (.int .i64 n')) N g now n' r7 n :=
  ⟨h.b3.other (by omega) _, h.b5.other (by omega) _, h.b6.set _, h.b7.other (by omega) _, h.b8.other (by omega) _⟩
theorem Bx.set7 {W : World} {N g : Nat} {now r6 : Int} {r7 : Bool} {n : Int} (h : Bx W N g now r6 r7 n) (n' : Bool) : Bx (W.setCell ⟨N + 1 + 1 + 1, 0, none⟩ (.bool n')) N g now r6 n' n :=
  ⟨h.b3.other (by omega) _, h.b5.other (by omega) _, h.b6.other (by omega) _, h.b7.set _, h.b8.other (by omega) _⟩
theorem Bx.new (w : World) (g : Nat) (now : Int) : Bx (((((w.alloc (.cells #[.pointer (some ⟨g, 0, none⟩)] 25)).alloc (.cells #[.int .i64 now] 3)).alloc (.cells #[.int .i64 0] 3)).alloc (.cells #[.bool false] 4)).alloc (.cells #[.int .i64 0] 3)) w.heap.size g now 0 false 0 := by
  have e1 : (w.alloc (.cells #[.pointer (some ⟨g, 0, none⟩)] 25)).heap.size = w.heap.size + 1 := by simp
  have e2 : ((w.alloc (.cells #[.pointer (some ⟨g, 0, none⟩)] 25)).alloc (.cells #[.int .i64 now] 3)).heap.size = w.heap.size + 1 + 1 := by simp
  have e3 : (((w.alloc (.cells #[.pointer (some ⟨g, 0, none⟩)] 25)).alloc (.cells #[.int .i64 now] 3)).alloc (.cells #[.int .i64 0] 3)).heap.size = w.heap.size + 1 + 1 + 1 := by simp
  have e4 : ((((w.alloc (.cells #[.pointer (some ⟨g, 0, none⟩)] 25)).alloc (.cells #[.int .i64 now] 3)).alloc (.cells #[.int .i64 0] 3)).alloc (.cells #[.bool false] 4)).heap.size = w.heap.size + 1 + 1 + 1 + 1 := by simp
  have b2 := Boxed.new (w.alloc (.cells #[.pointer (some ⟨g, 0, none⟩)] 25)) 3 (.int .i64 now)
  have b3 := Boxed.new ((w.alloc (.cells #[.pointer (some ⟨g, 0, none⟩)] 25)).alloc (.cells #[.int .i64 now] 3)) 3 (.int .i64 0)
  have b4 := Boxed.new (((w.alloc (.cells #[.pointer (some ⟨g, 0, none⟩)] 25)).alloc (.cells #[.int .i64 now] 3)).alloc (.cells #[.int .i64 0] 3)) 4 (.bool false)
  have b5 := Boxed.new ((((w.alloc (.cells #[.pointer (some ⟨g, 0, none⟩)] 25)).alloc (.cells #[.int .i64 now] 3)).alloc (.cells #[.int .i64 0] 3)).alloc (.cells #[.bool false] 4)) 3 (.int .i64 0)
  rw [e1] at b2
  rw [e2] at b3
  rw [e3] at b4
  rw [e4] at b5
  exact ⟨((((Boxed.new w 25 _).alloc _).alloc _).alloc _).alloc _, ((b2.alloc _).alloc _).alloc _, (b3.alloc _).alloc _, b4.alloc _, b5⟩
/-- Behind a call that writes the backlog the boxes stand. -/
theorem Bx.call {W W' : World} {N B g : Nat} {F0 : Nat → Prop} {now r6 : Int} {r7 : Bool} {n : Int} (h : Bx W N g now r6 r7 n) (hk : KpV B F0 W W') (hB : N + 5 ≤ B) (h0 : ∀ k, F0 k → k < N) : Bx W' N g now r6 r7 n :=
  h.of (fun k hk1 hk2 => hk.2 k (by omega) (fun hF => by have := h0 k hF; omega))
theorem results_cells2 {fn : Func} {p q : Tmp} {ty tz : TypeId} (h : fn.results = #[.cell p ty, .cell q tz]) (tmps : Array Value) (w : World) (g1 g2 : Nat) (v u : Value)
    (hp : tmps.getD p undef = .pointer (some ⟨g1, 0, none⟩)) (hq : tmps.getD q undef = .pointer (some ⟨g2, 0, none⟩)) (hr : (loadVar ty ⟨g1, 0, none⟩).run Try.prog w = .ok v w) (hs : (loadVar tz ⟨g2, 0, none⟩).run Try.prog w = .ok u w) : (results fn tmps).run Try.prog w = .ok (.tuple #[v, u]) w := by
  have hp' : tmps[p]?.getD undef = .pointer (some ⟨g1, 0, none⟩) := by simpa using hp
  have hq' : tmps[q]?.getD undef = .pointer (some ⟨g2, 0, none⟩) := by simpa using hq
  simp [results, h, hp', hq', asAddr, hr, hs]
theorem load_box4 {w : World} {g : Nat} {b : Bool} (h : Boxed w g 4 (.bool b)) : (loadVar 4 ⟨g, 0, none⟩).run Try.prog w = .ok (.bool b) w := by
  have hc := h.cell
  simp [go_sem, hc]
theorem load_box3 {w : World} {g : Nat} {b : Int} (h : Boxed w g 3 (.int .i64 b)) : (loadVar 3 ⟨g, 0, none⟩).run Try.prog w = .ok (.int .i64 b) w := by
  have hc := h.cell
  simp [go_sem, hc]
def scFr (g Bs N : Nat) (now : Int) (NX : Nat) (x : List Int) : Act := { tmps := #[.pointer (some ⟨g, 0, none⟩), .func (.func 46) #[] #[.pointer (some ⟨Bs, 0, none⟩)], .int .i64 now, .pointer (some ⟨N, 0, none⟩), undef, .pointer (some ⟨N + 1, 0, none⟩), .pointer (some ⟨N + 1 + 1, 0, none⟩), .pointer (some ⟨N + 1 + 1 + 1, 0, none⟩), .pointer (some ⟨N + 1 + 1 + 1 + 1, 0, none⟩), .pointer (some ⟨NX, 0, none⟩), .pointer (some ⟨g, 0, none⟩), .bool false, .bool false, .func (.func 46) #[] #[.pointer (some ⟨Bs, 0, none⟩)], .bool false, .bool false, .bool false, .int .i64 now, .bool true, .bool false, .bool false, .func (.func 46) #[] #[.pointer (some ⟨Bs, 0, none⟩)], .agg (x.map (Value.int .u8)).toArray, undef, undef, undef, undef, undef, undef, undef, undef, undef, undef, undef, undef, undef, undef, undef, undef, undef, undef, undef, undef], defers := [] }
theorem kpV_mono {n n₀ : Nat} {F : Nat → Prop} {A B : World} (h : KpV n₀ F A B) (hn : n ≤ n₀) : KpV n F A B := ⟨h.1, fun k hk => h.2 k (by omega)⟩
theorem kpV_set {n₀ : Nat} {F : Nat → Prop} (W : World) (k : Nat) (v : Value) (hk : n₀ ≤ k) : KpV n₀ F W (W.setCell ⟨k, 0, none⟩ v) := ⟨by simp [World.setCell], fun i hi _ => Below.heap_setCell _ _ _ _ (by simp; omega)⟩
theorem keeps_set (B : Nat) (W : World) (k : Nat) (v : Value) (hk : k < B) : KeepsFrom B W (W.setCell ⟨k, 0, none⟩ v) := KeepsFrom.of_grownBy (grownBy_setCell' W k v) (fun j e => by cases e; exact hk)
/-- The state of a scan behind these identities. -/
def scs (s : St) (now : Int) (ys : List IdT) : List Ent × Int × Bool := scanG s.cap now (ys.map (·.1)) s.es 0
theorem scs_snoc (s : St) (now : Int) (ys : List IdT) (x : IdT) (h : (scs s now ys).2.2 = true) : scs s now (ys ++ [x]) = scanG s.cap now [x.1] (scs s now ys).1 (scs s now ys).2.1 := by
  unfold scs at h ⊢
  rw [List.map_append, scanG_append, if_pos h]; rfl
theorem scs_stop (s : St) (now : Int) (ys zs : List IdT) (h : (scs s now ys).2.2 = false) : scs s now (ys ++ zs) = scs s now ys := by
  unfold scs at h ⊢
  rw [List.map_append, scanG_append, h]; rfl
theorem scs_skip {s : St} {now : Int} {pre : List IdT} {x : IdT} (h : (scs s now pre).2.2 = true) (hx : x.1 = zeroId ∨ x.1 ∈ (scs s now pre).1.map (·.1)) : scs s now (pre ++ [x]) = scs s now pre := by
  rw [scs_snoc s now pre x h, scanG_one, if_pos hx, ← h]
theorem scs_full {s : St} {now : Int} {pre : List IdT} {x : IdT} (h : (scs s now pre).2.2 = true) (hz : x.1 ≠ zeroId) (hx : x.1 ∉ (scs s now pre).1.map (·.1)) (hf : s.cap ≤ ((scs s now pre).1.length : Int)) : scs s now (pre ++ [x]) = ((scs s now pre).1, (scs s now pre).2.1, false) := by
  rw [scs_snoc s now pre x h, scanG_one, if_neg (by rintro (h | h); exact hz h; exact hx h), if_pos hf]
theorem scs_add {s : St} {now : Int} {pre : List IdT} {x : IdT} (h : (scs s now pre).2.2 = true) (hz : x.1 ≠ zeroId) (hx : x.1 ∉ (scs s now pre).1.map (·.1)) (hf : ¬ s.cap ≤ ((scs s now pre).1.length : Int)) : scs s now (pre ++ [x]) = ((scs s now pre).1 ++ [(x.1, now, 0)], (scs s now pre).2.1 + 1, true) := by
  rw [scs_snoc s now pre x h, scanG_one, if_neg (by rintro (h | h); exact hz h; exact hx h), if_neg hf]
/-- What the loop knows. -/
def ScI (w : World) (B N g gm : Nat) (F0 : Nat → Prop) (s : St) (now : Int) (pre : List IdT) (W : World) : Prop :=
  (scs s now pre).2.2 = true ∧ Bx W N g now 0 false (scs s now pre).2.1 ∧ Sn w B F0 g gm { s with es := (scs s now pre).1 } W
def ScX (w : World) (B N g gm : Nat) (F0 : Nat → Prop) (s : St) (now : Int) (c : Code) (pre : List IdT) (W : World) : Prop :=
  (c = .ret ∧ (scs s now pre).2.2 = false) ∧ Bx W N g now (scs s now pre).2.1 false (scs s now pre).2.1 ∧ Sn w B F0 g gm { s with es := (scs s now pre).1, missed := true } W
theorem ScI.own (w : World) (B N g gm : Nat) (F0 : Nat → Prop) (s : St) (now : Int) (hwB : w.heap.size ≤ B) (hN : N + 5 ≤ B) : OwnFrom B (ScI w B N g gm F0 s now) :=
  OwnFrom.and (fun _ _ _ _ h _ _ => h) (OwnFrom.and (Bx.own N B g now 0 false (fun pre => (scs s now pre).2.1) hN) (Sn.own hwB F0 g gm (fun pre => { s with es := (scs s now pre).1 })))
theorem ScX.own (w : World) (B N g gm : Nat) (F0 : Nat → Prop) (s : St) (now : Int) (hwB : w.heap.size ≤ B) (hN : N + 5 ≤ B) (c : Code) : OwnFrom B (ScX w B N g gm F0 s now c) :=
  OwnFrom.and (fun _ _ _ _ h _ _ => h) (OwnFrom.and (fun pre W W' row h hg hr => h.of (fun k _ hk => hg.block k (by have := h.lt; omega) (fun e => by have := (hr k e.symm).1; omega))) (Sn.own hwB F0 g gm (fun pre => { s with es := (scs s now pre).1, missed := true })))
def ScA (g Bs N : Nat) (now : Int) (x : IdT) (a : Act) (W : World) : Prop := ∃ NX, a = scFr g Bs N now NX x.1 ∧ W.heap[NX]? = some (.cells (idC x.1) 30 (0, 0))
theorem ScA.own (B g Bs N : Nat) (now : Int) (x : IdT) (a : Act) : OwnFrom B (fun (_ : Unit) W => ScA g Bs N now x a W) := fun _ W W' row ⟨NX, h1, h2⟩ hg hr =>
  ⟨NX, h1, (hg.block NX (Array.getElem?_eq_some_iff.1 h2).1 (fun e => by
    obtain ⟨_, o, ho, hc⟩ := hr NX e.symm
    rw [h2] at ho; cases ho; cases hc)).trans h2⟩
theorem id_blk {W : World} {NX : Nat} {x : List Int} (h : W.heap[NX]? = some (.cells (idC x) 30 (0, 0))) : W.rangeAt NX 0 (x.map (Value.int .u8)) := fun j u hu => by
  rw [Nat.zero_add, cell_of_row _ _ _ _ 30 (0, 0) h]; simpa [idC] using hu
theorem keeps_below {B : Nat} {W W' : World} (hb : Below W.heap.size W W') : KeepsFrom B W W' := KeepsFrom.of_grownBy (grown_of_below hb none) (fun j e => by cases e)

theorem scan_end {w W : World} {B N g gm D : Nat} {F0 : Nat → Prop} {s : St} {now r6 n : Int} {r7 : Bool} (hb : Bx W N g now r6 r7 n) (hs : Sn w B F0 g gm s W) (hwB : w.heap.size ≤ B) (hN : N + 5 ≤ B) (hK : W.heap[D]? = some (.deferred (some []))) (hD : B ≤ D) :
    Bx (W.putObj D (.deferred none)) N g now r6 r7 n ∧ Sn w B F0 g gm s (W.putObj D (.deferred none)) :=
  ⟨OwnFrom.putObj (β := Unit) (Bx.own N B g now r6 r7 (fun _ => n) hN) (s := ()) _ hb hD hK rfl, OwnFrom.putObj (β := Unit) (Sn.own hwB F0 g gm (fun _ => s)) (s := ()) _ hs hD hK rfl⟩
theorem scan_in (m : Nat) (hm : 3 ≤ m) {w : World} {F0 : Nat → Prop} {g gm : Nat} {s : St} (h : BL w F0 g gm s) (l : List IdT) (hlen : l.length ≤ 1000000) (Bs gb : Nat) (A : Option Addr) (c : Nat) (now : Int) (hmin : minB now = true)
    (hBs : w.cell? ⟨Bs, 0, none⟩ = some (.slice A l.length c)) (hA : 0 < l.length → A = some ⟨gb, 0, none⟩) (hE : IdsAt w gb (l.map (·.1))) (hg : gb < w.heap.size) (hF : ¬ F0 gb) :
    CallsIn Fence.wide m Try.prog 23 #[.pointer (some ⟨g, 0, none⟩), .func (.func 46) #[] #[.pointer (some ⟨Bs, 0, none⟩)], .int .i64 now] w fun e_ W' =>
      e_ = .returned (.tuple #[.int .i64 (scanG s.cap now (l.map (·.1)) s.es 0).2.1, .bool (scanG s.cap now (l.map (·.1)) s.es 0).2.2]) ∧ After F0 g gm w W' (scanS s (l.map (·.1)) now).1 := by
  have H := Aside0.mk h
  have HM := Aside0.mk hmin
  have HI := Aside0.mk (And.intro hBs (And.intro hA (And.intro hE (And.intro hg hF))))
  clear h hmin hBs hA hE hg hF
  have h1 : 1 ≤ m := by omega
  have h2 : 1 ≤ m - 1 - 1 := by omega
  have he := eq_fn
  refine callsIn_of_wp_marks Try.func23 rfl trivial ?_ rfl
  simp only [Try.ntmps23, List.size_toArray, List.length_cons, List.length_nil, Nat.reduceAdd, Nat.reduceSub, Array.replicate_succ, Array.replicate_zero, List.push_toArray, List.append_toArray, List.nil_append, List.cons_append]
  gi_wp2_with (first | (refine ⟨trivial, ?_⟩; gi_at_call 41; refine (callsIn_wide.2 (minute_is now _)).mono ?_; rintro e_ w1 ⟨rfl, rfl⟩; rw [HM.out]))
  obtain ⟨wl, hwl⟩ : ∃ wl, (((((w.alloc (.cells #[.pointer (some ⟨g, 0, none⟩)] 25)).alloc (.cells #[.int .i64 now] 3)).alloc (.cells #[.int .i64 0] 3)).alloc (.cells #[.bool false] 4)).alloc (.cells #[.int .i64 0] 3)) = wl := ⟨_, rfl⟩
  have hbx : Bx wl w.heap.size g now 0 false 0 := hwl ▸ Bx.new w g now
  have hbl : Below w.heap.size w wl := hwl ▸ below_alloc (below_alloc (below_alloc (below_alloc (below_alloc (Below.refl _ _) _) _) _) _) _
  rw [hwl]
  clear hwl
  have hwB := hbl.size
  have hN : w.heap.size + 5 ≤ wl.heap.size := hbx.lt
  have HS := Aside0.mk (Sn.start H.out hbl)
  have h0 := H.out.lt
  have hgm : gm < wl.heap.size := Nat.lt_of_lt_of_le (H.out.lt gm H.out.fm) hwB
  have HB := Aside0.mk (And.intro hwB (And.intro hN (And.intro h0 hgm)))
  refine wpIn_rangeFunc_ownH rfl h1 (gf := 46) (lb := #[.pointer (some ⟨Bs, 0, none⟩)]) rfl trivial (enters_of Try.func46 (by kernel_rfl) rfl)
    (values_stops (m - 1) (by omega) Bs w.heap.size gb F0 A c l hlen wl ((hbl.cell (World.block_lt_of_cell? _ _ HI.out.1)).trans HI.out.1) HI.out.2.1 (fun i x hx => range_below (HI.out.2.2.1 i x hx) hbl) HI.out.2.2.2.1 HI.out.2.2.2.2 hwB) kpV_t (kpV_b hwB) (Below.refl _ _) (fun _ => rfl)
    (ScI w wl.heap.size w.heap.size g gm F0 s now) (ScX w wl.heap.size w.heap.size g gm F0 s now) (ScI.own _ _ _ _ _ _ _ _ hwB hN) (ScX.own _ _ _ _ _ _ _ _ hwB hN)
    ⟨rfl, hbx, HS.out⟩ (ScA g Bs w.heap.size now) (ScA.own _ _ _ _ _) ?assign ?body ?done ?stop
  case assign =>
    intro y pre x W K hI hK
    obtain ⟨x, hx⟩ := x
    have HXL : Aside0 (x.length = 32) := ⟨hx.1⟩
    clear hbx hbl h0
    gi_wp2
    refine hK _ _ (keeps_below (below_alloc (Below.refl _ _) _)) (kpV_below (below_alloc (Below.refl _ _) _) ?_) ((ScI.own _ _ _ _ _ _ _ _ hwB hN) pre W _ none hI (grown_of_below (below_alloc (Below.refl _ _) _) none) (fun r e => by cases e)) ⟨W.heap.size, rfl, heap_alloc_last W _⟩
    obtain ⟨_, _, F, _, _, _, h4⟩ := hI
    exact Nat.le_trans hwB h4
  case body =>
    rintro y pre ⟨x, hx⟩ a W hy hrec ⟨hrun, hb, hs⟩ ⟨NX, rfl, hNX⟩ hlt
    have HXL : Aside0 (x.length = 32) := ⟨hx.1⟩
    have HX := Aside0.mk hx
    have hld := run_ld30 W NX x hx.1 (id_blk hNX)
    have HNX := Aside0.mk hNX
    have heq := eq_zero x hx.1
    have c3 := hb.b3.cell
    have HH := Aside0.mk (And.intro hrun (And.intro hb hs))
    have hn := scanG_le s.cap now (pre.map (·.1)) s.es 0
    have hn2 : 0 ≤ (scs s now pre).2.1 ∧ (scs s now pre).2.1 ≤ 1000000 := ⟨hn.1, by have := hn.2; rw [List.length_map] at this; have h9 : (scs s now pre).2.1 ≤ 0 + (pre.length : Int) := this; omega⟩
    obtain ⟨F, hBL⟩ := hs.bl
    have HAS := Aside0.mk (fun (W : World) (F : Nat → Prop) (h : BL W F g gm { s with es := (scs s now pre).1 }) => hasS h HX.out)
    have hLT := hb.lt
    clear hNX hbx hbl hrun hs hn hy hrec
    have c5 := hb.b5.cell
    have c8 := hb.b8.cell
    clear hb h0
    unfold scFr
    by_cases hz : x = zeroId
    · rw [decide_eq_true hz] at heq
      have HZ := Aside0.mk hz
      clear hz
      gi_wp2
      refine ⟨trivial, ?_⟩
      gi_wp2
      refine ⟨KeepsFrom.refl _ _, ⟨Nat.le_refl _, fun _ _ _ => rfl⟩, ?_⟩
      unfold ScI
      rw [scs_skip HH.out.1 (.inl HZ.out)]
      exact HH.out
    rw [decide_eq_false hz] at heq
    have HZ := Aside0.mk hz
    clear hz
    by_cases hm : x ∈ (scs s now pre).1.map (·.1)
    · have HMM := Aside0.mk hm
      clear hm
      gi_wp2_with (first | (refine ⟨trivial, ?_⟩; gi_at_call 16; refine (callsIn_wide.2 (HAS.out _ F hBL)).mono ?_; rintro e_ W2 ⟨rfl, hb2⟩; rw [decide_eq_true HMM.out]))
      refine ⟨keeps_below hb2, kpV_below hb2 (by obtain ⟨_, _, _, _, _, _, h4⟩ := HH.out; exact Nat.le_trans hwB h4), ?_⟩
      unfold ScI
      rw [scs_skip HH.out.1 (.inr HMM.out)]
      exact ⟨HH.out.1, HH.out.2.1.below hb2, HH.out.2.2.read hwB hb2⟩
    have HMM := Aside0.mk hm
    by_cases hf : s.cap ≤ ((scs s now pre).1.length : Int)
    · have HF := Aside0.mk hf
      have HAD := Aside0.mk (fun (W : World) (F : Nat → Prop) (h : BL W F g gm { s with es := (scs s now pre).1 }) => show Calls Try.prog 13 #[.pointer (some ⟨g, 0, none⟩), .agg (x.map (Value.int .u8)).toArray, .int .i64 now] W fun e w' => e = .returned (.int .i64 9) ∧ After F g gm W w' { s with es := (scs s now pre).1, missed := true } from by
        have := add_is h HX.out now
        unfold addS at this
        rw [if_neg HZ.out, if_neg (by rw [HM.out]; decide), if_neg hm, if_pos hf] at this
        exact this)
      clear hm hf
      gi_wp2_with (first
        | (refine ⟨trivial, ?_⟩; gi_at_call 13; refine (callsIn_wide.2 (HAD.out _ F2 HS2.out.1.bl)).mono ?_; rintro e_ W3 ⟨rfl, ha3⟩; obtain ⟨hs3, hk3, hp3⟩ := Sn.call hwB HS2.out hgm ha3; have HB3 := Aside0.mk (HB2.out.call hp3 hN HB.out.2.2.1); have HS3 := Aside0.mk (And.intro hs3 (And.intro hk3 hp3)); have e8 := HB3.out.b8.cell; have f6 := HB3.out.b6.frozen; have f7 := HB3.out.b7.frozen; have f8 := HB3.out.b8.frozen; have e6 := HB3.out.b6.cell; have e7 := HB3.out.b7.cell; clear ha3 hs3 hk3 hp3)
        | (refine ⟨trivial, ?_⟩; gi_at_call 16; refine (callsIn_wide.2 (HAS.out _ F hBL)).mono ?_; rintro e_ W2 ⟨rfl, hb2⟩; rw [decide_eq_false HMM.out]; have HB2 := Aside0.mk (HH.out.2.1.below hb2); obtain ⟨F2, hs2⟩ := HH.out.2.2.read hwB hb2; have HS2 := Aside0.mk hs2; have d3 := HB2.out.b3.cell; have d5 := HB2.out.b5.cell; have hld2 := run_ld30 W2 NX x HXL.out (range_below (id_blk HNX.out) hb2); have HBB := Aside0.mk hb2; clear hb2 hs2))
      have k23 := (keeps_below (B := wl.heap.size) HBB.out).trans HS3.out.2.1
      refine ⟨(k23.trans (keeps_set _ _ _ _ (by omega))).trans (keeps_set _ _ _ _ (by omega)), ?_⟩
      unfold ScX
      rw [scs_full HH.out.1 HZ.out HMM.out HF.out]
      exact ⟨⟨rfl, rfl⟩, (HB3.out.set6 _).set7 _, (HS3.out.1.set hwB HB.out.2.2.1 _ (by omega) (by omega) _).set hwB HB.out.2.2.1 _ (by omega) (by omega) _⟩
    · have HF := Aside0.mk hf
      have HAD := Aside0.mk (fun (W : World) (F : Nat → Prop) (h : BL W F g gm { s with es := (scs s now pre).1 }) => show Calls Try.prog 13 #[.pointer (some ⟨g, 0, none⟩), .agg (x.map (Value.int .u8)).toArray, .int .i64 now] W fun e w' => e = .returned (.int .i64 0) ∧ After F g gm W w' { s with es := (scs s now pre).1 ++ [(x, now, 0)] } from by
        have := add_is h HX.out now
        unfold addS at this
        rw [if_neg HZ.out, if_neg (by rw [HM.out]; decide), if_neg hm, if_neg hf] at this
        exact this)
      clear hm hf
      gi_wp2_with (first
        | (refine ⟨trivial, ?_⟩; gi_at_call 13; refine (callsIn_wide.2 (HAD.out _ F2 HS2.out.1.bl)).mono ?_; rintro e_ W3 ⟨rfl, ha3⟩; obtain ⟨hs3, hk3, hp3⟩ := Sn.call hwB HS2.out hgm ha3; have HB3 := Aside0.mk (HB2.out.call hp3 hN HB.out.2.2.1); have HS3 := Aside0.mk (And.intro hs3 (And.intro hk3 hp3)); have e8 := HB3.out.b8.cell; have f6 := HB3.out.b6.frozen; have f7 := HB3.out.b7.frozen; have f8 := HB3.out.b8.frozen; have e6 := HB3.out.b6.cell; have e7 := HB3.out.b7.cell; clear ha3 hs3 hk3 hp3)
        | (refine ⟨trivial, ?_⟩; gi_at_call 16; refine (callsIn_wide.2 (HAS.out _ F hBL)).mono ?_; rintro e_ W2 ⟨rfl, hb2⟩; rw [decide_eq_false HMM.out]; have HB2 := Aside0.mk (HH.out.2.1.below hb2); obtain ⟨F2, hs2⟩ := HH.out.2.2.read hwB hb2; have HS2 := Aside0.mk hs2; have d3 := HB2.out.b3.cell; have d5 := HB2.out.b5.cell; have hld2 := run_ld30 W2 NX x HXL.out (range_below (id_blk HNX.out) hb2); have HBB := Aside0.mk hb2; clear hb2 hs2))
      have k23 := (keeps_below (B := wl.heap.size) HBB.out).trans HS3.out.2.1
      refine ⟨k23.trans (keeps_set _ _ _ _ (by omega)), kpV_t (kpV_t (kpV_below HBB.out (by obtain ⟨_, _, _, _, _, _, h4⟩ := HH.out; exact Nat.le_trans hwB h4)) (kpV_mono HS3.out.2.2 hwB)) (kpV_set _ _ _ (by omega)), ?_⟩
      unfold ScI
      rw [scs_add (x := ⟨x, hx⟩) HH.out.1 HZ.out HMM.out (by have := HF.out; omega)]
      exact ⟨rfl, HB3.out.set8 _, HS3.out.1.set hwB HB.out.2.2.1 _ (by omega) (by omega) _⟩
  case done =>
    rintro D ys W hD rfl ⟨hrun, hb, hs⟩ hK
    obtain ⟨F, hs1⟩ := hs
    obtain ⟨v, hv1, hv2, hv3⟩ := hs1.1.bl.blk
    have q2 : W.cell? ⟨g, 2, none⟩ = some (.bool s.missed) := (blk_cell hv1 2).trans rfl
    have qf2 : W.frozen? ⟨g, 2, none⟩ = false := blk_frozen hv1 2
    obtain ⟨hs3, hk3, hp3⟩ := Sn.call hwB hs1 hgm (After.flag hs1.1.bl (Below.refl _ _) false)
    have hb3 := hb.call hp3 hN h0
    have d3 := hb.b3.cell
    have d8 := hb3.b8.cell
    have d6 := hb3.b6.cell
    have d7 := hb3.b7.cell
    have f6 := hb3.b6.frozen
    have f7 := hb3.b7.frozen
    have hDW : D < W.heap.size := (Array.getElem?_eq_some_iff.1 hK).1
    have hKD := hk3.same D _ hD hK rfl
    have HH := Aside0.mk (And.intro hrun (And.intro hb3 (And.intro hs3 hKD)))
    have HD := Aside0.mk hD
    clear hrun hb hs1 hv1 hv2 hv3 hs3 hk3 hp3 hb3 hKD hbx hbl h0 hK hD hDW
    gi_wp2
    have e1 := (HH.out.2.1.set6 (scs s now ys).2.1).set7 true
    have e2 := (HH.out.2.2.1.set hwB HB.out.2.2.1 (w.heap.size + 1 + 1) (by omega) (by omega) (.int .i64 (scs s now ys).2.1)).set hwB HB.out.2.2.1 (w.heap.size + 1 + 1 + 1) (by omega) (by omega) (.bool true)
    have hK' : (((W.setCell ⟨g, 2, none⟩ (.bool false)).setCell ⟨w.heap.size + 1 + 1, 0, none⟩ (.int .i64 (scs s now ys).2.1)).setCell ⟨w.heap.size + 1 + 1 + 1, 0, none⟩ (.bool true)).heap[D]? = some (.deferred (some [])) :=
      (Below.heap_setCell _ _ _ D (by have := HD.out; simp; omega)).trans ((Below.heap_setCell _ _ _ D (by have := HD.out; simp; omega)).trans HH.out.2.2.2)
    have e3 := scan_end e1 e2 hwB hN hK' HD.out
    refine ⟨by simp, .inl ⟨_, _, rfl, run_takeDeferred hK', ?_⟩⟩
    refine ⟨_, results_cells2 rfl _ _ _ _ _ _ rfl rfl (load_box3 e3.1.b6) (load_box4 e3.1.b7), ?_, ?_⟩
    · show _ = Ending.returned (.tuple #[.int .i64 (scs s now ys).2.1, .bool (scs s now ys).2.2])
      rw [HH.out.1]
    · show After F0 g gm w _ (scanS s (ys.map (·.1)) now).1
      unfold scanS
      rw [if_neg (by rw [HM.out]; decide)]
      have h9 : (scanG s.cap now (ys.map (·.1)) s.es 0).2.2 = true := HH.out.1
      rw [h9]
      exact e3.2.after hwB
  case stop =>
    rintro D c pre W hD hp ⟨⟨rfl, hrun⟩, hb, hs⟩ hK
    obtain ⟨zs, rfl⟩ := hp
    have e3 := scan_end hb hs hwB hN hK hD
    have e4 := scs_stop s now pre zs hrun
    have E3 := Aside0.mk (And.intro hrun (And.intro e3 (And.intro e4 hK)))
    clear hb hs e3 e4 hrun hbx hbl h0 hK
    gi_wp2
    refine ⟨by simp, .inl ⟨_, _, rfl, run_takeDeferred E3.out.2.2.2, ?_⟩⟩
    have h8 : scanG s.cap now ((pre ++ zs).map (·.1)) s.es 0 = scs s now pre := E3.out.2.2.1
    refine ⟨_, results_cells2 rfl _ _ _ _ _ _ rfl rfl (load_box3 E3.out.2.1.1.b6) (load_box4 E3.out.2.1.1.b7), ?_, ?_⟩
    · rw [h8, E3.out.1]
    · unfold scanS
      rw [if_neg (by rw [HM.out]; decide), h8, E3.out.1]
      exact E3.out.2.1.2.after hwB
end Go.Proofs.Ytbhibodgbgndbaa.B
/- Scan of a backlog, as a contract. Condition: at most 1000000 identities. -/
namespace Go.Proofs.Ytbhibodgbgndbaa.B
open Go Go.RowKit Go.Shelf Go.Proofs Go.Proofs.YtbhibodgbgndbaaW.PrintWords Go.Proofs.YtbhibodgbgndbaaW.PrintLast Go.Proofs.YtbhibodgbgndbaaW.PrintMore
set_option linter.unusedVariables false
set_option linter.unusedSimpArgs false
set_option maxRecDepth 100000
set_option maxHeartbeats 8000000
theorem scan_min (w : World) (g Bs : Nat) (now : Int) (hm : minB now = false) : Calls Try.prog 23 #[.pointer (some ⟨g, 0, none⟩), .func (.func 46) #[] #[.pointer (some ⟨Bs, 0, none⟩)], .int .i64 now] w fun e w' => e = .returned (.tuple #[.int .i64 0, .bool false]) ∧ Below w.heap.size w w' := by
  have HM := Aside0.mk hm
  have he := eq_fn
  clear hm
  go_enter Try.func23, Try.ntmps23
  go_wp2_with (first | (go_at_call 41; refine (minute_is now _).mono ?_; rintro e_ w1 ⟨rfl, hq⟩; subst w1; rw [HM.out]))
  refine bodyPost_ret (v := .tuple #[.int .i64 0, .bool false]) (by simp [results, Try.results23, go_sem]) rfl ⟨rfl, ?_⟩
  go_grown
theorem scan_is {w : World} {F : Nat → Prop} {g gm : Nat} {s : St} (h : BL w F g gm s) (ids : List (List Int)) (hid : ∀ x ∈ ids, Idok x) (hlen : ids.length ≤ 1000000) (Bs gb : Nat) (A : Option Addr) (c : Nat) (now : Int)
    (hBs : w.cell? ⟨Bs, 0, none⟩ = some (.slice A ids.length c)) (hA : 0 < ids.length → A = some ⟨gb, 0, none⟩) (hE : IdsAt w gb ids) (hg : gb < w.heap.size) (hF : ¬ F gb) :
    Calls Try.prog 23 #[.pointer (some ⟨g, 0, none⟩), .func (.func 46) #[] #[.pointer (some ⟨Bs, 0, none⟩)], .int .i64 now] w fun e w' => e = .returned (.tuple #[.int .i64 (scanS s ids now).2.1, .bool (scanS s ids now).2.2]) ∧ After F g gm w w' (scanS s ids now).1 := by
  by_cases hm : minB now = true
  · obtain ⟨l, rfl⟩ : ∃ l : List IdT, l.map (·.1) = ids := ⟨ids.attachWith Idok hid, by simp⟩
    rw [List.length_map] at hlen hBs hA
    have := callsIn_wide (n := 3).1 (scan_in 3 (by omega) h l hlen Bs gb A c now hm hBs hA hE hg hF)
    have e : scanS s (l.map (·.1)) now = ({ s with es := (scanG s.cap now (l.map (·.1)) s.es 0).1, missed := !(scanG s.cap now (l.map (·.1)) s.es 0).2.2 }, (scanG s.cap now (l.map (·.1)) s.es 0).2.1, (scanG s.cap now (l.map (·.1)) s.es 0).2.2) := by
      unfold scanS; rw [if_neg (by rw [hm]; decide)]
    rw [e] at this ⊢
    exact this
  · have hm' : minB now = false := by simpa using hm
    have e : scanS s ids now = (s, 0, false) := by unfold scanS; rw [if_pos hm']
    rw [e]
    exact (scan_min w g Bs now hm').mono fun e w' ⟨he, hb⟩ => ⟨he, .same h hb⟩
end Go.Proofs.Ytbhibodgbgndbaa.B
