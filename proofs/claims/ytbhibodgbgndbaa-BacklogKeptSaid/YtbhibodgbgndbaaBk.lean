/- The law Kept. No condition. -/
import Derived.Test.YtbhibodgbgndbaaBa
import Derived.Test.YtbhibodgbgndbaaBb
namespace Go.Proofs.Ytbhibodgbgndbaa.B
open Go Go.RowKit Go.Proofs Go.Proofs.YtbhibodgbgndbaaW.PrintWords Go.Proofs.YtbhibodgbgndbaaW.PrintLast Go.Proofs.YtbhibodgbgndbaaW.PrintMore
set_option linter.unusedVariables false
set_option linter.unusedSimpArgs false

/-- What the law Kept knows of the backlog. -/
structure Kp (s : St) : Prop where
  cap : s.cap = 100
  has : idN 200 ∈ s.es.map (·.1)
  due : ∀ e ∈ s.es, e.2.1 ≤ 105190559
theorem ok200 : Idok (idN 200) := idN_ok 200 (by decide)
theorem Kp.off {s : St} (h : Kp s) (x : List Int) : Kp (offS s x).1 := by
  unfold offS; split
  · exact ⟨h.cap, h.has, h.due⟩
  · exact h
theorem Kp.drop {s : St} (h : Kp s) : Kp (dropS s) := ⟨h.cap, h.has, h.due⟩
theorem Kp.add {s : St} (h : Kp s) (x : List Int) : Kp (addS s x 6).1 := by
  unfold addS
  split
  · exact h
  split
  · exact h
  split
  · exact h
  split
  · exact ⟨h.cap, h.has, h.due⟩
  · refine ⟨h.cap, ?_, fun e he => ?_⟩
    · simp only [List.map_append, List.mem_append]; exact .inl h.has
    · rcases List.mem_append.1 he with he | he
      · exact h.due e he
      · simp at he; subst he; show (6 : Int) ≤ _; omega
theorem Kp.lat {s : St} (h : Kp s) : Kp (latS s (idN 200) 7).1 := by
  unfold latS
  split
  · exact h
  · rename_i hn
    split
    · refine ⟨h.cap, by simp, fun e he => ?_⟩
      rcases List.mem_append.1 he with he | he
      · exact h.due e (List.mem_of_mem_eraseIdx he)
      · simp at he; subst he
        simp only [not_or, Bool.not_eq_false] at hn
        have := hn.2
        simp [minB] at this
        show 7 + s.wait ≤ _
        omega
    · exact h
theorem next_all (M most : Int) : ∀ (es : List Ent) (acc : List (List Int)), (∀ e ∈ es, e.2.1 ≤ M) → (acc.length : Int) + es.length ≤ most → nextG [] M most es acc = acc ++ es.map (·.1)
  | [], acc, _, _ => by simp [nextG]
  | e :: es, acc, hd, hl => by
    simp only [List.length_cons] at hl
    unfold nextG
    rw [if_neg (by omega), if_pos ⟨hd e (by simp), by simp⟩, next_all M most es _ (fun e he => hd e (by simp [he])) (by simp; omega)]
    simp
attribute [local go_sem ↓] execOp_ld30 execOp_ld29 execOp_alc30 execOp_st30
attribute [local go_sem] run_alc30 run_st30
theorem kp0 : addS ⟨100, 2, false, [], []⟩ (idN 200) 5 = (⟨100, 2, false, [(idN 200, 5, 0)], []⟩, 0) := by kernel_rfl
theorem kpc1 {w : World} {F : Nat → Prop} {g gm : Nat} (h : BL w F g gm ⟨100, 2, false, [], []⟩) : Calls Try.prog 13 #[.pointer (some ⟨g, 0, none⟩), .agg ((idN 200).map (Value.int .u8)).toArray, .int .i64 5] w fun e w' => e = .returned (.int .i64 0) ∧ After F g gm w w' ⟨100, 2, false, [(idN 200, 5, 0)], []⟩ := by
  have := add_is h ok200 5
  rw [kp0] at this; exact this
theorem On.after {B : Nat} {w0 w w1 : World} {F : Nat → Prop} {g gm : Nat} {s : St} (h : On B w0 w F) (ha : After F g gm w w1 s) : ∃ F1, On B w0 w1 F1 ∧ BL w1 F1 g gm s := by
  obtain ⟨F1, h1, h2, h3⟩ := ha
  exact ⟨F1, h.step h2 h3, h1⟩
theorem next200 {w : World} {F : Nat → Prop} {g gm : Nat} {s : St} (h : BL w F g gm (dropS s)) (hk : Kp s) : Calls Try.prog 22 #[.pointer (some ⟨g, 0, none⟩), .int .i64 105190559, .int .i64 1000] w fun e w' => ∃ v', e = .returned v' ∧
    w'.ownsRow w.heap.size 30 32 v' (s.es.map (·.1)).length (idsL (s.es.map (·.1))) ∧ Below w.heap.size w w' := by
  have := next_is h 105190559 1000
  have hf := h.wf.few
  have hc := hk.cap
  have hf' : (s.es.length : Int) ≤ s.cap := hf
  have hq : nextG (dropS s).out 105190559 1000 (dropS s).es [] = s.es.map (·.1) := by
    have := next_all 105190559 1000 s.es [] hk.due (by simp only [List.length_nil]; omega)
    rw [List.nil_append] at this
    exact this
  rw [hq] at this
  exact this
theorem has200 {w : World} {F : Nat → Prop} {g gm : Nat} {s : St} (h : BL w F g gm s) (hk : Kp s) : Calls Try.prog 16 #[.pointer (some ⟨g, 0, none⟩), .agg ((idN 200).map (Value.int .u8)).toArray] w fun e w' => e = .returned (.bool true) ∧ Below w.heap.size w w' := by
  have := hasS h ok200
  rw [decide_eq_true hk.has] at this
  exact this
theorem contains200 {w : World} {F : Nat → Prop} {g gm : Nat} {s : St} {w0 : World} (h : BL w0 F g gm s) (hk : Kp s) {v : Value} {base : Nat} (ho : w.ownsRow base 30 32 v (s.es.map (·.1)).length (idsL (s.es.map (·.1)))) : Calls Try.prog 21 #[v, .agg ((idN 200).map (Value.int .u8)).toArray] w fun e w' => e = .returned (.bool true) ∧ Below w.heap.size w w' := by
  have h1 : ∀ x ∈ s.es.map (·.1), x.length = 32 := fun x hx => by
    obtain ⟨e, he, e1⟩ := List.mem_map.1 hx
    rw [← e1]; exact h.wf.l32 e he
  have h2 : (s.es.map (·.1)).length ≤ 1000000 := by rw [List.length_map]; exact h.wf.len
  have h3 := hk.has
  generalize s.es.map (·.1) = L at h1 h2 h3 ho
  have := contains_is L h1 h2 (idN 200) (idN_len 200) v base w ho
  rw [decide_eq_true h3] at this
  exact this
set_option maxHeartbeats 16000000 in
set_option maxRecDepth 100000 in
theorem kept_law (A : Option Addr) (C : Nat) (l : List OpV) (hl : l.length ≤ maxLen) (w : World) (h : OpsAt w A l) :
    Calls Try.prog 4 #[.slice A l.length C] w fun e w' => e = .returned (.bool true) ∧ Below w.heap.size w w' := by
  by_cases hsm : smallB l = true
  · have HO := Aside0.mk (And.intro h (And.intro hl hsm))
    clear h hl hsm
    go_enter Try.func4, Try.ntmps4
    go_wp2_with (first
      | (go_at_call 10; refine (known_is _).mono ?_; rintro e_ w0 ⟨rfl, hb0⟩)
      | (go_at_call 11; refine (small_is A C l HO.out.2.1 _ (HO.out.1.below hb0)).mono ?_; rintro e_ w1 ⟨rfl, rfl⟩; rw [HO.out.2.2])
      | (go_at_call 12; refine (newS 100 2 (by omega) (by omega) (by decide) (by decide) _).mono ?_; rintro e_ w2 ⟨g, gm, rfl, hb2, HB2, hq1, hq2⟩)
      | (go_at_call 13; refine (kpc1 HB2).mono ?_; rintro e_ w3 ⟨rfl, ha3⟩))
    have o2 : On w.heap.size w w2 (fun k => k = g ∨ k = gm) := ⟨hb0.trans (hb2.mono hb0.size), by rintro k (rfl | rfl) <;> (have := hb0.size; omega), Nat.le_trans hb0.size hb2.size⟩
    obtain ⟨F3, o3, B3⟩ := o2.after ha3
    have HR0 := Aside0.mk (And.intro o3 (And.intro B3 (show Kp ⟨100, 2, false, [(idN 200, 5, 0)], []⟩ from ⟨rfl, by simp, by simp⟩)))
    clear hb0 hb2 HB2 hq1 hq2 o2 o3 B3 ha3
    go_loopw [5] (fun p5 wr => ∃ (i : Nat) (F : Nat → Prop) (s : St), p5 = .int .i64 i ∧ Aside0 (i ≤ l.length) ∧ Aside0 (On w.heap.size w wr F ∧ BL wr F g gm s ∧ Kp s)) (fun p5 _ => l.length - (intOf p5).toNat)
    case atStart => exact ⟨0, _, _, rfl, ⟨Nat.zero_le _⟩, HR0⟩
    case round =>
      obtain ⟨i, F, s, rfl, HI, HRD⟩ := hrel
      by_cases hi : i < l.length
      · obtain ⟨o, he⟩ : ∃ o, l[i]? = some o := ⟨_, List.getElem?_eq_getElem hi⟩
        obtain ⟨a, rfl, hO⟩ := (HO.out.1.below HRD.out.1.below) i o he
        have HX := Aside0.mk hO.idok
        have HXL : Aside0 (o.id.length = 32) := ⟨hO.idok.1⟩
        have hl0 := run_ld29 wr _ _ o.id hO.idok.1 hO.id
        have hl3 := ld30_new wr o.id hO.idok.1
        have hck := cell_alloc hO.kind (.cells (idC o.id) 30)
        have hlo := HO.out.2.1
        have hm : l.length ≤ 9223372036854775807 := by simpa [maxLen] using hlo
        have p1 : (0 : Int) ≤ (i : Int) := by omega
        have p2 : (i : Int) < (l.length : Int) := by omega
        have p3 := wrap_i64 ((i : Int) + 1) (by omega) (by omega)
        have O1 := Aside0.mk (HRD.out.1.read (below_alloc (Below.refl _ _) (.cells (idC o.id) 30)))
        have B1 := HRD.out.2.1.below (below_alloc (Below.refl _ _) (.cells (idC o.id) 30))
        clear he hO hlo
        by_cases hk0 : o.kind = 0
        · rw [hk0] at hck
          clear hk0
          go_wp2_with (first | (go_at_call 18; refine (offered_is B1 ok200).mono ?_; rintro e_ w4 ⟨rfl, ha4⟩; obtain ⟨F4, o4, B4⟩ := O1.out.after ha4; have K4 := HRD.out.2.2.off (idN 200)) | (go_at_call 16; refine (has200 B4 K4).mono ?_; rintro e_ w5 ⟨rfl, hb5⟩))
          go_roundw
          case rel => exact ⟨i + 1, F4, _, by go_num, ⟨by omega⟩, ⟨o4.read hb5, B4.below hb5, K4⟩⟩
          case measure => simp [intOf]; omega
        by_cases hk1 : o.kind = 1
        · rw [hk1] at hck
          clear hk0 hk1
          go_wp2_with (first | (go_at_call 19; refine (drop_is B1).mono ?_; rintro e_ w4 ⟨rfl, ha4⟩; obtain ⟨F4, o4, B4⟩ := O1.out.after ha4; have K4 := HRD.out.2.2.drop) | (go_at_call 16; refine (has200 B4 K4).mono ?_; rintro e_ w5 ⟨rfl, hb5⟩))
          go_roundw
          case rel => exact ⟨i + 1, F4, _, by go_num, ⟨by omega⟩, ⟨o4.read hb5, B4.below hb5, K4⟩⟩
          case measure => simp [intOf]; omega
        by_cases hk2 : o.kind = 2
        · rw [hk2] at hck
          clear hk0 hk1 hk2
          go_wp2_with (first | (go_at_call 20; refine (later_is B1 ok200 7).mono ?_; rintro e_ w4 ⟨rfl, ha4⟩; obtain ⟨F4, o4, B4⟩ := O1.out.after ha4; have K4 := HRD.out.2.2.lat) | (go_at_call 16; refine (has200 B4 K4).mono ?_; rintro e_ w5 ⟨rfl, hb5⟩))
          go_roundw
          case rel => exact ⟨i + 1, F4, _, by go_num, ⟨by omega⟩, ⟨o4.read hb5, B4.below hb5, K4⟩⟩
          case measure => simp [intOf]; omega
        by_cases hk3 : o.kind = 3
        · rw [hk3] at hck
          clear hk0 hk1 hk2 hk3
          go_wp2_with (first | (go_at_call 13; refine (add_is B1 HX.out 6).mono ?_; rintro e_ w4 ⟨rfl, ha4⟩; obtain ⟨F4, o4, B4⟩ := O1.out.after ha4; have K4 := HRD.out.2.2.add o.id) | (go_at_call 16; refine (has200 B4 K4).mono ?_; rintro e_ w5 ⟨rfl, hb5⟩))
          go_roundw
          case rel => exact ⟨i + 1, F4, _, by go_num, ⟨by omega⟩, ⟨o4.read hb5, B4.below hb5, K4⟩⟩
          case measure => simp [intOf]; omega
        by_cases hk4 : o.kind = 4
        · rw [hk4] at hck
          clear hk0 hk1 hk2 hk3 hk4
          go_wp2_with (first | (go_at_call 18; refine (offered_is B1 HX.out).mono ?_; rintro e_ w4 ⟨rfl, ha4⟩; obtain ⟨F4, o4, B4⟩ := O1.out.after ha4; have K4 := HRD.out.2.2.off o.id) | (go_at_call 16; refine (has200 B4 K4).mono ?_; rintro e_ w5 ⟨rfl, hb5⟩))
          go_roundw
          case rel => exact ⟨i + 1, F4, _, by go_num, ⟨by omega⟩, ⟨o4.read hb5, B4.below hb5, K4⟩⟩
          case measure => simp [intOf]; omega
        have hn0 : (o.kind == 0) = false := by simpa using hk0
        have hn1 : (o.kind == 1) = false := by simpa using hk1
        have hn2 : (o.kind == 2) = false := by simpa using hk2
        have hn3 : (o.kind == 3) = false := by simpa using hk3
        have hn4 : (o.kind == 4) = false := by simpa using hk4
        clear hk0 hk1 hk2 hk3 hk4
        go_wp2_with (first | (go_at_call 16; refine (has200 B1 HRD.out.2.2).mono ?_; rintro e_ w5 ⟨rfl, hb5⟩))
        go_roundw
        case rel => exact ⟨i + 1, F, s, by go_num, ⟨by omega⟩, ⟨O1.out.read hb5, B1.below hb5, HRD.out.2.2⟩⟩
        case measure => simp [intOf]; omega
      · have hle := HI.out
        go_wp2_with (first
          | (go_at_call 19; refine (drop_is HRD.out.2.1).mono ?_; rintro e_ w4 ⟨rfl, ha4⟩; obtain ⟨F4, o4, B4⟩ := HRD.out.1.after ha4)
          | (go_at_call 22; refine (next200 B4 HRD.out.2.2).mono ?_; rintro e_ w5 ⟨v5, rfl, ho5, hb5⟩; have HN := Aside0.mk (And.intro ho5 hb5); clear ho5 hb5)
          | (go_at_call 21; refine (contains200 HRD.out.2.1 HRD.out.2.2 HN.out.1).mono ?_; rintro e_ w6 ⟨rfl, hb6⟩))
        go_ret
        exact ⟨rfl, ((o4.read HN.out.2).read hb6).below⟩
  · have HO := Aside0.mk (And.intro h (And.intro hl (show smallB l = false by simpa using hsm)))
    clear h hl hsm
    go_enter Try.func4, Try.ntmps4
    go_wp2_with (first
      | (go_at_call 10; refine (known_is _).mono ?_; rintro e_ w3 ⟨rfl, hb3⟩; have HB9 := hb0)
      | (go_at_call 10; refine (known_is _).mono ?_; rintro e_ w0 ⟨rfl, hb0⟩)
      | (go_at_call 11; refine (small_is A C l HO.out.2.1 _ (HO.out.1.below hb0)).mono ?_; rintro e_ w1 ⟨rfl, rfl⟩; rw [HO.out.2.2]))
    go_ret
    exact ⟨rfl, hb0.trans (hb3.mono hb0.size)⟩
end Go.Proofs.Ytbhibodgbgndbaa.B
