/- The law Bounded. No condition. -/
import Derived.Test.YtbhibodgbgndbaaBb
import Derived.Deep.RegionHeld3
namespace Go.Proofs.Ytbhibodgbgndbaa.B
open Go Go.RowKit Go.Proofs Go.Proofs.YtbhibodgbgndbaaW.PrintWords Go.Proofs.YtbhibodgbgndbaaW.PrintLast Go.Proofs.YtbhibodgbgndbaaW.PrintMore
set_option linter.unusedVariables false
set_option linter.unusedSimpArgs false

attribute [local go_sem ↓] execOp_ld30 execOp_ld29 execOp_alc30 execOp_st30
attribute [local go_sem] run_alc30 run_st30
set_option maxHeartbeats 16000000 in
set_option maxRecDepth 100000 in
theorem bounded_law (c : Int) (hc : (Lit.int .u8 c).wf = true) (A : Option Addr) (C : Nat) (l : List OpV) (hl : l.length ≤ maxLen) (w : World) (h : OpsAt w A l) :
    Calls Try.prog 3 #[.int .u8 c, .slice A l.length C] w fun e w' => e = .returned (.bool true) ∧ Below w.heap.size w w' := by
  have hc2 : 0 ≤ c ∧ c ≤ 255 := by simp [Lit.wf] at hc; exact hc
  by_cases hsm : smallB l = true
  · have HO := Aside0.mk (And.intro h (And.intro hl hsm))
    clear h hl hsm
    go_enter Try.func3, Try.ntmps3
    go_wp2_with (first
      | (go_at_call 10; refine (known_is _).mono ?_; rintro e_ w0 ⟨rfl, hb0⟩)
      | (go_at_call 11; refine (small_is A C l HO.out.2.1 _ (HO.out.1.below hb0)).mono ?_; rintro e_ w1 ⟨rfl, rfl⟩; rw [HO.out.2.2])
      | (go_at_call 12; refine (newS (1 + c % 8) 3 (by omega) (by omega) (by decide) (by decide) _).mono ?_; rintro e_ w2 ⟨g, gm, rfl, hb2, HB2, hq1, hq2⟩))

    have HR0 := Aside0.mk (show Rd w w2 (fun k => k = g ∨ k = gm) g gm ⟨1 + c % 8, 3, false, [], []⟩ (1 + c % 8) from
      ⟨⟨hb0.trans (hb2.mono hb0.size), by rintro k (rfl | rfl) <;> (have := hb0.size; omega), Nat.le_trans hb0.size hb2.size⟩, HB2, by simp, rfl⟩)
    clear hb0 hb2 HB2 hq1 hq2 hc hc2
    generalize 1 + c % 8 = n at HR0 ⊢
    go_loopw [8] (fun p8 wr => ∃ (i : Nat) (F : Nat → Prop) (s : St), p8 = .int .i64 i ∧ Aside0 (i ≤ l.length) ∧ Aside0 (Rd w wr F g gm s n)) (fun p8 _ => l.length - (intOf p8).toNat)
    case atStart => exact ⟨0, _, _, rfl, ⟨Nat.zero_le _⟩, HR0⟩
    case round =>
      obtain ⟨i, F, s, rfl, HI, HRD⟩ := hrel
      by_cases hi : i < l.length
      ·
        obtain ⟨o, he⟩ : ∃ o, l[i]? = some o := ⟨_, List.getElem?_eq_getElem hi⟩
        obtain ⟨a, rfl, hO⟩ := (HO.out.1.below HRD.out.on.below) i o he
        have HX := Aside0.mk hO.idok
        have HXL : Aside0 (o.id.length = 32) := ⟨hO.idok.1⟩
        have hl0 := run_ld29 wr _ _ o.id hO.idok.1 hO.id
        have hl3 := ld30_new wr o.id hO.idok.1
        have hck := hO.kind
        have hlo := HO.out.2.1
        have hm : l.length ≤ 9223372036854775807 := by simpa [maxLen] using hlo
        have p1 : (0 : Int) ≤ (i : Int) := by omega
        have p2 : (i : Int) < (l.length : Int) := by omega
        have p3 := wrap_i64 ((i : Int) + 1) (by omega) (by omega)
        obtain ⟨b9, b0, z, r, e9, e0, ez, er, ecap, enz, hcs⟩ := add_seen s o.id HRD.out.bl.wf HRD.out.nz
        have hgtW : WF (addS s o.id 1).1 → ((addS s o.id 1).1.es.length : Int) ≤ n := fun h => by have := h.few; rw [ecap, HRD.out.cap] at this; exact this
        have HER := Aside0.mk er
        have HEZ := Aside0.mk ez
        have HEC := Aside0.mk (And.intro ecap (And.intro enz hgtW))
        have heq0 := eq_zero o.id hO.idok.1
        rw [ez] at heq0
        have HM : Aside0 (b9 = true → (addS s o.id 1).1.missed = true) := ⟨fun h => by
          rcases hcs with h1 | h1 | h1 | h1
          · exact h1.2.2.2.2.1
          all_goals (rw [h] at h1; exact absurd h1.1 (by simp))⟩
        have hne : b9 = true → (((addS s o.id 1).1.es.length : Int) == n) = true := fun h => by
          rcases hcs with h1 | h1 | h1 | h1
          · rw [h1.2.2.2.2.2, HRD.out.cap]; simp
          all_goals (rw [h] at h1; exact absurd h1.1 (by simp))
        have hcs' : (b9 = true ∧ b0 = false ∧ z = false ∧ r = false) ∨ (b9 = false ∧ b0 = true ∧ z = false ∧ r = true) ∨ (b9 = false ∧ b0 = false ∧ z = true ∧ r = false) ∨ (b9 = false ∧ b0 = false ∧ z = false ∧ r = true) := by
          rcases hcs with ⟨a1, a2, a3, a4, _⟩ | h1 | h1 | h1
          · exact .inl ⟨a1, a2, a3, a4⟩
          · exact .inr (.inl h1)
          · exact .inr (.inr (.inl h1))
          · exact .inr (.inr (.inr h1))
        have hgt : decide (((addS s o.id 1).1.es.length : Int) > n) = false := decide_eq_false (fun h => by
          have h1 := addS_few s o.id 1 HRD.out.bl.wf
          have h2 := HRD.out.cap
          omega)
        have HOK := Aside0.mk hO
        have hrs := rem_seen (addS s o.id 1).1 o.id (addS_wf s o.id 1 HRD.out.bl.wf HX.out) enz
        rw [er] at hrs
        have HREM := Aside0.mk hrs.1
        have HRH := Aside0.mk hrs
        have HE := Aside0.mk he
        clear he hO er ez ecap enz hgtW hcs hlo hrs
        by_cases hk : o.kind = 4
        · have hk4 : (o.kind == 4) = true := by simpa using hk
          clear hk
          rcases hcs' with ⟨rfl, rfl, rfl, rfl⟩ | ⟨rfl, rfl, rfl, rfl⟩ | ⟨rfl, rfl, rfl, rfl⟩ | ⟨rfl, rfl, rfl, rfl⟩
          · replace hne := hne rfl
            have hne2 : ((addS s o.id 1).1.es.length : Int) = n := by simpa using hne
            go_wp2_with (first
              | (go_at_call 13; refine (add_is (HRD.out.bl.below (below_alloc (Below.refl _ _) _)) HX.out 1).mono ?_; rintro e_ w2 ⟨rfl, F1, B1, hF1, U1⟩; have hr2 : w2.rangeAt wr.heap.size 0 (o.id.map (Value.int .u8)) := box_far U1 HRD.out.bl.lt; have hl2 := run_ld30 w2 wr.heap.size o.id HX.out.1 hr2; have ON2 := Aside0.mk ((HRD.out.on.read (below_alloc (Below.refl _ _) _)).step hF1 U1); have hck2 := (op_at HO.out.1 HE.out ON2.out.below).kind; have N2 : ¬ F1 wr.heap.size := not_own hF1 HRD.out.bl.lt)
              | (go_at_call 14; refine (lenS B1).mono ?_; rintro e_ w3 ⟨rfl, hq3⟩; subst w3)
              | (go_at_call 15; refine (missedS B1).mono ?_; rintro e_ w3 ⟨rfl, hq3⟩; subst w3; rw [HM.out trivial])
              | (go_at_call 16; refine (hasS B1 HX.out).mono ?_; rintro e_ w3 ⟨rfl, hb3⟩; rw [HER.out]; have hr3 := range_below hr2 hb3; have B3 := B1.below hb3; have ON3 := Aside0.mk (ON2.out.read hb3); have hck3 := (op_at HO.out.1 HE.out ON3.out.below).kind; clear hb3))
            have n9 : ((addS s o.id 1).2 != 9) = false := by rw [bne, e9]; rfl
            have hu30 := Try.underlying30
            have hi30 : (Try.prog.info? 30).map (·.size) = some (o.id.map (Value.int .u8)).length := by rw [List.length_map, HX.out.1]; exact info30
            refine wp_region_noPanic ?_
            refine wp_region_held_drew (S := fun w' => w'.cell? (a.add (i * 36)) = some (.int .i64 o.kind) ∧ w'.rangeAt wr.heap.size 0 (o.id.map (Value.int .u8))) (by kernel_rfl) ⟨hck2, hr2⟩ (fun hHeld => ?_)
            refine wpAnyH_take (i := 0) (oi := { dst := some 73, op := Op.move (Operand.tmp 1), type := 22, pos := "law.go:161", after := #[], guard := none }) (v := ?_) rfl (by kernel_rfl) (by kernel_rfl) (by kernel_rfl) (fun _ _ _ h => h) (Or.inl ⟨by rfl, ?_⟩) (by assumption) ?_
            rotate_left 1
            · intro wq hSw; (try dsimp only at hSw); go_simp; try with_reducible rfl
            try simp only [Act.put, List.setIfInBounds_toArray, List.set_cons_zero, List.set_cons_succ]
            refine wpAnyH_take (i := 1) (oi := { dst := some 74, op := Op.move (Operand.tmp 8), type := 3, pos := "law.go:161", after := #[], guard := none }) (v := ?_) rfl (by kernel_rfl) (by kernel_rfl) (by kernel_rfl) (fun _ _ _ h => h) (Or.inl ⟨by rfl, ?_⟩) (by assumption) ?_
            rotate_left 1
            · intro wq hSw; (try dsimp only at hSw); go_simp; try with_reducible rfl
            try simp only [Act.put, List.setIfInBounds_toArray, List.set_cons_zero, List.set_cons_succ]
            refine wpAnyH_take (i := 2) (oi := { dst := some 75, op := Op.indexAddr 22 (Operand.tmp 73) (Operand.tmp 74), type := 0, pos := "law.go:161", after := #[{ on := 0, ground := Ground.data }, { on := 1, ground := Ground.data }], guard := none }) (v := ?_) rfl (by kernel_rfl) (by kernel_rfl) (by kernel_rfl) (fun _ _ _ h => h) (Or.inl ⟨by rfl, ?_⟩) (by assumption) ?_
            rotate_left 1
            · intro wq hSw; (try dsimp only at hSw); go_simp; try with_reducible rfl
            try simp only [Act.put, List.setIfInBounds_toArray, List.set_cons_zero, List.set_cons_succ]
            refine wpAnyH_take (i := 3) (oi := { dst := some 76, op := Op.fieldAddr 33 (Operand.tmp 75) 0, type := 0, pos := "law.go:161", after := #[{ on := 2, ground := Ground.data }], guard := none }) (v := ?_) rfl (by kernel_rfl) (by kernel_rfl) (by kernel_rfl) (fun _ _ _ h => h) (Or.inl ⟨by rfl, ?_⟩) (by assumption) ?_
            rotate_left 1
            · intro wq hSw; (try dsimp only at hSw); go_simp; try with_reducible rfl
            try simp only [Act.put, List.setIfInBounds_toArray, List.set_cons_zero, List.set_cons_succ]
            refine wpAnyH_take (i := 4) (oi := { dst := some 77, op := Op.load 3 (Operand.tmp 76), type := 3, pos := "law.go:161", after := #[{ on := 3, ground := Ground.data }], guard := none }) (v := ?_) rfl (by kernel_rfl) (by kernel_rfl) (by kernel_rfl) (fun _ _ _ h => h) (Or.inl ⟨by rfl, ?_⟩) (by assumption) ?_
            rotate_left 1
            · intro wq hSw; (try dsimp only at hSw); go_simp; try with_reducible rfl
            try simp only [Act.put, List.setIfInBounds_toArray, List.set_cons_zero, List.set_cons_succ]
            refine wpAnyH_take (i := 5) (oi := { dst := some 78, op := Op.binOp BinOp.eql 3 (Operand.tmp 77) (Operand.const (Value.int IntKind.i64 4)) 3, type := 4, pos := "law.go:161", after := #[{ on := 4, ground := Ground.data }], guard := none }) (v := ?_) rfl (by kernel_rfl) (by kernel_rfl) (by kernel_rfl) (fun _ _ _ h => h) (Or.inl ⟨by rfl, ?_⟩) (by assumption) ?_
            rotate_left 1
            · intro wq hSw; (try dsimp only at hSw); go_simp; try with_reducible rfl
            try simp only [Act.put, List.setIfInBounds_toArray, List.set_cons_zero, List.set_cons_succ]
            refine wpAnyH_take (i := 6) (oi := { dst := some 79, op := Op.move (Operand.tmp 78), type := 4, pos := "law.go:161", after := #[{ on := 5, ground := Ground.data }], guard := none }) (v := ?_) rfl (by kernel_rfl) (by kernel_rfl) (by kernel_rfl) (fun _ _ _ h => h) (Or.inl ⟨by rfl, ?_⟩) (by assumption) ?_
            rotate_left 1
            · intro wq hSw; (try dsimp only at hSw); go_simp; try with_reducible rfl
            try simp only [Act.put, List.setIfInBounds_toArray, List.set_cons_zero, List.set_cons_succ]
            refine wpAnyH_take (i := 7) (oi := { dst := some 80, op := Op.move (Operand.tmp 6), type := 25, pos := "law.go:161", after := #[{ on := 6, ground := Ground.guard }], guard := some (6, true) }) (v := ?_) rfl (by kernel_rfl) (by kernel_rfl) (by kernel_rfl) (fun _ _ _ h => h) (Or.inl ⟨by rfl, ?_⟩) (by assumption) ?_
            rotate_left 1
            · intro wq hSw; (try dsimp only at hSw); go_simp; try with_reducible rfl
            try simp only [Act.put, List.setIfInBounds_toArray, List.set_cons_zero, List.set_cons_succ]
            refine wpAnyH_take (i := 8) (oi := { dst := some 81, op := Op.load 30 (Operand.tmp 9), type := 30, pos := "law.go:161", after := #[{ on := 6, ground := Ground.guard }], guard := some (6, true) }) rfl (by kernel_rfl) (by kernel_rfl) (by kernel_rfl) (fun _ _ _ h => h) (yieldsIf_load_mid (by rfl) _ _ rfl wr.heap.size 0 rfl (o.id.map (Value.int .u8)) _ (fun wq hSw => hSw.2) hu30 rfl hi30) (by assumption) ?_
            try simp only [Act.put, List.setIfInBounds_toArray, List.set_cons_zero, List.set_cons_succ]
            refine wpAnyH_take (i := 10) (oi := { dst := some 83, op := Op.load 30 (Operand.tmp 9), type := 30, pos := "law.go:161", after := #[{ on := 6, ground := Ground.guard }], guard := some (6, true) }) rfl (by kernel_rfl) (by kernel_rfl) (by kernel_rfl) (fun _ _ _ h => h) (yieldsIf_load_mid (by rfl) _ _ rfl wr.heap.size 0 rfl (o.id.map (Value.int .u8)) _ (fun wq hSw => hSw.2) hu30 rfl hi30) (by assumption) ?_
            try simp only [Act.put, List.setIfInBounds_toArray, List.set_cons_zero, List.set_cons_succ]
            refine wpAnyH_take (i := 11) (oi := { dst := some 84, op := Op.build 30 #[], type := 30, pos := "law.go:161", after := #[{ on := 6, ground := Ground.guard }], guard := some (6, true) }) (v := ?_) rfl (by kernel_rfl) (by kernel_rfl) (by kernel_rfl) (fun _ _ _ h => h) (Or.inl ⟨by rfl, ?_⟩) (by assumption) ?_
            rotate_left 1
            · intro wq hSw; (try dsimp only at hSw); go_simp; try with_reducible rfl
            try simp only [Act.put, List.setIfInBounds_toArray, List.set_cons_zero, List.set_cons_succ]
            refine wpAnyH_take (i := 12) (oi := { dst := some 85, op := Op.binOp BinOp.neq 30 (Operand.tmp 83) (Operand.tmp 84) 30, type := 4, pos := "law.go:161", after := #[{ on := 10, ground := Ground.data }, { on := 11, ground := Ground.data }, { on := 6, ground := Ground.guard }], guard := some (6, true) }) (v := ?_) rfl (by kernel_rfl) (by kernel_rfl) (by kernel_rfl) (fun _ _ _ h => h) (Or.inl ⟨by rfl, ?_⟩) (by assumption) ?_
            rotate_left 1
            · intro wq hSw; (try dsimp only at hSw); go_simp; try with_reducible rfl
            try simp only [Act.put, List.setIfInBounds_toArray, List.set_cons_zero, List.set_cons_succ]
            refine wpAnyH_ready (rs := [9]) (by kernel_rfl) (by simp) ?_
            refine AllReadyH.cons (o := { dst := some 82, op := Op.call { callee := Callee.value (Operand.func 17), args := #[Operand.tmp 80, Operand.tmp 81], argTypes := #[25, 30] }, type := 4, pos := "law.go:161", after := #[{ on := 7, ground := Ground.data }, { on := 8, ground := Ground.data }, { on := 6, ground := Ground.chain }, { on := 6, ground := Ground.guard }], guard := some (6, true) }) rfl (fun K hK => ?_) AllReadyH.nil
            go_simp
            (go_at_call 17; refine (remove_is (drew_bl B1) HX.out).mono ?_; rintro e_ w5 ⟨rfl, F5, B5, hF5, U5⟩; rw [HREM.out]; have s6 : w5.rangeAt wr.heap.size 0 (o.id.map (Value.int .u8)) := range_upd (F := F1) (w := w2) hr2 ⟨U5.os, U5.tape, U5.output, U5.size, U5.block⟩ N2; have ON5 := Aside0.mk (On.step (w := w2) ON2.out hF5 ⟨U5.os, U5.tape, U5.output, U5.size, U5.block⟩); have s5 := (op_at HO.out.1 HE.out ON5.out.below).kind)
            refine hK.out _ _ (⟨s5, s6⟩) (fun hHeld => ?_)
            clear hK K
            try simp only [Act.put, List.setIfInBounds_toArray, List.set_cons_zero, List.set_cons_succ]
            refine wpAnyH_take (i := 13) (oi := { dst := some 86, op := Op.move (Operand.tmp 85), type := 4, pos := "law.go:161", after := #[{ on := 12, ground := Ground.data }, { on := 9, ground := Ground.chain }, { on := 6, ground := Ground.guard }], guard := some (6, true) }) (v := ?_) rfl (by kernel_rfl) (by kernel_rfl) (by kernel_rfl) (fun _ _ _ h => h) (Or.inl ⟨by rfl, ?_⟩) (by assumption) ?_
            rotate_left 1
            · intro wq hSw; (try dsimp only at hSw); go_simp; try with_reducible rfl
            try simp only [Act.put, List.setIfInBounds_toArray, List.set_cons_zero, List.set_cons_succ]
            refine wpAnyH_take (i := 14) (oi := { dst := some 87, op := Op.move (Operand.tmp 10), type := 26, pos := "law.go:161", after := #[{ on := 13, ground := Ground.guard }], guard := some (13, true) }) (v := ?_) rfl (by kernel_rfl) (by kernel_rfl) (by kernel_rfl) (fun _ _ _ h => h) (Or.inl ⟨by rfl, ?_⟩) (by assumption) ?_
            rotate_left 1
            · intro wq hSw; (try dsimp only at hSw); go_simp; try with_reducible rfl
            try simp only [Act.put, List.setIfInBounds_toArray, List.set_cons_zero, List.set_cons_succ]
            refine wpAnyH_take (i := 15) (oi := { dst := some 88, op := Op.binOp BinOp.neq 26 (Operand.tmp 87) (Operand.const (Value.int IntKind.i64 9)) 26, type := 4, pos := "law.go:161", after := #[{ on := 14, ground := Ground.data }, { on := 13, ground := Ground.guard }], guard := some (13, true) }) (v := ?_) rfl (by kernel_rfl) (by kernel_rfl) (by kernel_rfl) (fun _ _ _ h => h) (Or.inl ⟨by rfl, ?_⟩) (by assumption) ?_
            rotate_left 1
            · intro wq hSw; (try dsimp only at hSw); go_simp; try with_reducible rfl
            try simp only [Act.put, List.setIfInBounds_toArray, List.set_cons_zero, List.set_cons_succ]
            refine wpAnyH_take (i := 16) (oi := { dst := some 89, op := Op.pick (Operand.tmp 86) (Operand.tmp 88) (Operand.const (Value.bool false)), type := 4, pos := "law.go:161", after := #[{ on := 13, ground := Ground.data }, { on := 15, ground := Ground.data }, { on := 6, ground := Ground.guard }], guard := some (6, true) }) (v := ?_) rfl (by kernel_rfl) (by kernel_rfl) (by kernel_rfl) (fun _ _ _ h => h) (Or.inl ⟨by rfl, ?_⟩) (by assumption) ?_
            rotate_left 1
            · intro wq hSw; (try dsimp only at hSw); go_simp; try with_reducible rfl
            try simp only [Act.put, List.setIfInBounds_toArray, List.set_cons_zero, List.set_cons_succ]
            refine wpAnyH_take (i := 17) (oi := { dst := some 90, op := Op.binOp BinOp.neq 4 (Operand.tmp 82) (Operand.tmp 89) 4, type := 4, pos := "law.go:161", after := #[{ on := 9, ground := Ground.data }, { on := 16, ground := Ground.data }, { on := 6, ground := Ground.guard }], guard := some (6, true) }) (v := ?_) rfl (by kernel_rfl) (by kernel_rfl) (by kernel_rfl) (fun _ _ _ h => h) (Or.inl ⟨by rfl, ?_⟩) (by assumption) ?_
            rotate_left 1
            · intro wq hSw; (try dsimp only at hSw); go_simp; try with_reducible rfl
            try simp only [Act.put, List.setIfInBounds_toArray, List.set_cons_zero, List.set_cons_succ]
            refine wpAnyH_take (i := 18) (oi := { dst := some 91, op := Op.move (Operand.tmp 90), type := 4, pos := "law.go:161", after := #[{ on := 17, ground := Ground.data }, { on := 13, ground := Ground.chain }, { on := 6, ground := Ground.guard }], guard := some (6, true) }) (v := ?_) rfl (by kernel_rfl) (by kernel_rfl) (by kernel_rfl) (fun _ _ _ h => h) (Or.inl ⟨by rfl, ?_⟩) (by assumption) ?_
            rotate_left 1
            · intro wq hSw; (try dsimp only at hSw); go_simp; try with_reducible rfl
            try simp only [Act.put, List.setIfInBounds_toArray, List.set_cons_zero, List.set_cons_succ]
            refine wpAnyH_take (i := 19) (oi := { dst := some 92, op := Op.move (Operand.tmp 6), type := 25, pos := "law.go:161", after := #[{ on := 18, ground := Ground.guard }], guard := some (18, false) }) (v := ?_) rfl (by kernel_rfl) (by kernel_rfl) (by kernel_rfl) (fun _ _ _ h => h) (Or.inl ⟨by rfl, ?_⟩) (by assumption) ?_
            rotate_left 1
            · intro wq hSw; (try dsimp only at hSw); go_simp; try with_reducible rfl
            try simp only [Act.put, List.setIfInBounds_toArray, List.set_cons_zero, List.set_cons_succ]
            refine wpAnyH_take (i := 20) (oi := { dst := some 93, op := Op.load 30 (Operand.tmp 9), type := 30, pos := "law.go:161", after := #[{ on := 18, ground := Ground.guard }], guard := some (18, false) }) rfl (by kernel_rfl) (by kernel_rfl) (by kernel_rfl) (fun _ _ _ h => h) (yieldsIf_load_mid (by rfl) _ _ rfl wr.heap.size 0 rfl (o.id.map (Value.int .u8)) _ (fun wq hSw => hSw.2) hu30 rfl hi30) (by assumption) ?_
            try simp only [Act.put, List.setIfInBounds_toArray, List.set_cons_zero, List.set_cons_succ]
            refine wpAnyH_ready (rs := [21]) (by kernel_rfl) (by simp) ?_
            refine AllReadyH.cons (o := { dst := some 94, op := Op.call { callee := Callee.value (Operand.func 16), args := #[Operand.tmp 92, Operand.tmp 93], argTypes := #[25, 30] }, type := 4, pos := "law.go:161", after := #[{ on := 19, ground := Ground.data }, { on := 20, ground := Ground.data }, { on := 18, ground := Ground.chain }, { on := 18, ground := Ground.guard }], guard := some (18, false) }) rfl (fun K hK => ?_) AllReadyH.nil
            go_simp
            (go_at_call 16; refine (hasS B5 HX.out).mono ?_; rintro e_ w6 ⟨rfl, hb6⟩; rw [HRH.out.2.1]; have s8 := range_below s6 hb6; have ON6 := Aside0.mk (ON5.out.read hb6); have s7 := (op_at HO.out.1 HE.out ON6.out.below).kind; have B6 := B5.below hb6; clear hb6)
            refine hK.out _ _ (⟨s7, s8⟩) (fun hHeld => ?_)
            clear hK K
            try simp only [Act.put, List.setIfInBounds_toArray, List.set_cons_zero, List.set_cons_succ]
            refine wpAnyH_take (i := 22) (oi := { dst := some 95, op := Op.pick (Operand.tmp 91) (Operand.const (Value.bool true)) (Operand.tmp 94), type := 4, pos := "law.go:161", after := #[{ on := 18, ground := Ground.data }, { on := 21, ground := Ground.data }, { on := 6, ground := Ground.guard }], guard := some (6, true) }) (v := ?_) rfl (by kernel_rfl) (by kernel_rfl) (by kernel_rfl) (fun _ _ _ h => h) (Or.inl ⟨by rfl, ?_⟩) (by assumption) ?_
            rotate_left 1
            · intro wq hSw; (try dsimp only at hSw); go_simp; try with_reducible rfl
            try simp only [Act.put, List.setIfInBounds_toArray, List.set_cons_zero, List.set_cons_succ]
            refine wpAnyH_take (i := 23) (oi := { dst := some 96, op := Op.pick (Operand.tmp 79) (Operand.tmp 95) (Operand.const (Value.bool false)), type := 4, pos := "law.go:161", after := #[{ on := 6, ground := Ground.data }, { on := 22, ground := Ground.data }], guard := none }) (v := ?_) rfl (by kernel_rfl) (by kernel_rfl) (by kernel_rfl) (fun _ _ _ h => h) (Or.inl ⟨by rfl, ?_⟩) (by assumption) ?_
            rotate_left 1
            · intro wq hSw; (try dsimp only at hSw); go_simp; try with_reducible rfl
            try simp only [Act.put, List.setIfInBounds_toArray, List.set_cons_zero, List.set_cons_succ]
            refine wpAnyH_done (by kernel_rfl) ?_ _
            refine NoPanic.normal ?_
            go_wp2
            go_roundw
            case rel => exact ⟨i + 1, F5, (remS (addS s o.id 1).1 o.id).1, by go_num, ⟨by omega⟩, ⟨⟨ON6.out, B6, HRH.out.2.2.2, HRH.out.2.2.1.trans (HEC.out.1.trans HRD.out.cap)⟩⟩⟩
            case measure => simp [intOf]; omega
          · go_wp2_with (first
              | (go_at_call 13; refine (add_is (HRD.out.bl.below (below_alloc (Below.refl _ _) _)) HX.out 1).mono ?_; rintro e_ w2 ⟨rfl, F1, B1, hF1, U1⟩; have hr2 : w2.rangeAt wr.heap.size 0 (o.id.map (Value.int .u8)) := box_far U1 HRD.out.bl.lt; have hl2 := run_ld30 w2 wr.heap.size o.id HX.out.1 hr2; have ON2 := Aside0.mk ((HRD.out.on.read (below_alloc (Below.refl _ _) _)).step hF1 U1); have hck2 := (op_at HO.out.1 HE.out ON2.out.below).kind; have N2 : ¬ F1 wr.heap.size := not_own hF1 HRD.out.bl.lt)
              | (go_at_call 14; refine (lenS B1).mono ?_; rintro e_ w3 ⟨rfl, hq3⟩; subst w3)
              | (go_at_call 15; refine (missedS B1).mono ?_; rintro e_ w3 ⟨rfl, hq3⟩; subst w3; rw [HM.out trivial])
              | (go_at_call 16; refine (hasS B1 HX.out).mono ?_; rintro e_ w3 ⟨rfl, hb3⟩; rw [HER.out]; have hr3 := range_below hr2 hb3; have B3 := B1.below hb3; have ON3 := Aside0.mk (ON2.out.read hb3); have hck3 := (op_at HO.out.1 HE.out ON3.out.below).kind; clear hb3))
            have n9 : ((addS s o.id 1).2 != 9) = true := by rw [bne, e9]; rfl
            have hu30 := Try.underlying30
            have hi30 : (Try.prog.info? 30).map (·.size) = some (o.id.map (Value.int .u8)).length := by rw [List.length_map, HX.out.1]; exact info30
            refine wp_region_noPanic ?_
            refine wp_region_held_drew (S := fun w' => w'.cell? (a.add (i * 36)) = some (.int .i64 o.kind) ∧ w'.rangeAt wr.heap.size 0 (o.id.map (Value.int .u8))) (by kernel_rfl) ⟨hck3, hr3⟩ (fun hHeld => ?_)
            refine wpAnyH_take (i := 0) (oi := { dst := some 73, op := Op.move (Operand.tmp 1), type := 22, pos := "law.go:161", after := #[], guard := none }) (v := ?_) rfl (by kernel_rfl) (by kernel_rfl) (by kernel_rfl) (fun _ _ _ h => h) (Or.inl ⟨by rfl, ?_⟩) (by assumption) ?_
            rotate_left 1
            · intro wq hSw; (try dsimp only at hSw); go_simp; try with_reducible rfl
            try simp only [Act.put, List.setIfInBounds_toArray, List.set_cons_zero, List.set_cons_succ]
            refine wpAnyH_take (i := 1) (oi := { dst := some 74, op := Op.move (Operand.tmp 8), type := 3, pos := "law.go:161", after := #[], guard := none }) (v := ?_) rfl (by kernel_rfl) (by kernel_rfl) (by kernel_rfl) (fun _ _ _ h => h) (Or.inl ⟨by rfl, ?_⟩) (by assumption) ?_
            rotate_left 1
            · intro wq hSw; (try dsimp only at hSw); go_simp; try with_reducible rfl
            try simp only [Act.put, List.setIfInBounds_toArray, List.set_cons_zero, List.set_cons_succ]
            refine wpAnyH_take (i := 2) (oi := { dst := some 75, op := Op.indexAddr 22 (Operand.tmp 73) (Operand.tmp 74), type := 0, pos := "law.go:161", after := #[{ on := 0, ground := Ground.data }, { on := 1, ground := Ground.data }], guard := none }) (v := ?_) rfl (by kernel_rfl) (by kernel_rfl) (by kernel_rfl) (fun _ _ _ h => h) (Or.inl ⟨by rfl, ?_⟩) (by assumption) ?_
            rotate_left 1
            · intro wq hSw; (try dsimp only at hSw); go_simp; try with_reducible rfl
            try simp only [Act.put, List.setIfInBounds_toArray, List.set_cons_zero, List.set_cons_succ]
            refine wpAnyH_take (i := 3) (oi := { dst := some 76, op := Op.fieldAddr 33 (Operand.tmp 75) 0, type := 0, pos := "law.go:161", after := #[{ on := 2, ground := Ground.data }], guard := none }) (v := ?_) rfl (by kernel_rfl) (by kernel_rfl) (by kernel_rfl) (fun _ _ _ h => h) (Or.inl ⟨by rfl, ?_⟩) (by assumption) ?_
            rotate_left 1
            · intro wq hSw; (try dsimp only at hSw); go_simp; try with_reducible rfl
            try simp only [Act.put, List.setIfInBounds_toArray, List.set_cons_zero, List.set_cons_succ]
            refine wpAnyH_take (i := 4) (oi := { dst := some 77, op := Op.load 3 (Operand.tmp 76), type := 3, pos := "law.go:161", after := #[{ on := 3, ground := Ground.data }], guard := none }) (v := ?_) rfl (by kernel_rfl) (by kernel_rfl) (by kernel_rfl) (fun _ _ _ h => h) (Or.inl ⟨by rfl, ?_⟩) (by assumption) ?_
            rotate_left 1
            · intro wq hSw; (try dsimp only at hSw); go_simp; try with_reducible rfl
            try simp only [Act.put, List.setIfInBounds_toArray, List.set_cons_zero, List.set_cons_succ]
            refine wpAnyH_take (i := 5) (oi := { dst := some 78, op := Op.binOp BinOp.eql 3 (Operand.tmp 77) (Operand.const (Value.int IntKind.i64 4)) 3, type := 4, pos := "law.go:161", after := #[{ on := 4, ground := Ground.data }], guard := none }) (v := ?_) rfl (by kernel_rfl) (by kernel_rfl) (by kernel_rfl) (fun _ _ _ h => h) (Or.inl ⟨by rfl, ?_⟩) (by assumption) ?_
            rotate_left 1
            · intro wq hSw; (try dsimp only at hSw); go_simp; try with_reducible rfl
            try simp only [Act.put, List.setIfInBounds_toArray, List.set_cons_zero, List.set_cons_succ]
            refine wpAnyH_take (i := 6) (oi := { dst := some 79, op := Op.move (Operand.tmp 78), type := 4, pos := "law.go:161", after := #[{ on := 5, ground := Ground.data }], guard := none }) (v := ?_) rfl (by kernel_rfl) (by kernel_rfl) (by kernel_rfl) (fun _ _ _ h => h) (Or.inl ⟨by rfl, ?_⟩) (by assumption) ?_
            rotate_left 1
            · intro wq hSw; (try dsimp only at hSw); go_simp; try with_reducible rfl
            try simp only [Act.put, List.setIfInBounds_toArray, List.set_cons_zero, List.set_cons_succ]
            refine wpAnyH_take (i := 7) (oi := { dst := some 80, op := Op.move (Operand.tmp 6), type := 25, pos := "law.go:161", after := #[{ on := 6, ground := Ground.guard }], guard := some (6, true) }) (v := ?_) rfl (by kernel_rfl) (by kernel_rfl) (by kernel_rfl) (fun _ _ _ h => h) (Or.inl ⟨by rfl, ?_⟩) (by assumption) ?_
            rotate_left 1
            · intro wq hSw; (try dsimp only at hSw); go_simp; try with_reducible rfl
            try simp only [Act.put, List.setIfInBounds_toArray, List.set_cons_zero, List.set_cons_succ]
            refine wpAnyH_take (i := 8) (oi := { dst := some 81, op := Op.load 30 (Operand.tmp 9), type := 30, pos := "law.go:161", after := #[{ on := 6, ground := Ground.guard }], guard := some (6, true) }) rfl (by kernel_rfl) (by kernel_rfl) (by kernel_rfl) (fun _ _ _ h => h) (yieldsIf_load_mid (by rfl) _ _ rfl wr.heap.size 0 rfl (o.id.map (Value.int .u8)) _ (fun wq hSw => hSw.2) hu30 rfl hi30) (by assumption) ?_
            try simp only [Act.put, List.setIfInBounds_toArray, List.set_cons_zero, List.set_cons_succ]
            refine wpAnyH_take (i := 10) (oi := { dst := some 83, op := Op.load 30 (Operand.tmp 9), type := 30, pos := "law.go:161", after := #[{ on := 6, ground := Ground.guard }], guard := some (6, true) }) rfl (by kernel_rfl) (by kernel_rfl) (by kernel_rfl) (fun _ _ _ h => h) (yieldsIf_load_mid (by rfl) _ _ rfl wr.heap.size 0 rfl (o.id.map (Value.int .u8)) _ (fun wq hSw => hSw.2) hu30 rfl hi30) (by assumption) ?_
            try simp only [Act.put, List.setIfInBounds_toArray, List.set_cons_zero, List.set_cons_succ]
            refine wpAnyH_take (i := 11) (oi := { dst := some 84, op := Op.build 30 #[], type := 30, pos := "law.go:161", after := #[{ on := 6, ground := Ground.guard }], guard := some (6, true) }) (v := ?_) rfl (by kernel_rfl) (by kernel_rfl) (by kernel_rfl) (fun _ _ _ h => h) (Or.inl ⟨by rfl, ?_⟩) (by assumption) ?_
            rotate_left 1
            · intro wq hSw; (try dsimp only at hSw); go_simp; try with_reducible rfl
            try simp only [Act.put, List.setIfInBounds_toArray, List.set_cons_zero, List.set_cons_succ]
            refine wpAnyH_take (i := 12) (oi := { dst := some 85, op := Op.binOp BinOp.neq 30 (Operand.tmp 83) (Operand.tmp 84) 30, type := 4, pos := "law.go:161", after := #[{ on := 10, ground := Ground.data }, { on := 11, ground := Ground.data }, { on := 6, ground := Ground.guard }], guard := some (6, true) }) (v := ?_) rfl (by kernel_rfl) (by kernel_rfl) (by kernel_rfl) (fun _ _ _ h => h) (Or.inl ⟨by rfl, ?_⟩) (by assumption) ?_
            rotate_left 1
            · intro wq hSw; (try dsimp only at hSw); go_simp; try with_reducible rfl
            try simp only [Act.put, List.setIfInBounds_toArray, List.set_cons_zero, List.set_cons_succ]
            refine wpAnyH_ready (rs := [9]) (by kernel_rfl) (by simp) ?_
            refine AllReadyH.cons (o := { dst := some 82, op := Op.call { callee := Callee.value (Operand.func 17), args := #[Operand.tmp 80, Operand.tmp 81], argTypes := #[25, 30] }, type := 4, pos := "law.go:161", after := #[{ on := 7, ground := Ground.data }, { on := 8, ground := Ground.data }, { on := 6, ground := Ground.chain }, { on := 6, ground := Ground.guard }], guard := some (6, true) }) rfl (fun K hK => ?_) AllReadyH.nil
            go_simp
            (go_at_call 17; refine (remove_is (drew_bl B3) HX.out).mono ?_; rintro e_ w5 ⟨rfl, F5, B5, hF5, U5⟩; rw [HREM.out]; have s6 : w5.rangeAt wr.heap.size 0 (o.id.map (Value.int .u8)) := range_upd (F := F1) (w := w3) hr3 ⟨U5.os, U5.tape, U5.output, U5.size, U5.block⟩ N2; have ON5 := Aside0.mk (On.step (w := w3) ON3.out hF5 ⟨U5.os, U5.tape, U5.output, U5.size, U5.block⟩); have s5 := (op_at HO.out.1 HE.out ON5.out.below).kind)
            refine hK.out _ _ (⟨s5, s6⟩) (fun hHeld => ?_)
            clear hK K
            try simp only [Act.put, List.setIfInBounds_toArray, List.set_cons_zero, List.set_cons_succ]
            refine wpAnyH_take (i := 13) (oi := { dst := some 86, op := Op.move (Operand.tmp 85), type := 4, pos := "law.go:161", after := #[{ on := 12, ground := Ground.data }, { on := 9, ground := Ground.chain }, { on := 6, ground := Ground.guard }], guard := some (6, true) }) (v := ?_) rfl (by kernel_rfl) (by kernel_rfl) (by kernel_rfl) (fun _ _ _ h => h) (Or.inl ⟨by rfl, ?_⟩) (by assumption) ?_
            rotate_left 1
            · intro wq hSw; (try dsimp only at hSw); go_simp; try with_reducible rfl
            try simp only [Act.put, List.setIfInBounds_toArray, List.set_cons_zero, List.set_cons_succ]
            refine wpAnyH_take (i := 14) (oi := { dst := some 87, op := Op.move (Operand.tmp 10), type := 26, pos := "law.go:161", after := #[{ on := 13, ground := Ground.guard }], guard := some (13, true) }) (v := ?_) rfl (by kernel_rfl) (by kernel_rfl) (by kernel_rfl) (fun _ _ _ h => h) (Or.inl ⟨by rfl, ?_⟩) (by assumption) ?_
            rotate_left 1
            · intro wq hSw; (try dsimp only at hSw); go_simp; try with_reducible rfl
            try simp only [Act.put, List.setIfInBounds_toArray, List.set_cons_zero, List.set_cons_succ]
            refine wpAnyH_take (i := 15) (oi := { dst := some 88, op := Op.binOp BinOp.neq 26 (Operand.tmp 87) (Operand.const (Value.int IntKind.i64 9)) 26, type := 4, pos := "law.go:161", after := #[{ on := 14, ground := Ground.data }, { on := 13, ground := Ground.guard }], guard := some (13, true) }) (v := ?_) rfl (by kernel_rfl) (by kernel_rfl) (by kernel_rfl) (fun _ _ _ h => h) (Or.inl ⟨by rfl, ?_⟩) (by assumption) ?_
            rotate_left 1
            · intro wq hSw; (try dsimp only at hSw); go_simp; try with_reducible rfl
            try simp only [Act.put, List.setIfInBounds_toArray, List.set_cons_zero, List.set_cons_succ]
            refine wpAnyH_take (i := 16) (oi := { dst := some 89, op := Op.pick (Operand.tmp 86) (Operand.tmp 88) (Operand.const (Value.bool false)), type := 4, pos := "law.go:161", after := #[{ on := 13, ground := Ground.data }, { on := 15, ground := Ground.data }, { on := 6, ground := Ground.guard }], guard := some (6, true) }) (v := ?_) rfl (by kernel_rfl) (by kernel_rfl) (by kernel_rfl) (fun _ _ _ h => h) (Or.inl ⟨by rfl, ?_⟩) (by assumption) ?_
            rotate_left 1
            · intro wq hSw; (try dsimp only at hSw); go_simp; try with_reducible rfl
            try simp only [Act.put, List.setIfInBounds_toArray, List.set_cons_zero, List.set_cons_succ]
            refine wpAnyH_take (i := 17) (oi := { dst := some 90, op := Op.binOp BinOp.neq 4 (Operand.tmp 82) (Operand.tmp 89) 4, type := 4, pos := "law.go:161", after := #[{ on := 9, ground := Ground.data }, { on := 16, ground := Ground.data }, { on := 6, ground := Ground.guard }], guard := some (6, true) }) (v := ?_) rfl (by kernel_rfl) (by kernel_rfl) (by kernel_rfl) (fun _ _ _ h => h) (Or.inl ⟨by rfl, ?_⟩) (by assumption) ?_
            rotate_left 1
            · intro wq hSw; (try dsimp only at hSw); go_simp; try with_reducible rfl
            try simp only [Act.put, List.setIfInBounds_toArray, List.set_cons_zero, List.set_cons_succ]
            refine wpAnyH_take (i := 18) (oi := { dst := some 91, op := Op.move (Operand.tmp 90), type := 4, pos := "law.go:161", after := #[{ on := 17, ground := Ground.data }, { on := 13, ground := Ground.chain }, { on := 6, ground := Ground.guard }], guard := some (6, true) }) (v := ?_) rfl (by kernel_rfl) (by kernel_rfl) (by kernel_rfl) (fun _ _ _ h => h) (Or.inl ⟨by rfl, ?_⟩) (by assumption) ?_
            rotate_left 1
            · intro wq hSw; (try dsimp only at hSw); go_simp; try with_reducible rfl
            try simp only [Act.put, List.setIfInBounds_toArray, List.set_cons_zero, List.set_cons_succ]
            refine wpAnyH_take (i := 19) (oi := { dst := some 92, op := Op.move (Operand.tmp 6), type := 25, pos := "law.go:161", after := #[{ on := 18, ground := Ground.guard }], guard := some (18, false) }) (v := ?_) rfl (by kernel_rfl) (by kernel_rfl) (by kernel_rfl) (fun _ _ _ h => h) (Or.inl ⟨by rfl, ?_⟩) (by assumption) ?_
            rotate_left 1
            · intro wq hSw; (try dsimp only at hSw); go_simp; try with_reducible rfl
            try simp only [Act.put, List.setIfInBounds_toArray, List.set_cons_zero, List.set_cons_succ]
            refine wpAnyH_take (i := 20) (oi := { dst := some 93, op := Op.load 30 (Operand.tmp 9), type := 30, pos := "law.go:161", after := #[{ on := 18, ground := Ground.guard }], guard := some (18, false) }) rfl (by kernel_rfl) (by kernel_rfl) (by kernel_rfl) (fun _ _ _ h => h) (yieldsIf_load_mid (by rfl) _ _ rfl wr.heap.size 0 rfl (o.id.map (Value.int .u8)) _ (fun wq hSw => hSw.2) hu30 rfl hi30) (by assumption) ?_
            try simp only [Act.put, List.setIfInBounds_toArray, List.set_cons_zero, List.set_cons_succ]
            refine wpAnyH_ready (rs := [21]) (by kernel_rfl) (by simp) ?_
            refine AllReadyH.cons (o := { dst := some 94, op := Op.call { callee := Callee.value (Operand.func 16), args := #[Operand.tmp 92, Operand.tmp 93], argTypes := #[25, 30] }, type := 4, pos := "law.go:161", after := #[{ on := 19, ground := Ground.data }, { on := 20, ground := Ground.data }, { on := 18, ground := Ground.chain }, { on := 18, ground := Ground.guard }], guard := some (18, false) }) rfl (fun K hK => ?_) AllReadyH.nil
            go_simp
            (go_at_call 16; refine (hasS B5 HX.out).mono ?_; rintro e_ w6 ⟨rfl, hb6⟩; rw [HRH.out.2.1]; have s8 := range_below s6 hb6; have ON6 := Aside0.mk (ON5.out.read hb6); have s7 := (op_at HO.out.1 HE.out ON6.out.below).kind; have B6 := B5.below hb6; clear hb6)
            refine hK.out _ _ (⟨s7, s8⟩) (fun hHeld => ?_)
            clear hK K
            try simp only [Act.put, List.setIfInBounds_toArray, List.set_cons_zero, List.set_cons_succ]
            refine wpAnyH_take (i := 22) (oi := { dst := some 95, op := Op.pick (Operand.tmp 91) (Operand.const (Value.bool true)) (Operand.tmp 94), type := 4, pos := "law.go:161", after := #[{ on := 18, ground := Ground.data }, { on := 21, ground := Ground.data }, { on := 6, ground := Ground.guard }], guard := some (6, true) }) (v := ?_) rfl (by kernel_rfl) (by kernel_rfl) (by kernel_rfl) (fun _ _ _ h => h) (Or.inl ⟨by rfl, ?_⟩) (by assumption) ?_
            rotate_left 1
            · intro wq hSw; (try dsimp only at hSw); go_simp; try with_reducible rfl
            try simp only [Act.put, List.setIfInBounds_toArray, List.set_cons_zero, List.set_cons_succ]
            refine wpAnyH_take (i := 23) (oi := { dst := some 96, op := Op.pick (Operand.tmp 79) (Operand.tmp 95) (Operand.const (Value.bool false)), type := 4, pos := "law.go:161", after := #[{ on := 6, ground := Ground.data }, { on := 22, ground := Ground.data }], guard := none }) (v := ?_) rfl (by kernel_rfl) (by kernel_rfl) (by kernel_rfl) (fun _ _ _ h => h) (Or.inl ⟨by rfl, ?_⟩) (by assumption) ?_
            rotate_left 1
            · intro wq hSw; (try dsimp only at hSw); go_simp; try with_reducible rfl
            try simp only [Act.put, List.setIfInBounds_toArray, List.set_cons_zero, List.set_cons_succ]
            refine wpAnyH_done (by kernel_rfl) ?_ _
            refine NoPanic.normal ?_
            go_wp2
            go_roundw
            case rel => exact ⟨i + 1, F5, (remS (addS s o.id 1).1 o.id).1, by go_num, ⟨by omega⟩, ⟨⟨ON6.out, B6, HRH.out.2.2.2, HRH.out.2.2.1.trans (HEC.out.1.trans HRD.out.cap)⟩⟩⟩
            case measure => simp [intOf]; omega
          · go_wp2_with (first
              | (go_at_call 13; refine (add_is (HRD.out.bl.below (below_alloc (Below.refl _ _) _)) HX.out 1).mono ?_; rintro e_ w2 ⟨rfl, F1, B1, hF1, U1⟩; have hr2 : w2.rangeAt wr.heap.size 0 (o.id.map (Value.int .u8)) := box_far U1 HRD.out.bl.lt; have hl2 := run_ld30 w2 wr.heap.size o.id HX.out.1 hr2; have ON2 := Aside0.mk ((HRD.out.on.read (below_alloc (Below.refl _ _) _)).step hF1 U1); have hck2 := (op_at HO.out.1 HE.out ON2.out.below).kind; have N2 : ¬ F1 wr.heap.size := not_own hF1 HRD.out.bl.lt)
              | (go_at_call 14; refine (lenS B1).mono ?_; rintro e_ w3 ⟨rfl, hq3⟩; subst w3)
              | (go_at_call 15; refine (missedS B1).mono ?_; rintro e_ w3 ⟨rfl, hq3⟩; subst w3; rw [HM.out trivial])
              | (go_at_call 16; refine (hasS B1 HX.out).mono ?_; rintro e_ w3 ⟨rfl, hb3⟩; rw [HER.out]; have hr3 := range_below hr2 hb3; have B3 := B1.below hb3; have ON3 := Aside0.mk (ON2.out.read hb3); have hck3 := (op_at HO.out.1 HE.out ON3.out.below).kind; clear hb3))
            have n9 : ((addS s o.id 1).2 != 9) = true := by rw [bne, e9]; rfl
            have hu30 := Try.underlying30
            have hi30 : (Try.prog.info? 30).map (·.size) = some (o.id.map (Value.int .u8)).length := by rw [List.length_map, HX.out.1]; exact info30
            refine wp_region_noPanic ?_
            refine wp_region_held_drew (S := fun w' => w'.cell? (a.add (i * 36)) = some (.int .i64 o.kind) ∧ w'.rangeAt wr.heap.size 0 (o.id.map (Value.int .u8))) (by kernel_rfl) ⟨hck2, hr2⟩ (fun hHeld => ?_)
            refine wpAnyH_take (i := 0) (oi := { dst := some 73, op := Op.move (Operand.tmp 1), type := 22, pos := "law.go:161", after := #[], guard := none }) (v := ?_) rfl (by kernel_rfl) (by kernel_rfl) (by kernel_rfl) (fun _ _ _ h => h) (Or.inl ⟨by rfl, ?_⟩) (by assumption) ?_
            rotate_left 1
            · intro wq hSw; (try dsimp only at hSw); go_simp; try with_reducible rfl
            try simp only [Act.put, List.setIfInBounds_toArray, List.set_cons_zero, List.set_cons_succ]
            refine wpAnyH_take (i := 1) (oi := { dst := some 74, op := Op.move (Operand.tmp 8), type := 3, pos := "law.go:161", after := #[], guard := none }) (v := ?_) rfl (by kernel_rfl) (by kernel_rfl) (by kernel_rfl) (fun _ _ _ h => h) (Or.inl ⟨by rfl, ?_⟩) (by assumption) ?_
            rotate_left 1
            · intro wq hSw; (try dsimp only at hSw); go_simp; try with_reducible rfl
            try simp only [Act.put, List.setIfInBounds_toArray, List.set_cons_zero, List.set_cons_succ]
            refine wpAnyH_take (i := 2) (oi := { dst := some 75, op := Op.indexAddr 22 (Operand.tmp 73) (Operand.tmp 74), type := 0, pos := "law.go:161", after := #[{ on := 0, ground := Ground.data }, { on := 1, ground := Ground.data }], guard := none }) (v := ?_) rfl (by kernel_rfl) (by kernel_rfl) (by kernel_rfl) (fun _ _ _ h => h) (Or.inl ⟨by rfl, ?_⟩) (by assumption) ?_
            rotate_left 1
            · intro wq hSw; (try dsimp only at hSw); go_simp; try with_reducible rfl
            try simp only [Act.put, List.setIfInBounds_toArray, List.set_cons_zero, List.set_cons_succ]
            refine wpAnyH_take (i := 3) (oi := { dst := some 76, op := Op.fieldAddr 33 (Operand.tmp 75) 0, type := 0, pos := "law.go:161", after := #[{ on := 2, ground := Ground.data }], guard := none }) (v := ?_) rfl (by kernel_rfl) (by kernel_rfl) (by kernel_rfl) (fun _ _ _ h => h) (Or.inl ⟨by rfl, ?_⟩) (by assumption) ?_
            rotate_left 1
            · intro wq hSw; (try dsimp only at hSw); go_simp; try with_reducible rfl
            try simp only [Act.put, List.setIfInBounds_toArray, List.set_cons_zero, List.set_cons_succ]
            refine wpAnyH_take (i := 4) (oi := { dst := some 77, op := Op.load 3 (Operand.tmp 76), type := 3, pos := "law.go:161", after := #[{ on := 3, ground := Ground.data }], guard := none }) (v := ?_) rfl (by kernel_rfl) (by kernel_rfl) (by kernel_rfl) (fun _ _ _ h => h) (Or.inl ⟨by rfl, ?_⟩) (by assumption) ?_
            rotate_left 1
            · intro wq hSw; (try dsimp only at hSw); go_simp; try with_reducible rfl
            try simp only [Act.put, List.setIfInBounds_toArray, List.set_cons_zero, List.set_cons_succ]
            refine wpAnyH_take (i := 5) (oi := { dst := some 78, op := Op.binOp BinOp.eql 3 (Operand.tmp 77) (Operand.const (Value.int IntKind.i64 4)) 3, type := 4, pos := "law.go:161", after := #[{ on := 4, ground := Ground.data }], guard := none }) (v := ?_) rfl (by kernel_rfl) (by kernel_rfl) (by kernel_rfl) (fun _ _ _ h => h) (Or.inl ⟨by rfl, ?_⟩) (by assumption) ?_
            rotate_left 1
            · intro wq hSw; (try dsimp only at hSw); go_simp; try with_reducible rfl
            try simp only [Act.put, List.setIfInBounds_toArray, List.set_cons_zero, List.set_cons_succ]
            refine wpAnyH_take (i := 6) (oi := { dst := some 79, op := Op.move (Operand.tmp 78), type := 4, pos := "law.go:161", after := #[{ on := 5, ground := Ground.data }], guard := none }) (v := ?_) rfl (by kernel_rfl) (by kernel_rfl) (by kernel_rfl) (fun _ _ _ h => h) (Or.inl ⟨by rfl, ?_⟩) (by assumption) ?_
            rotate_left 1
            · intro wq hSw; (try dsimp only at hSw); go_simp; try with_reducible rfl
            try simp only [Act.put, List.setIfInBounds_toArray, List.set_cons_zero, List.set_cons_succ]
            refine wpAnyH_take (i := 7) (oi := { dst := some 80, op := Op.move (Operand.tmp 6), type := 25, pos := "law.go:161", after := #[{ on := 6, ground := Ground.guard }], guard := some (6, true) }) (v := ?_) rfl (by kernel_rfl) (by kernel_rfl) (by kernel_rfl) (fun _ _ _ h => h) (Or.inl ⟨by rfl, ?_⟩) (by assumption) ?_
            rotate_left 1
            · intro wq hSw; (try dsimp only at hSw); go_simp; try with_reducible rfl
            try simp only [Act.put, List.setIfInBounds_toArray, List.set_cons_zero, List.set_cons_succ]
            refine wpAnyH_take (i := 8) (oi := { dst := some 81, op := Op.load 30 (Operand.tmp 9), type := 30, pos := "law.go:161", after := #[{ on := 6, ground := Ground.guard }], guard := some (6, true) }) rfl (by kernel_rfl) (by kernel_rfl) (by kernel_rfl) (fun _ _ _ h => h) (yieldsIf_load_mid (by rfl) _ _ rfl wr.heap.size 0 rfl (o.id.map (Value.int .u8)) _ (fun wq hSw => hSw.2) hu30 rfl hi30) (by assumption) ?_
            try simp only [Act.put, List.setIfInBounds_toArray, List.set_cons_zero, List.set_cons_succ]
            refine wpAnyH_take (i := 10) (oi := { dst := some 83, op := Op.load 30 (Operand.tmp 9), type := 30, pos := "law.go:161", after := #[{ on := 6, ground := Ground.guard }], guard := some (6, true) }) rfl (by kernel_rfl) (by kernel_rfl) (by kernel_rfl) (fun _ _ _ h => h) (yieldsIf_load_mid (by rfl) _ _ rfl wr.heap.size 0 rfl (o.id.map (Value.int .u8)) _ (fun wq hSw => hSw.2) hu30 rfl hi30) (by assumption) ?_
            try simp only [Act.put, List.setIfInBounds_toArray, List.set_cons_zero, List.set_cons_succ]
            refine wpAnyH_take (i := 11) (oi := { dst := some 84, op := Op.build 30 #[], type := 30, pos := "law.go:161", after := #[{ on := 6, ground := Ground.guard }], guard := some (6, true) }) (v := ?_) rfl (by kernel_rfl) (by kernel_rfl) (by kernel_rfl) (fun _ _ _ h => h) (Or.inl ⟨by rfl, ?_⟩) (by assumption) ?_
            rotate_left 1
            · intro wq hSw; (try dsimp only at hSw); go_simp; try with_reducible rfl
            try simp only [Act.put, List.setIfInBounds_toArray, List.set_cons_zero, List.set_cons_succ]
            refine wpAnyH_take (i := 12) (oi := { dst := some 85, op := Op.binOp BinOp.neq 30 (Operand.tmp 83) (Operand.tmp 84) 30, type := 4, pos := "law.go:161", after := #[{ on := 10, ground := Ground.data }, { on := 11, ground := Ground.data }, { on := 6, ground := Ground.guard }], guard := some (6, true) }) (v := ?_) rfl (by kernel_rfl) (by kernel_rfl) (by kernel_rfl) (fun _ _ _ h => h) (Or.inl ⟨by rfl, ?_⟩) (by assumption) ?_
            rotate_left 1
            · intro wq hSw; (try dsimp only at hSw); go_simp; try with_reducible rfl
            try simp only [Act.put, List.setIfInBounds_toArray, List.set_cons_zero, List.set_cons_succ]
            refine wpAnyH_ready (rs := [9]) (by kernel_rfl) (by simp) ?_
            refine AllReadyH.cons (o := { dst := some 82, op := Op.call { callee := Callee.value (Operand.func 17), args := #[Operand.tmp 80, Operand.tmp 81], argTypes := #[25, 30] }, type := 4, pos := "law.go:161", after := #[{ on := 7, ground := Ground.data }, { on := 8, ground := Ground.data }, { on := 6, ground := Ground.chain }, { on := 6, ground := Ground.guard }], guard := some (6, true) }) rfl (fun K hK => ?_) AllReadyH.nil
            go_simp
            (go_at_call 17; refine (remove_is (drew_bl B1) HX.out).mono ?_; rintro e_ w5 ⟨rfl, F5, B5, hF5, U5⟩; rw [HREM.out]; have s6 : w5.rangeAt wr.heap.size 0 (o.id.map (Value.int .u8)) := range_upd (F := F1) (w := w2) hr2 ⟨U5.os, U5.tape, U5.output, U5.size, U5.block⟩ N2; have ON5 := Aside0.mk (On.step (w := w2) ON2.out hF5 ⟨U5.os, U5.tape, U5.output, U5.size, U5.block⟩); have s5 := (op_at HO.out.1 HE.out ON5.out.below).kind)
            refine hK.out _ _ (⟨s5, s6⟩) (fun hHeld => ?_)
            clear hK K
            try simp only [Act.put, List.setIfInBounds_toArray, List.set_cons_zero, List.set_cons_succ]
            refine wpAnyH_take (i := 13) (oi := { dst := some 86, op := Op.move (Operand.tmp 85), type := 4, pos := "law.go:161", after := #[{ on := 12, ground := Ground.data }, { on := 9, ground := Ground.chain }, { on := 6, ground := Ground.guard }], guard := some (6, true) }) (v := ?_) rfl (by kernel_rfl) (by kernel_rfl) (by kernel_rfl) (fun _ _ _ h => h) (Or.inl ⟨by rfl, ?_⟩) (by assumption) ?_
            rotate_left 1
            · intro wq hSw; (try dsimp only at hSw); go_simp; try with_reducible rfl
            try simp only [Act.put, List.setIfInBounds_toArray, List.set_cons_zero, List.set_cons_succ]
            refine wpAnyH_take (i := 14) (oi := { dst := some 87, op := Op.move (Operand.tmp 10), type := 26, pos := "law.go:161", after := #[{ on := 13, ground := Ground.guard }], guard := some (13, true) }) rfl (by kernel_rfl) (by kernel_rfl) (by kernel_rfl) (fun _ _ _ h => h) (Or.inr ⟨by rfl, rfl⟩) (by assumption) ?_
            try simp only [Act.put, List.setIfInBounds_toArray, List.set_cons_zero, List.set_cons_succ]
            refine wpAnyH_take (i := 15) (oi := { dst := some 88, op := Op.binOp BinOp.neq 26 (Operand.tmp 87) (Operand.const (Value.int IntKind.i64 9)) 26, type := 4, pos := "law.go:161", after := #[{ on := 14, ground := Ground.data }, { on := 13, ground := Ground.guard }], guard := some (13, true) }) rfl (by kernel_rfl) (by kernel_rfl) (by kernel_rfl) (fun _ _ _ h => h) (Or.inr ⟨by rfl, rfl⟩) (by assumption) ?_
            try simp only [Act.put, List.setIfInBounds_toArray, List.set_cons_zero, List.set_cons_succ]
            refine wpAnyH_take (i := 16) (oi := { dst := some 89, op := Op.pick (Operand.tmp 86) (Operand.tmp 88) (Operand.const (Value.bool false)), type := 4, pos := "law.go:161", after := #[{ on := 13, ground := Ground.data }, { on := 15, ground := Ground.data }, { on := 6, ground := Ground.guard }], guard := some (6, true) }) (v := ?_) rfl (by kernel_rfl) (by kernel_rfl) (by kernel_rfl) (fun _ _ _ h => h) (Or.inl ⟨by rfl, ?_⟩) (by assumption) ?_
            rotate_left 1
            · intro wq hSw; (try dsimp only at hSw); go_simp; try with_reducible rfl
            try simp only [Act.put, List.setIfInBounds_toArray, List.set_cons_zero, List.set_cons_succ]
            refine wpAnyH_take (i := 17) (oi := { dst := some 90, op := Op.binOp BinOp.neq 4 (Operand.tmp 82) (Operand.tmp 89) 4, type := 4, pos := "law.go:161", after := #[{ on := 9, ground := Ground.data }, { on := 16, ground := Ground.data }, { on := 6, ground := Ground.guard }], guard := some (6, true) }) (v := ?_) rfl (by kernel_rfl) (by kernel_rfl) (by kernel_rfl) (fun _ _ _ h => h) (Or.inl ⟨by rfl, ?_⟩) (by assumption) ?_
            rotate_left 1
            · intro wq hSw; (try dsimp only at hSw); go_simp; try with_reducible rfl
            try simp only [Act.put, List.setIfInBounds_toArray, List.set_cons_zero, List.set_cons_succ]
            refine wpAnyH_take (i := 18) (oi := { dst := some 91, op := Op.move (Operand.tmp 90), type := 4, pos := "law.go:161", after := #[{ on := 17, ground := Ground.data }, { on := 13, ground := Ground.chain }, { on := 6, ground := Ground.guard }], guard := some (6, true) }) (v := ?_) rfl (by kernel_rfl) (by kernel_rfl) (by kernel_rfl) (fun _ _ _ h => h) (Or.inl ⟨by rfl, ?_⟩) (by assumption) ?_
            rotate_left 1
            · intro wq hSw; (try dsimp only at hSw); go_simp; try with_reducible rfl
            try simp only [Act.put, List.setIfInBounds_toArray, List.set_cons_zero, List.set_cons_succ]
            refine wpAnyH_take (i := 19) (oi := { dst := some 92, op := Op.move (Operand.tmp 6), type := 25, pos := "law.go:161", after := #[{ on := 18, ground := Ground.guard }], guard := some (18, false) }) (v := ?_) rfl (by kernel_rfl) (by kernel_rfl) (by kernel_rfl) (fun _ _ _ h => h) (Or.inl ⟨by rfl, ?_⟩) (by assumption) ?_
            rotate_left 1
            · intro wq hSw; (try dsimp only at hSw); go_simp; try with_reducible rfl
            try simp only [Act.put, List.setIfInBounds_toArray, List.set_cons_zero, List.set_cons_succ]
            refine wpAnyH_take (i := 20) (oi := { dst := some 93, op := Op.load 30 (Operand.tmp 9), type := 30, pos := "law.go:161", after := #[{ on := 18, ground := Ground.guard }], guard := some (18, false) }) rfl (by kernel_rfl) (by kernel_rfl) (by kernel_rfl) (fun _ _ _ h => h) (yieldsIf_load_mid (by rfl) _ _ rfl wr.heap.size 0 rfl (o.id.map (Value.int .u8)) _ (fun wq hSw => hSw.2) hu30 rfl hi30) (by assumption) ?_
            try simp only [Act.put, List.setIfInBounds_toArray, List.set_cons_zero, List.set_cons_succ]
            refine wpAnyH_ready (rs := [21]) (by kernel_rfl) (by simp) ?_
            refine AllReadyH.cons (o := { dst := some 94, op := Op.call { callee := Callee.value (Operand.func 16), args := #[Operand.tmp 92, Operand.tmp 93], argTypes := #[25, 30] }, type := 4, pos := "law.go:161", after := #[{ on := 19, ground := Ground.data }, { on := 20, ground := Ground.data }, { on := 18, ground := Ground.chain }, { on := 18, ground := Ground.guard }], guard := some (18, false) }) rfl (fun K hK => ?_) AllReadyH.nil
            go_simp
            (go_at_call 16; refine (hasS B5 HX.out).mono ?_; rintro e_ w6 ⟨rfl, hb6⟩; rw [HRH.out.2.1]; have s8 := range_below s6 hb6; have ON6 := Aside0.mk (ON5.out.read hb6); have s7 := (op_at HO.out.1 HE.out ON6.out.below).kind; have B6 := B5.below hb6; clear hb6)
            refine hK.out _ _ (⟨s7, s8⟩) (fun hHeld => ?_)
            clear hK K
            try simp only [Act.put, List.setIfInBounds_toArray, List.set_cons_zero, List.set_cons_succ]
            refine wpAnyH_take (i := 22) (oi := { dst := some 95, op := Op.pick (Operand.tmp 91) (Operand.const (Value.bool true)) (Operand.tmp 94), type := 4, pos := "law.go:161", after := #[{ on := 18, ground := Ground.data }, { on := 21, ground := Ground.data }, { on := 6, ground := Ground.guard }], guard := some (6, true) }) (v := ?_) rfl (by kernel_rfl) (by kernel_rfl) (by kernel_rfl) (fun _ _ _ h => h) (Or.inl ⟨by rfl, ?_⟩) (by assumption) ?_
            rotate_left 1
            · intro wq hSw; (try dsimp only at hSw); go_simp; try with_reducible rfl
            try simp only [Act.put, List.setIfInBounds_toArray, List.set_cons_zero, List.set_cons_succ]
            refine wpAnyH_take (i := 23) (oi := { dst := some 96, op := Op.pick (Operand.tmp 79) (Operand.tmp 95) (Operand.const (Value.bool false)), type := 4, pos := "law.go:161", after := #[{ on := 6, ground := Ground.data }, { on := 22, ground := Ground.data }], guard := none }) (v := ?_) rfl (by kernel_rfl) (by kernel_rfl) (by kernel_rfl) (fun _ _ _ h => h) (Or.inl ⟨by rfl, ?_⟩) (by assumption) ?_
            rotate_left 1
            · intro wq hSw; (try dsimp only at hSw); go_simp; try with_reducible rfl
            try simp only [Act.put, List.setIfInBounds_toArray, List.set_cons_zero, List.set_cons_succ]
            refine wpAnyH_done (by kernel_rfl) ?_ _
            refine NoPanic.normal ?_
            go_wp2
            go_roundw
            case rel => exact ⟨i + 1, F5, (remS (addS s o.id 1).1 o.id).1, by go_num, ⟨by omega⟩, ⟨⟨ON6.out, B6, HRH.out.2.2.2, HRH.out.2.2.1.trans (HEC.out.1.trans HRD.out.cap)⟩⟩⟩
            case measure => simp [intOf]; omega
          · go_wp2_with (first
              | (go_at_call 13; refine (add_is (HRD.out.bl.below (below_alloc (Below.refl _ _) _)) HX.out 1).mono ?_; rintro e_ w2 ⟨rfl, F1, B1, hF1, U1⟩; have hr2 : w2.rangeAt wr.heap.size 0 (o.id.map (Value.int .u8)) := box_far U1 HRD.out.bl.lt; have hl2 := run_ld30 w2 wr.heap.size o.id HX.out.1 hr2; have ON2 := Aside0.mk ((HRD.out.on.read (below_alloc (Below.refl _ _) _)).step hF1 U1); have hck2 := (op_at HO.out.1 HE.out ON2.out.below).kind; have N2 : ¬ F1 wr.heap.size := not_own hF1 HRD.out.bl.lt)
              | (go_at_call 14; refine (lenS B1).mono ?_; rintro e_ w3 ⟨rfl, hq3⟩; subst w3)
              | (go_at_call 15; refine (missedS B1).mono ?_; rintro e_ w3 ⟨rfl, hq3⟩; subst w3; rw [HM.out trivial])
              | (go_at_call 16; refine (hasS B1 HX.out).mono ?_; rintro e_ w3 ⟨rfl, hb3⟩; rw [HER.out]; have hr3 := range_below hr2 hb3; have B3 := B1.below hb3; have ON3 := Aside0.mk (ON2.out.read hb3); have hck3 := (op_at HO.out.1 HE.out ON3.out.below).kind; clear hb3))
            have n9 : ((addS s o.id 1).2 != 9) = true := by rw [bne, e9]; rfl
            have hu30 := Try.underlying30
            have hi30 : (Try.prog.info? 30).map (·.size) = some (o.id.map (Value.int .u8)).length := by rw [List.length_map, HX.out.1]; exact info30
            refine wp_region_noPanic ?_
            refine wp_region_held_drew (S := fun w' => w'.cell? (a.add (i * 36)) = some (.int .i64 o.kind) ∧ w'.rangeAt wr.heap.size 0 (o.id.map (Value.int .u8))) (by kernel_rfl) ⟨hck2, hr2⟩ (fun hHeld => ?_)
            refine wpAnyH_take (i := 0) (oi := { dst := some 73, op := Op.move (Operand.tmp 1), type := 22, pos := "law.go:161", after := #[], guard := none }) (v := ?_) rfl (by kernel_rfl) (by kernel_rfl) (by kernel_rfl) (fun _ _ _ h => h) (Or.inl ⟨by rfl, ?_⟩) (by assumption) ?_
            rotate_left 1
            · intro wq hSw; (try dsimp only at hSw); go_simp; try with_reducible rfl
            try simp only [Act.put, List.setIfInBounds_toArray, List.set_cons_zero, List.set_cons_succ]
            refine wpAnyH_take (i := 1) (oi := { dst := some 74, op := Op.move (Operand.tmp 8), type := 3, pos := "law.go:161", after := #[], guard := none }) (v := ?_) rfl (by kernel_rfl) (by kernel_rfl) (by kernel_rfl) (fun _ _ _ h => h) (Or.inl ⟨by rfl, ?_⟩) (by assumption) ?_
            rotate_left 1
            · intro wq hSw; (try dsimp only at hSw); go_simp; try with_reducible rfl
            try simp only [Act.put, List.setIfInBounds_toArray, List.set_cons_zero, List.set_cons_succ]
            refine wpAnyH_take (i := 2) (oi := { dst := some 75, op := Op.indexAddr 22 (Operand.tmp 73) (Operand.tmp 74), type := 0, pos := "law.go:161", after := #[{ on := 0, ground := Ground.data }, { on := 1, ground := Ground.data }], guard := none }) (v := ?_) rfl (by kernel_rfl) (by kernel_rfl) (by kernel_rfl) (fun _ _ _ h => h) (Or.inl ⟨by rfl, ?_⟩) (by assumption) ?_
            rotate_left 1
            · intro wq hSw; (try dsimp only at hSw); go_simp; try with_reducible rfl
            try simp only [Act.put, List.setIfInBounds_toArray, List.set_cons_zero, List.set_cons_succ]
            refine wpAnyH_take (i := 3) (oi := { dst := some 76, op := Op.fieldAddr 33 (Operand.tmp 75) 0, type := 0, pos := "law.go:161", after := #[{ on := 2, ground := Ground.data }], guard := none }) (v := ?_) rfl (by kernel_rfl) (by kernel_rfl) (by kernel_rfl) (fun _ _ _ h => h) (Or.inl ⟨by rfl, ?_⟩) (by assumption) ?_
            rotate_left 1
            · intro wq hSw; (try dsimp only at hSw); go_simp; try with_reducible rfl
            try simp only [Act.put, List.setIfInBounds_toArray, List.set_cons_zero, List.set_cons_succ]
            refine wpAnyH_take (i := 4) (oi := { dst := some 77, op := Op.load 3 (Operand.tmp 76), type := 3, pos := "law.go:161", after := #[{ on := 3, ground := Ground.data }], guard := none }) (v := ?_) rfl (by kernel_rfl) (by kernel_rfl) (by kernel_rfl) (fun _ _ _ h => h) (Or.inl ⟨by rfl, ?_⟩) (by assumption) ?_
            rotate_left 1
            · intro wq hSw; (try dsimp only at hSw); go_simp; try with_reducible rfl
            try simp only [Act.put, List.setIfInBounds_toArray, List.set_cons_zero, List.set_cons_succ]
            refine wpAnyH_take (i := 5) (oi := { dst := some 78, op := Op.binOp BinOp.eql 3 (Operand.tmp 77) (Operand.const (Value.int IntKind.i64 4)) 3, type := 4, pos := "law.go:161", after := #[{ on := 4, ground := Ground.data }], guard := none }) (v := ?_) rfl (by kernel_rfl) (by kernel_rfl) (by kernel_rfl) (fun _ _ _ h => h) (Or.inl ⟨by rfl, ?_⟩) (by assumption) ?_
            rotate_left 1
            · intro wq hSw; (try dsimp only at hSw); go_simp; try with_reducible rfl
            try simp only [Act.put, List.setIfInBounds_toArray, List.set_cons_zero, List.set_cons_succ]
            refine wpAnyH_take (i := 6) (oi := { dst := some 79, op := Op.move (Operand.tmp 78), type := 4, pos := "law.go:161", after := #[{ on := 5, ground := Ground.data }], guard := none }) (v := ?_) rfl (by kernel_rfl) (by kernel_rfl) (by kernel_rfl) (fun _ _ _ h => h) (Or.inl ⟨by rfl, ?_⟩) (by assumption) ?_
            rotate_left 1
            · intro wq hSw; (try dsimp only at hSw); go_simp; try with_reducible rfl
            try simp only [Act.put, List.setIfInBounds_toArray, List.set_cons_zero, List.set_cons_succ]
            refine wpAnyH_take (i := 7) (oi := { dst := some 80, op := Op.move (Operand.tmp 6), type := 25, pos := "law.go:161", after := #[{ on := 6, ground := Ground.guard }], guard := some (6, true) }) (v := ?_) rfl (by kernel_rfl) (by kernel_rfl) (by kernel_rfl) (fun _ _ _ h => h) (Or.inl ⟨by rfl, ?_⟩) (by assumption) ?_
            rotate_left 1
            · intro wq hSw; (try dsimp only at hSw); go_simp; try with_reducible rfl
            try simp only [Act.put, List.setIfInBounds_toArray, List.set_cons_zero, List.set_cons_succ]
            refine wpAnyH_take (i := 8) (oi := { dst := some 81, op := Op.load 30 (Operand.tmp 9), type := 30, pos := "law.go:161", after := #[{ on := 6, ground := Ground.guard }], guard := some (6, true) }) rfl (by kernel_rfl) (by kernel_rfl) (by kernel_rfl) (fun _ _ _ h => h) (yieldsIf_load_mid (by rfl) _ _ rfl wr.heap.size 0 rfl (o.id.map (Value.int .u8)) _ (fun wq hSw => hSw.2) hu30 rfl hi30) (by assumption) ?_
            try simp only [Act.put, List.setIfInBounds_toArray, List.set_cons_zero, List.set_cons_succ]
            refine wpAnyH_take (i := 10) (oi := { dst := some 83, op := Op.load 30 (Operand.tmp 9), type := 30, pos := "law.go:161", after := #[{ on := 6, ground := Ground.guard }], guard := some (6, true) }) rfl (by kernel_rfl) (by kernel_rfl) (by kernel_rfl) (fun _ _ _ h => h) (yieldsIf_load_mid (by rfl) _ _ rfl wr.heap.size 0 rfl (o.id.map (Value.int .u8)) _ (fun wq hSw => hSw.2) hu30 rfl hi30) (by assumption) ?_
            try simp only [Act.put, List.setIfInBounds_toArray, List.set_cons_zero, List.set_cons_succ]
            refine wpAnyH_take (i := 11) (oi := { dst := some 84, op := Op.build 30 #[], type := 30, pos := "law.go:161", after := #[{ on := 6, ground := Ground.guard }], guard := some (6, true) }) (v := ?_) rfl (by kernel_rfl) (by kernel_rfl) (by kernel_rfl) (fun _ _ _ h => h) (Or.inl ⟨by rfl, ?_⟩) (by assumption) ?_
            rotate_left 1
            · intro wq hSw; (try dsimp only at hSw); go_simp; try with_reducible rfl
            try simp only [Act.put, List.setIfInBounds_toArray, List.set_cons_zero, List.set_cons_succ]
            refine wpAnyH_take (i := 12) (oi := { dst := some 85, op := Op.binOp BinOp.neq 30 (Operand.tmp 83) (Operand.tmp 84) 30, type := 4, pos := "law.go:161", after := #[{ on := 10, ground := Ground.data }, { on := 11, ground := Ground.data }, { on := 6, ground := Ground.guard }], guard := some (6, true) }) (v := ?_) rfl (by kernel_rfl) (by kernel_rfl) (by kernel_rfl) (fun _ _ _ h => h) (Or.inl ⟨by rfl, ?_⟩) (by assumption) ?_
            rotate_left 1
            · intro wq hSw; (try dsimp only at hSw); go_simp; try with_reducible rfl
            try simp only [Act.put, List.setIfInBounds_toArray, List.set_cons_zero, List.set_cons_succ]
            refine wpAnyH_ready (rs := [9]) (by kernel_rfl) (by simp) ?_
            refine AllReadyH.cons (o := { dst := some 82, op := Op.call { callee := Callee.value (Operand.func 17), args := #[Operand.tmp 80, Operand.tmp 81], argTypes := #[25, 30] }, type := 4, pos := "law.go:161", after := #[{ on := 7, ground := Ground.data }, { on := 8, ground := Ground.data }, { on := 6, ground := Ground.chain }, { on := 6, ground := Ground.guard }], guard := some (6, true) }) rfl (fun K hK => ?_) AllReadyH.nil
            go_simp
            (go_at_call 17; refine (remove_is (drew_bl B1) HX.out).mono ?_; rintro e_ w5 ⟨rfl, F5, B5, hF5, U5⟩; rw [HREM.out]; have s6 : w5.rangeAt wr.heap.size 0 (o.id.map (Value.int .u8)) := range_upd (F := F1) (w := w2) hr2 ⟨U5.os, U5.tape, U5.output, U5.size, U5.block⟩ N2; have ON5 := Aside0.mk (On.step (w := w2) ON2.out hF5 ⟨U5.os, U5.tape, U5.output, U5.size, U5.block⟩); have s5 := (op_at HO.out.1 HE.out ON5.out.below).kind)
            refine hK.out _ _ (⟨s5, s6⟩) (fun hHeld => ?_)
            clear hK K
            try simp only [Act.put, List.setIfInBounds_toArray, List.set_cons_zero, List.set_cons_succ]
            refine wpAnyH_take (i := 13) (oi := { dst := some 86, op := Op.move (Operand.tmp 85), type := 4, pos := "law.go:161", after := #[{ on := 12, ground := Ground.data }, { on := 9, ground := Ground.chain }, { on := 6, ground := Ground.guard }], guard := some (6, true) }) (v := ?_) rfl (by kernel_rfl) (by kernel_rfl) (by kernel_rfl) (fun _ _ _ h => h) (Or.inl ⟨by rfl, ?_⟩) (by assumption) ?_
            rotate_left 1
            · intro wq hSw; (try dsimp only at hSw); go_simp; try with_reducible rfl
            try simp only [Act.put, List.setIfInBounds_toArray, List.set_cons_zero, List.set_cons_succ]
            refine wpAnyH_take (i := 14) (oi := { dst := some 87, op := Op.move (Operand.tmp 10), type := 26, pos := "law.go:161", after := #[{ on := 13, ground := Ground.guard }], guard := some (13, true) }) (v := ?_) rfl (by kernel_rfl) (by kernel_rfl) (by kernel_rfl) (fun _ _ _ h => h) (Or.inl ⟨by rfl, ?_⟩) (by assumption) ?_
            rotate_left 1
            · intro wq hSw; (try dsimp only at hSw); go_simp; try with_reducible rfl
            try simp only [Act.put, List.setIfInBounds_toArray, List.set_cons_zero, List.set_cons_succ]
            refine wpAnyH_take (i := 15) (oi := { dst := some 88, op := Op.binOp BinOp.neq 26 (Operand.tmp 87) (Operand.const (Value.int IntKind.i64 9)) 26, type := 4, pos := "law.go:161", after := #[{ on := 14, ground := Ground.data }, { on := 13, ground := Ground.guard }], guard := some (13, true) }) (v := ?_) rfl (by kernel_rfl) (by kernel_rfl) (by kernel_rfl) (fun _ _ _ h => h) (Or.inl ⟨by rfl, ?_⟩) (by assumption) ?_
            rotate_left 1
            · intro wq hSw; (try dsimp only at hSw); go_simp; try with_reducible rfl
            try simp only [Act.put, List.setIfInBounds_toArray, List.set_cons_zero, List.set_cons_succ]
            refine wpAnyH_take (i := 16) (oi := { dst := some 89, op := Op.pick (Operand.tmp 86) (Operand.tmp 88) (Operand.const (Value.bool false)), type := 4, pos := "law.go:161", after := #[{ on := 13, ground := Ground.data }, { on := 15, ground := Ground.data }, { on := 6, ground := Ground.guard }], guard := some (6, true) }) (v := ?_) rfl (by kernel_rfl) (by kernel_rfl) (by kernel_rfl) (fun _ _ _ h => h) (Or.inl ⟨by rfl, ?_⟩) (by assumption) ?_
            rotate_left 1
            · intro wq hSw; (try dsimp only at hSw); go_simp; try with_reducible rfl
            try simp only [Act.put, List.setIfInBounds_toArray, List.set_cons_zero, List.set_cons_succ]
            refine wpAnyH_take (i := 17) (oi := { dst := some 90, op := Op.binOp BinOp.neq 4 (Operand.tmp 82) (Operand.tmp 89) 4, type := 4, pos := "law.go:161", after := #[{ on := 9, ground := Ground.data }, { on := 16, ground := Ground.data }, { on := 6, ground := Ground.guard }], guard := some (6, true) }) (v := ?_) rfl (by kernel_rfl) (by kernel_rfl) (by kernel_rfl) (fun _ _ _ h => h) (Or.inl ⟨by rfl, ?_⟩) (by assumption) ?_
            rotate_left 1
            · intro wq hSw; (try dsimp only at hSw); go_simp; try with_reducible rfl
            try simp only [Act.put, List.setIfInBounds_toArray, List.set_cons_zero, List.set_cons_succ]
            refine wpAnyH_take (i := 18) (oi := { dst := some 91, op := Op.move (Operand.tmp 90), type := 4, pos := "law.go:161", after := #[{ on := 17, ground := Ground.data }, { on := 13, ground := Ground.chain }, { on := 6, ground := Ground.guard }], guard := some (6, true) }) (v := ?_) rfl (by kernel_rfl) (by kernel_rfl) (by kernel_rfl) (fun _ _ _ h => h) (Or.inl ⟨by rfl, ?_⟩) (by assumption) ?_
            rotate_left 1
            · intro wq hSw; (try dsimp only at hSw); go_simp; try with_reducible rfl
            try simp only [Act.put, List.setIfInBounds_toArray, List.set_cons_zero, List.set_cons_succ]
            refine wpAnyH_take (i := 19) (oi := { dst := some 92, op := Op.move (Operand.tmp 6), type := 25, pos := "law.go:161", after := #[{ on := 18, ground := Ground.guard }], guard := some (18, false) }) (v := ?_) rfl (by kernel_rfl) (by kernel_rfl) (by kernel_rfl) (fun _ _ _ h => h) (Or.inl ⟨by rfl, ?_⟩) (by assumption) ?_
            rotate_left 1
            · intro wq hSw; (try dsimp only at hSw); go_simp; try with_reducible rfl
            try simp only [Act.put, List.setIfInBounds_toArray, List.set_cons_zero, List.set_cons_succ]
            refine wpAnyH_take (i := 20) (oi := { dst := some 93, op := Op.load 30 (Operand.tmp 9), type := 30, pos := "law.go:161", after := #[{ on := 18, ground := Ground.guard }], guard := some (18, false) }) rfl (by kernel_rfl) (by kernel_rfl) (by kernel_rfl) (fun _ _ _ h => h) (yieldsIf_load_mid (by rfl) _ _ rfl wr.heap.size 0 rfl (o.id.map (Value.int .u8)) _ (fun wq hSw => hSw.2) hu30 rfl hi30) (by assumption) ?_
            try simp only [Act.put, List.setIfInBounds_toArray, List.set_cons_zero, List.set_cons_succ]
            refine wpAnyH_ready (rs := [21]) (by kernel_rfl) (by simp) ?_
            refine AllReadyH.cons (o := { dst := some 94, op := Op.call { callee := Callee.value (Operand.func 16), args := #[Operand.tmp 92, Operand.tmp 93], argTypes := #[25, 30] }, type := 4, pos := "law.go:161", after := #[{ on := 19, ground := Ground.data }, { on := 20, ground := Ground.data }, { on := 18, ground := Ground.chain }, { on := 18, ground := Ground.guard }], guard := some (18, false) }) rfl (fun K hK => ?_) AllReadyH.nil
            go_simp
            (go_at_call 16; refine (hasS B5 HX.out).mono ?_; rintro e_ w6 ⟨rfl, hb6⟩; rw [HRH.out.2.1]; have s8 := range_below s6 hb6; have ON6 := Aside0.mk (ON5.out.read hb6); have s7 := (op_at HO.out.1 HE.out ON6.out.below).kind; have B6 := B5.below hb6; clear hb6)
            refine hK.out _ _ (⟨s7, s8⟩) (fun hHeld => ?_)
            clear hK K
            try simp only [Act.put, List.setIfInBounds_toArray, List.set_cons_zero, List.set_cons_succ]
            refine wpAnyH_take (i := 22) (oi := { dst := some 95, op := Op.pick (Operand.tmp 91) (Operand.const (Value.bool true)) (Operand.tmp 94), type := 4, pos := "law.go:161", after := #[{ on := 18, ground := Ground.data }, { on := 21, ground := Ground.data }, { on := 6, ground := Ground.guard }], guard := some (6, true) }) (v := ?_) rfl (by kernel_rfl) (by kernel_rfl) (by kernel_rfl) (fun _ _ _ h => h) (Or.inl ⟨by rfl, ?_⟩) (by assumption) ?_
            rotate_left 1
            · intro wq hSw; (try dsimp only at hSw); go_simp; try with_reducible rfl
            try simp only [Act.put, List.setIfInBounds_toArray, List.set_cons_zero, List.set_cons_succ]
            refine wpAnyH_take (i := 23) (oi := { dst := some 96, op := Op.pick (Operand.tmp 79) (Operand.tmp 95) (Operand.const (Value.bool false)), type := 4, pos := "law.go:161", after := #[{ on := 6, ground := Ground.data }, { on := 22, ground := Ground.data }], guard := none }) (v := ?_) rfl (by kernel_rfl) (by kernel_rfl) (by kernel_rfl) (fun _ _ _ h => h) (Or.inl ⟨by rfl, ?_⟩) (by assumption) ?_
            rotate_left 1
            · intro wq hSw; (try dsimp only at hSw); go_simp; try with_reducible rfl
            try simp only [Act.put, List.setIfInBounds_toArray, List.set_cons_zero, List.set_cons_succ]
            refine wpAnyH_done (by kernel_rfl) ?_ _
            refine NoPanic.normal ?_
            go_wp2
            go_roundw
            case rel => exact ⟨i + 1, F5, (remS (addS s o.id 1).1 o.id).1, by go_num, ⟨by omega⟩, ⟨⟨ON6.out, B6, HRH.out.2.2.2, HRH.out.2.2.1.trans (HEC.out.1.trans HRD.out.cap)⟩⟩⟩
            case measure => simp [intOf]; omega
        · have hk4 : (o.kind == 4) = false := by simpa using hk
          clear hk
          rcases hcs' with ⟨rfl, rfl, rfl, rfl⟩ | ⟨rfl, rfl, rfl, rfl⟩ | ⟨rfl, rfl, rfl, rfl⟩ | ⟨rfl, rfl, rfl, rfl⟩
          · replace hne := hne rfl
            have hne2 : ((addS s o.id 1).1.es.length : Int) = n := by simpa using hne
            go_wp2_with (first
              | (go_at_call 13; refine (add_is (HRD.out.bl.below (below_alloc (Below.refl _ _) _)) HX.out 1).mono ?_; rintro e_ w2 ⟨rfl, F1, B1, hF1, U1⟩; have hr2 : w2.rangeAt wr.heap.size 0 (o.id.map (Value.int .u8)) := box_far U1 HRD.out.bl.lt; have hl2 := run_ld30 w2 wr.heap.size o.id HX.out.1 hr2; have ON2 := Aside0.mk ((HRD.out.on.read (below_alloc (Below.refl _ _) _)).step hF1 U1); have hck2 := (op_at HO.out.1 HE.out ON2.out.below).kind; have N2 : ¬ F1 wr.heap.size := not_own hF1 HRD.out.bl.lt)
              | (go_at_call 14; refine (lenS B1).mono ?_; rintro e_ w3 ⟨rfl, hq3⟩; subst w3)
              | (go_at_call 15; refine (missedS B1).mono ?_; rintro e_ w3 ⟨rfl, hq3⟩; subst w3; rw [HM.out trivial])
              | (go_at_call 16; refine (hasS B1 HX.out).mono ?_; rintro e_ w3 ⟨rfl, hb3⟩; rw [HER.out]; have hr3 := range_below hr2 hb3; have B3 := B1.below hb3; have ON3 := Aside0.mk (ON2.out.read hb3); have hck3 := (op_at HO.out.1 HE.out ON3.out.below).kind; clear hb3))
            go_quiet (fail)
            go_wp2
            go_roundw
            case rel => exact ⟨i + 1, F1, (addS s o.id 1).1, by go_num, ⟨by omega⟩, ⟨⟨ON2.out.read (drewN_mk _ _), B1.below (drewN_mk _ _), HEC.out.2.1, HEC.out.1.trans HRD.out.cap⟩⟩⟩
            case measure => simp [intOf]; omega
          · go_wp2_with (first
              | (go_at_call 13; refine (add_is (HRD.out.bl.below (below_alloc (Below.refl _ _) _)) HX.out 1).mono ?_; rintro e_ w2 ⟨rfl, F1, B1, hF1, U1⟩; have hr2 : w2.rangeAt wr.heap.size 0 (o.id.map (Value.int .u8)) := box_far U1 HRD.out.bl.lt; have hl2 := run_ld30 w2 wr.heap.size o.id HX.out.1 hr2; have ON2 := Aside0.mk ((HRD.out.on.read (below_alloc (Below.refl _ _) _)).step hF1 U1); have hck2 := (op_at HO.out.1 HE.out ON2.out.below).kind; have N2 : ¬ F1 wr.heap.size := not_own hF1 HRD.out.bl.lt)
              | (go_at_call 14; refine (lenS B1).mono ?_; rintro e_ w3 ⟨rfl, hq3⟩; subst w3)
              | (go_at_call 15; refine (missedS B1).mono ?_; rintro e_ w3 ⟨rfl, hq3⟩; subst w3; rw [HM.out trivial])
              | (go_at_call 16; refine (hasS B1 HX.out).mono ?_; rintro e_ w3 ⟨rfl, hb3⟩; rw [HER.out]; have hr3 := range_below hr2 hb3; have B3 := B1.below hb3; have ON3 := Aside0.mk (ON2.out.read hb3); have hck3 := (op_at HO.out.1 HE.out ON3.out.below).kind; clear hb3))
            go_quiet (fail)
            go_wp2
            go_roundw
            case rel => exact ⟨i + 1, F1, (addS s o.id 1).1, by go_num, ⟨by omega⟩, ⟨⟨ON3.out.read (drewN_mk _ _), B3.below (drewN_mk _ _), HEC.out.2.1, HEC.out.1.trans HRD.out.cap⟩⟩⟩
            case measure => simp [intOf]; omega
          · go_wp2_with (first
              | (go_at_call 13; refine (add_is (HRD.out.bl.below (below_alloc (Below.refl _ _) _)) HX.out 1).mono ?_; rintro e_ w2 ⟨rfl, F1, B1, hF1, U1⟩; have hr2 : w2.rangeAt wr.heap.size 0 (o.id.map (Value.int .u8)) := box_far U1 HRD.out.bl.lt; have hl2 := run_ld30 w2 wr.heap.size o.id HX.out.1 hr2; have ON2 := Aside0.mk ((HRD.out.on.read (below_alloc (Below.refl _ _) _)).step hF1 U1); have hck2 := (op_at HO.out.1 HE.out ON2.out.below).kind; have N2 : ¬ F1 wr.heap.size := not_own hF1 HRD.out.bl.lt)
              | (go_at_call 14; refine (lenS B1).mono ?_; rintro e_ w3 ⟨rfl, hq3⟩; subst w3)
              | (go_at_call 15; refine (missedS B1).mono ?_; rintro e_ w3 ⟨rfl, hq3⟩; subst w3; rw [HM.out trivial])
              | (go_at_call 16; refine (hasS B1 HX.out).mono ?_; rintro e_ w3 ⟨rfl, hb3⟩; rw [HER.out]; have hr3 := range_below hr2 hb3; have B3 := B1.below hb3; have ON3 := Aside0.mk (ON2.out.read hb3); have hck3 := (op_at HO.out.1 HE.out ON3.out.below).kind; clear hb3))
            go_quiet (fail)
            go_wp2
            go_roundw
            case rel => exact ⟨i + 1, F1, (addS s o.id 1).1, by go_num, ⟨by omega⟩, ⟨⟨ON2.out.read (drewN_mk _ _), B1.below (drewN_mk _ _), HEC.out.2.1, HEC.out.1.trans HRD.out.cap⟩⟩⟩
            case measure => simp [intOf]; omega
          · go_wp2_with (first
              | (go_at_call 13; refine (add_is (HRD.out.bl.below (below_alloc (Below.refl _ _) _)) HX.out 1).mono ?_; rintro e_ w2 ⟨rfl, F1, B1, hF1, U1⟩; have hr2 : w2.rangeAt wr.heap.size 0 (o.id.map (Value.int .u8)) := box_far U1 HRD.out.bl.lt; have hl2 := run_ld30 w2 wr.heap.size o.id HX.out.1 hr2; have ON2 := Aside0.mk ((HRD.out.on.read (below_alloc (Below.refl _ _) _)).step hF1 U1); have hck2 := (op_at HO.out.1 HE.out ON2.out.below).kind; have N2 : ¬ F1 wr.heap.size := not_own hF1 HRD.out.bl.lt)
              | (go_at_call 14; refine (lenS B1).mono ?_; rintro e_ w3 ⟨rfl, hq3⟩; subst w3)
              | (go_at_call 15; refine (missedS B1).mono ?_; rintro e_ w3 ⟨rfl, hq3⟩; subst w3; rw [HM.out trivial])
              | (go_at_call 16; refine (hasS B1 HX.out).mono ?_; rintro e_ w3 ⟨rfl, hb3⟩; rw [HER.out]; have hr3 := range_below hr2 hb3; have B3 := B1.below hb3; have ON3 := Aside0.mk (ON2.out.read hb3); have hck3 := (op_at HO.out.1 HE.out ON3.out.below).kind; clear hb3))
            go_quiet (fail)
            go_wp2
            go_roundw
            case rel => exact ⟨i + 1, F1, (addS s o.id 1).1, by go_num, ⟨by omega⟩, ⟨⟨ON2.out.read (drewN_mk _ _), B1.below (drewN_mk _ _), HEC.out.2.1, HEC.out.1.trans HRD.out.cap⟩⟩⟩
            case measure => simp [intOf]; omega
      · have hle := HI.out
        go_wp2
        go_ret
        exact ⟨rfl, HRD.out.on.below⟩
  · have HO := Aside0.mk (And.intro h (And.intro hl (show smallB l = false by simpa using hsm)))
    clear h hl hsm
    go_enter Try.func3, Try.ntmps3
    go_wp2_with (first
      | (go_at_call 10; refine (known_is _).mono ?_; rintro e_ w3 ⟨rfl, hb3⟩; have HB9 := hb0)
      | (go_at_call 10; refine (known_is _).mono ?_; rintro e_ w0 ⟨rfl, hb0⟩)
      | (go_at_call 11; refine (small_is A C l HO.out.2.1 _ (HO.out.1.below hb0)).mono ?_; rintro e_ w1 ⟨rfl, rfl⟩; rw [HO.out.2.2]))
    go_ret
    exact ⟨rfl, hb0.trans (hb3.mono hb0.size)⟩
end Go.Proofs.Ytbhibodgbgndbaa.B
