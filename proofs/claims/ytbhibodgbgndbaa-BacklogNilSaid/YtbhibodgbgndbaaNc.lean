/- One operation as an argument; the law Nil. No condition. -/
import Derived.Test.YtbhibodgbgndbaaNb
import Derived.Deep.RegionHeld3
namespace Go.Proofs.Ytbhibodgbgndbaa.B
open Go Go.RowKit Go.Proofs Go.Proofs.YtbhibodgbgndbaaW.PrintWords Go.Proofs.YtbhibodgbgndbaaW.PrintLast Go.Proofs.YtbhibodgbgndbaaW.PrintMore
set_option linter.unusedVariables false
set_option linter.unusedSimpArgs false
attribute [local go_sem ↓] execOp_ld30 execOp_ld29 execOp_alc30 execOp_st30
attribute [local go_sem] run_alc30 run_st30

/-- What the law keeps hold of. -/
structure Kn (w V : World) (N4 : Nat) (o : OpV) : Prop where
  id : V.rangeAt N4 0 (o.id.map (Value.int .u8))
  now : V.cell? ⟨w.heap.size, 33, none⟩ = some (.int .i64 o.now)
  most : V.cell? ⟨w.heap.size, 34, none⟩ = some (.int .i64 o.most)
  low : Below w.heap.size w V
theorem Kn.step {w V V' : World} {N4 : Nat} {o : OpV} (h : Kn w V N4 o) (hb : Below V.heap.size V V') : Kn w V' N4 o :=
  ⟨range_below h.id hb, (hb.cell (World.block_lt_of_cell? _ _ h.now)).trans h.now, (hb.cell (World.block_lt_of_cell? _ _ h.most)).trans h.most, h.low.trans (hb.mono h.low.size)⟩
theorem Kn.ld {w V : World} {N4 : Nat} {o : OpV} (h : Kn w V N4 o) (hx : o.id.length = 32) : (ld30 (.pointer (some ⟨N4, 0, none⟩))).run Try.prog V = .ok (.agg (o.id.map (Value.int .u8)).toArray) V := run_ld30 V N4 o.id hx h.id
theorem own_one {w : World} {base : Nat} {v : Value} {n : Nat} {xs : List Value} {e : TypeId} {sz : Nat} (h : w.ownsRow base e sz v n xs) : v.oneCell' = true := by
  rcases h.2 with ⟨rfl, _⟩ | ⟨g, c, cur, rfl, _⟩ <;> rfl
set_option maxHeartbeats 16000000 in
set_option maxRecDepth 100000 in
theorem nil_law (cs : Array Value) (o : OpV) (w : World) (h : OpAt (w.alloc (.cells cs 33)) ⟨w.heap.size, 0, none⟩ o) (hb : o.ids.length * 32 ≤ 140737488355328) :
    Calls Try.prog 8 #[.agg cs] w fun e w' => e = .returned (.bool true) ∧ Below w.heap.size w w' := by
  have hu33 := Try.underlying33
  have hO := Aside0.mk h
  obtain ⟨A, C, hci, hlc, hA0, hcl⟩ := h.ids
  have HL := Aside0.mk (And.intro hlc hcl)
  have HXL : Aside0 (o.id.length = 32) := ⟨h.idok.1⟩
  clear h hcl hlc
  go_enter Try.func8, Try.ntmps8
  go_wp2_with (first
    | (go_at_call 10; refine (known_is _).mono ?_; rintro e_ w0 ⟨rfl, hb0⟩; have HO0 := hO.out.below (B := 0) hb0; have hl0 := run_ld29 w0 _ _ o.id HO0.idok.1 HO0.id; simp only [Nat.zero_add] at hl0))
  have HO1 := hO.out.below (B := 0) (below_alloc hb0 (.cells (idC o.id) 30))
  have c35 : (w0.alloc (.cells (idC o.id) 30)).cell? ⟨w.heap.size, 35, none⟩ = some (.slice A o.ids.length C) := by
    have h1 := (hb0.cell (World.block_lt_of_cell? _ _ hci)).trans hci
    simp only [Nat.zero_add] at h1
    exact cell_alloc h1 _
  have c33 : (w0.alloc (.cells (idC o.id) 30)).cell? ⟨w.heap.size, 33, none⟩ = some (.int .i64 o.now) := by
    have h1 := HO1.now
    simpa only [Nat.zero_add] using h1
  have c34 : (w0.alloc (.cells (idC o.id) 30)).cell? ⟨w.heap.size, 34, none⟩ = some (.int .i64 o.most) := by
    have h1 := HO1.most
    simpa only [Nat.zero_add] using h1
  have KD := Aside0.mk (show Kn w (w0.alloc (.cells (idC o.id) 30)) w0.heap.size o from ⟨id_range w0 o.id, c33, c34, (below_alloc (Below.refl _ _) _).trans ((below_alloc hb0 _).mono (by simp))⟩)
  have HV := Aside0.mk (fun (V : World) (hV : Below (w0.alloc (.cells (idC o.id) 30)).heap.size (w0.alloc (.cells (idC o.id) 30)) V) => show ∀ (i : Nat) (x : List Int), o.ids[i]? = some x → ∃ a, A = some a ∧ ∀ j u, (x.map (Value.int .u8))[j]? = some u → V.cell? (a.add (i * 32 + j)) = some u from fun i x hi => by
    obtain ⟨a, e, k⟩ := HL.out.2 i x hi
    refine ⟨a, e, fun j u hu => ?_⟩
    have h1 := k j u hu
    have h2 := (hb0.cell (World.block_lt_of_cell? _ _ h1)).trans h1
    have h3 := cell_alloc h2 (.cells (idC o.id) 30)
    exact (hV.cell (World.block_lt_of_cell? _ _ h3)).trans h3)
  clear hb0 hci HO0 HO1 hl0 c34
  go_region_held3 (fun w' => w'.cell? ⟨w.heap.size, 35, none⟩ = some (.slice A o.ids.length C) ∧ w'.cell? ⟨w.heap.size, 33, none⟩ = some (.int .i64 o.now))
    (first | go_keep_ranges | exact ⟨s5, s6⟩ | exact ⟨s3, s4⟩ | exact ⟨s1, s2⟩ | exact ⟨c35, c33⟩ | fail)
    (first
      | (go_at_call 36; refine (own_is A C o.ids hO.out.idsn hO.out.idsok _ (HV.out _ (below_drew1 (Below.refl _ _))) hb).mono ?_; rintro e_ w2 ⟨v2, rfl, ho2, hb2⟩; have HW2 := Aside0.mk hb2; have s1 := (hb2.cell (World.block_lt_of_cell? _ _ (show (w0.alloc (.cells (idC o.id) 30)).drew.cell? _ = _ from c35))).trans c35; have s2 := (hb2.cell (World.block_lt_of_cell? _ _ (show (w0.alloc (.cells (idC o.id) 30)).drew.cell? _ = _ from c33))).trans c33; have K2 := Aside0.mk (KD.out.step (below_drew1 (Below.refl _ _)) |>.step hb2); have hv2 := own_one ho2; clear hb2 ho2)
      | (go_at_call 24; refine (values_is _ v2 hv2).mono ?_; rintro e_ w3 ⟨rfl, hb3⟩; have s3 := (hb3.cell (World.block_lt_of_cell? _ _ s1)).trans s1; have s4 := (hb3.cell (World.block_lt_of_cell? _ _ s2)).trans s2; have K3 := Aside0.mk (K2.out.step hb3); clear hb3)
      | (go_at_call 23; refine (n_scan _ _ _).mono ?_; rintro e_ w4 ⟨rfl, hb4⟩; have s5 := (hb4.cell (World.block_lt_of_cell? _ _ s3)).trans s3; have s6 := (hb4.cell (World.block_lt_of_cell? _ _ s4)).trans s4; have K4 := Aside0.mk (K3.out.step hb4); clear hb4))
  have k4 := K4.out.ld HXL.out
  have k4n := K4.out.now
  clear s1 s2 s3 s4 s5 s6 c33 c35
  go_wp2_with (first
    | (go_at_call 12; refine (newS 3 3 (by omega) (by omega) (by omega) (by omega) _).mono ?_; rintro e_ w5 ⟨g, gm, rfl, hb5, HB5, hq1, hq2⟩; clear HB5 hq1 hq2; have K5 := Aside0.mk (K4.out.step hb5); clear hb5)
    | (go_at_call 23; refine (g_scan _ g 5).mono ?_; rintro e_ w6 ⟨rfl, hb6⟩; have K6 := Aside0.mk (K5.out.step hb6); have k6 := K6.out.ld HXL.out; have k6n := K6.out.now; clear hb6)
    | (go_at_call 13; refine (n_add _ o.id HXL.out _).mono ?_; rintro e_ w7 ⟨rfl, hb7⟩; have K7 := Aside0.mk (K6.out.step hb7); have k7 := K7.out.ld HXL.out; clear hb7)
    | (go_at_call 18; refine (n_off _ o.id HXL.out).mono ?_; rintro e_ w8 ⟨rfl, hb8⟩; have K8 := Aside0.mk (K7.out.step hb8); have k8 := K8.out.ld HXL.out; clear hb8)
    | (go_at_call 25; refine (n_ans _ o.id HXL.out).mono ?_; rintro e_ w9 ⟨rfl, hb9⟩; have K9 := Aside0.mk (K8.out.step hb9); have k9 := K9.out.ld HXL.out; have k9n := K9.out.now; clear hb9)
    | (go_at_call 20; refine (n_lat _ o.id HXL.out _).mono ?_; rintro e_ wA ⟨rfl, hbA⟩; have KA := Aside0.mk (K9.out.step hbA); have kA := KA.out.ld HXL.out; have kAn := KA.out.now; have kAm := KA.out.most; clear hbA)
    | (go_at_call 22; refine (n_next _ _ _).mono ?_; rintro e_ wB ⟨rfl, hq⟩; subst wB)
    | (go_at_call 19; refine (n_drop _).mono ?_; rintro e_ wB ⟨rfl, hq⟩; subst wB)
    | (go_at_call 17; refine (n_rem _ o.id HXL.out).mono ?_; rintro e_ wC ⟨rfl, hbC⟩; have KC := Aside0.mk (KA.out.step hbC); have kC := KC.out.ld HXL.out; clear hbC)
    | (go_at_call 15; refine (n_missed _).mono ?_; rintro e_ wB ⟨rfl, hq⟩; subst wB)
    | (go_at_call 14; refine (n_len _).mono ?_; rintro e_ wB ⟨rfl, hq⟩; subst wB)
    | (go_at_call 28; refine (n_out _).mono ?_; rintro e_ wB ⟨rfl, hq⟩; subst wB)
    | (go_at_call 27; refine (n_all _).mono ?_; rintro e_ wB ⟨rfl, hq⟩; subst wB)
    | (go_at_call 16; refine (n_has _ o.id).mono ?_; rintro e_ wD ⟨rfl, hbD⟩; have KD2 := Aside0.mk (KC.out.step hbD); clear hbD)
    | (go_at_call 37; refine (n_enc _).mono ?_; rintro e_ wB ⟨rfl, hq⟩; subst wB)
    | (go_at_call 31; refine (n_clone _).mono ?_; rintro e_ wB ⟨rfl, hq⟩; subst wB)
    | (go_at_call 34; have E2 := E1; refine (n_eq2 _ g).mono ?_; rintro e_ wB ⟨rfl, hq⟩; subst wB)
    | (go_at_call 34; have E1 := E0; refine (n_eq1 _ g).mono ?_; rintro e_ wB ⟨rfl, hq⟩; subst wB)
    | (go_at_call 34; refine (n_eq0 _).mono ?_; rintro e_ wB ⟨rfl, hq⟩; subst wB; have E0 := Aside0.mk trivial))
  go_ret
  exact ⟨rfl, KD2.out.low⟩
end Go.Proofs.Ytbhibodgbgndbaa.B
