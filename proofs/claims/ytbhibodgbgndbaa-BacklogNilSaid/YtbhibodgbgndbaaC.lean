/- slices.IndexFunc over entries with the closure that compares identities. Condition: at most 1000000 entries. -/
import Derived.Test.YtbhibodgbgndbaaB
namespace Go.Proofs.Ytbhibodgbgndbaa.B
open Go Go.RowKit Go.Proofs Go.Proofs.YtbhibodgbgndbaaW.PrintWords Go.Proofs.YtbhibodgbgndbaaW.PrintLast Go.Proofs.YtbhibodgbgndbaaW.PrintMore
set_option linter.unusedVariables false
set_option linter.unusedSimpArgs false

/-- An entry: its identity's bytes, the minute, the tries. -/
abbrev Ent := List Int × Int × Int
/-- The entries lie in a block. -/
def EntsAt (w : World) (gb : Nat) (es : List Ent) : Prop := ∀ i e, es[i]? = some e → w.rangeAt gb (i * 34) (entL e.1 e.2.1 e.2.2)
def idxGo (y : List Int) : List Ent → Nat → Int
  | [], _ => -1
  | e :: es, i => if e.1 = y then (i : Int) else idxGo y es (i + 1)
def idxOf (es : List Ent) (y : List Int) : Int := idxGo y es 0
theorem drop_at {es : List Ent} {i : Nat} {e : Ent} (h : es[i]? = some e) : es.drop i = e :: es.drop (i + 1) := by
  obtain ⟨hi, rfl⟩ := List.getElem?_eq_some_iff.1 h
  exact List.drop_eq_getElem_cons hi
theorem info59 : (Try.prog.info? 59).map (·.size) = some 34 := by kernel_rfl

set_option maxHeartbeats 4000000 in
set_option maxRecDepth 100000 in
theorem index_is (es : List Ent) (hes : ∀ e ∈ es, e.1.length = 32) (y : List Int) (hy : y.length = 32) (A : Option Addr) (gb cap bk : Nat) (hA : 0 < es.length → A = some ⟨gb, 0, none⟩) (hn : es.length ≤ 1000000) (w : World) (hr : EntsAt w gb es)
    (hb : w.rangeAt bk 0 (y.map (Value.int .u8))) :
    Calls Try.prog 63 #[.slice A es.length cap, .func (.func 64) #[] #[.pointer (some ⟨bk, 0, none⟩)]] w fun e w' => e = .returned (.int .i64 (idxOf es y)) ∧ Below w.heap.size w w' := by
  have HE := Aside0.mk hes
  have HY := Aside0.mk hy
  have HR := Aside0.mk hr
  have HB := Aside0.mk hb
  clear hes hy hr hb
  go_enter Try.func63, Try.ntmps63
  go_wp2
  go_loopw [8] (fun p8 wr => ∃ i : Nat, p8 = .int .i64 i ∧ Aside0 (i ≤ es.length ∧ idxOf es y = idxGo y (es.drop i) i) ∧ Aside0 (Below w.heap.size w wr))
    (fun p8 _ => es.length - (intOf p8).toNat)
  case atStart => exact ⟨0, rfl, ⟨Nat.zero_le _, rfl⟩, ⟨Below.refl _ _⟩⟩
  case round =>
    obtain ⟨i, rfl, HI, HW⟩ := hrel
    by_cases hi : i < es.length
    · obtain ⟨e, he⟩ : ∃ e, es[i]? = some e := ⟨_, List.getElem?_eq_getElem hi⟩
      have hA2 := hA (by omega)
      subst hA2
      have hlen := HE.out e (List.mem_of_getElem? he)
      have hrw := HR.out i e he
      have hr2 : wr.rangeAt gb (i * 34) (entL e.1 e.2.1 e.2.2) := fun j v hv => by
        have := hrw j v hv
        exact (HW.out.cell (World.block_lt_of_cell? _ _ this)).trans this
      have hb2 : wr.rangeAt bk 0 (y.map (Value.int .u8)) := fun j v hv => by
        have := HB.out j v hv
        exact (HW.out.cell (World.block_lt_of_cell? _ _ this)).trans this
      have HR2 := Aside0.mk hr2
      have HB2 := Aside0.mk hb2
      have HL := Aside0.mk hlen
      have HEI := Aside0.mk he
      clear hrw hr2 hb2 hlen he
      by_cases hq : e.1 = y
      · have hd : decide (e.1 = y) = true := decide_eq_true hq
        have HQ := Aside0.mk hq
        clear hq
        go_wp2_with (first | (go_at_call 64; refine (same_is e.1 y HL.out HY.out e.2.1 e.2.2 bk _ HB2.out).mono ?_; rintro e_ w2 ⟨rfl, hb2⟩) | (refine wpList_load_mid rfl 59 (.tmp 14) rfl gb (i * 34) rfl (entL e.1 e.2.1 e.2.2) _ HR2.out Try.underlying59 rfl (by rw [entL_len _ HL.out]; exact info59) ?_))
        refine bodyPost_ret (results_tmp rfl _ _ _) rfl ⟨?_, HW.out.trans (hb2.mono HW.out.size)⟩
        have h1 := HI.out.2
        rw [drop_at HEI.out, idxGo, if_pos HQ.out] at h1
        rw [h1]; rfl
      · have hd : decide (e.1 = y) = false := decide_eq_false hq
        have HQ := Aside0.mk hq
        clear hq
        go_wp2_with (first | (go_at_call 64; refine (same_is e.1 y HL.out HY.out e.2.1 e.2.2 bk _ HB2.out).mono ?_; rintro e_ w2 ⟨rfl, hb2⟩) | (refine wpList_load_mid rfl 59 (.tmp 14) rfl gb (i * 34) rfl (entL e.1 e.2.1 e.2.2) _ HR2.out Try.underlying59 rfl (by rw [entL_len _ HL.out]; exact info59) ?_))
        go_roundw
        case rel =>
          refine ⟨i + 1, by go_num, ⟨by omega, ?_⟩, ⟨HW.out.trans (hb2.mono HW.out.size)⟩⟩
          have h1 := HI.out.2
          rw [drop_at HEI.out, idxGo, if_neg HQ.out] at h1
          exact h1
        case measure => simp [intOf]; omega
    · have hle := HI.out.1
      go_wp2
      refine bodyPost_ret (results_tmp rfl _ _ _) rfl ⟨?_, HW.out⟩
      have h1 := HI.out.2
      rw [List.drop_eq_nil_of_le (by omega)] at h1
      rw [h1]; rfl
end Go.Proofs.Ytbhibodgbgndbaa.B
