/- cut and find of a backlog. No condition. -/
import Derived.Test.YtbhibodgbgndbaaN
namespace Go.Proofs.Ytbhibodgbgndbaa.B
open Go Go.RowKit Go.Proofs Go.Proofs.YtbhibodgbgndbaaW.PrintWords Go.Proofs.YtbhibodgbgndbaaW.PrintLast Go.Proofs.YtbhibodgbgndbaaW.PrintMore
set_option linter.unusedVariables false
set_option linter.unusedSimpArgs false

theorem wrap_i64 (n : Int) (h1 : -9223372036854775808 ≤ n) (h2 : n ≤ 9223372036854775807) : IntKind.wrap .i64 n = n := by rw [IntKind.wrap_i64]; omega
theorem id_of_ent (w : World) (b o : Nat) (x : List Int) (d t : Int) (h : w.rangeAt b o (entL x d t)) : w.rangeAt b o (x.map (Value.int .u8)) := fun j v hv => by
  have hj := (List.getElem?_eq_some_iff.1 hv).1
  exact h j v (by unfold entL; rw [List.getElem?_append_left hj]; exact hv)
set_option maxHeartbeats 4000000 in
set_option maxRecDepth 100000 in
theorem cut_is (g gm gb : Nat) (cap wait : Int) (missed : Bool) (cp : Nat) (es : List Ent) (hes : ∀ e ∈ es, e.1.length = 32) (hn : es.length ≤ 1000000) (i : Nat) (e : Ent) (he : es[i]? = some e) (hid : Idok e.1) (out : List (List Int)) (w : World)
    (hB : BAt w g cap wait missed (.slice (some ⟨gb, 0, none⟩) es.length cp) gm) (ho : w.ownsRow 0 59 34 (.slice (some ⟨gb, 0, none⟩) es.length cp) es.length (entsL es)) (hO : OutAt w gm out) (h1 : gb ≠ g) (h2 : gb ≠ gm) (h3 : g ≠ gm) :
    Calls Try.prog 43 #[.pointer (some ⟨g, 0, none⟩), .int .i64 i] w fun e' w' => e' = .returned (.tuple #[]) ∧ ∃ w1 w2, w.grownBy w1 (some gm) ∧ OutAt w1 gm (out.erase e.1) ∧ w1.grownBy w2 (some gb) ∧
      w2.ownsRow 0 59 34 (.slice (some ⟨gb, 0, none⟩) (es.length - 1) cp) (es.length - 1) (entsL (es.eraseIdx i)) ∧ w' = w2.setCell ⟨g, 3, none⟩ (.slice (some ⟨gb, 0, none⟩) (es.length - 1) cp) := by
  have hu80 := Try.underlying80
  have hu30 := Try.underlying30
  obtain ⟨hi, hie⟩ := List.getElem?_eq_some_iff.1 he
  have hgl : g < w.heap.size := (Array.getElem?_eq_some_iff.1 hB).1
  have hgbl : gb < w.heap.size := (ho.lt gb rfl).2
  have hml := hO.lt
  obtain ⟨A, gb', cp', hv, hA, hE⟩ := ents_of_own hes ho
  cases hv
  have hA' := hA (by omega)
  cases hA'
  obtain ⟨hc0, hc1, hc2, hc3, hc4, hf2, hf3⟩ := bAt_cells hB
  have hr : w.rangeAt gb (i * 34) (e.1.map (Value.int .u8)) := id_of_ent w gb (i * 34) e.1 _ _ (hE i e he)
  have hi30 : (Try.prog.info? 30).map (·.size) = some (e.1.map (Value.int .u8)).length := by rw [List.length_map, hid.1]; exact info30
  have p1 : (0 : Int) ≤ (i : Int) := by omega
  have p2 : (i : Int) < (es.length : Int) := by omega
  have hw1 := wrap_i64 ((i : Int) + 1) (by omega) (by omega)
  have HX := Aside0.mk (And.intro hes (And.intro hid (And.intro hB (And.intro ho (And.intro hO (And.intro hf3 he))))))
  have HN := Aside0.mk (And.intro h1 (And.intro h2 (And.intro h3 (And.intro hgl (And.intro hgbl hml)))))
  clear hes hid hB ho hO hf3 he h1 h2 h3 hgl hgbl hml hE hA hc0 hc1 hc2 hf2 hie
  go_enter Try.func43, Try.ntmps43
  go_wp2
  go_region_held3 (fun w' => w'.cell? ⟨g, 3, none⟩ = some (.slice (some ⟨gb, 0, none⟩) es.length cp) ∧ w'.cell? ⟨g, 4, none⟩ = some (.map (some gm)) ∧ w'.rangeAt gb (i * 34) (e.1.map (Value.int .u8)))
    (first | go_keep_ranges | (go_split_ands; refine ⟨cell_grown (by assumption) (by assumption) (by simpa using HN.out.2.2.1), cell_grown (by assumption) (by assumption) (by simpa using HN.out.2.2.1), range_grown (by assumption) (by assumption) (by simpa using HN.out.2.1)⟩))
    (first | (refine step_del rfl (.tmp 7) (.tmp 15) rfl gm out (HX.out.2.2.2.2.1.kept rfl) e.1 HX.out.2.1 rfl rfl ?_; intro w1 ho1 hg1))
  replace hg1 : w.grownBy w1 (some gm) := ⟨hg1.os, hg1.tape, hg1.output, hg1.size, hg1.block⟩
  have r3 : w1.cell? ⟨g, 3, none⟩ = some (.slice (some ⟨gb, 0, none⟩) es.length cp) := cell_grown (W := w) hc3 hg1 (by simpa using HN.out.2.2.1)
  have rf3 : w1.frozen? ⟨g, 3, none⟩ = false := fro_grown (W := w) hc3 HX.out.2.2.2.2.2.1 hg1 (by simpa using HN.out.2.2.1)
  have ho2 := Aside0.mk (own_kept (w' := w1) HX.out.2.2.2.1 (fun k hk => by cases hk; exact hg1.block gb HN.out.2.2.2.2.1 (by simpa using HN.out.2.1)))
  have HG := Aside0.mk hg1
  have HO1 := Aside0.mk ho1
  clear hg1 ho1 hr
  go_wp2_with (first | (go_at_call 65; refine (delete_is es HX.out.1 hn i hi gb cp w1 ho2.out).mono ?_; rintro e_ w2 ⟨rfl, hod, hg2⟩; have r4 := cell_grown r3 hg2 (by simpa using fun e => HN.out.1 e.symm); have rf4 := fro_grown r3 rf3 hg2 (by simpa using fun e => HN.out.1 e.symm)))
  refine bodyPost_end (v := .tuple #[]) (results_none rfl _ _ _) rfl ?_
  exact ⟨rfl, w1, w2, HG.out, HO1.out, hg2, hod, rfl⟩
end Go.Proofs.Ytbhibodgbgndbaa.B
