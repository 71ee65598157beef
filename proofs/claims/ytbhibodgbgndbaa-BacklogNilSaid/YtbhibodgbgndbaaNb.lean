/- The law's own ([][32]byte to []Id). No condition. -/
import Derived.Test.YtbhibodgbgndbaaNa
namespace Go.Proofs.Ytbhibodgbgndbaa.B
open Go Go.RowKit Go.Proofs Go.Proofs.YtbhibodgbgndbaaW.PrintWords Go.Proofs.YtbhibodgbgndbaaW.PrintLast Go.Proofs.YtbhibodgbgndbaaW.PrintMore
set_option linter.unusedVariables false
set_option linter.unusedSimpArgs false
attribute [local go_sem ↓] execOp_ld29

theorem run_ld29g (W : World) (ad : Addr) (x : List Int) (hx : x.length = 32) (h : ∀ j u, (x.map (Value.int .u8))[j]? = some u → W.cell? (ad.add j) = some u) : (ld29 (.pointer (some ad))).run Try.prog W = .ok (.agg (x.map (Value.int .u8)).toArray) W := by
  have hl : (loadCells ad (x.map (Value.int .u8)).length).run Try.prog W = .ok (x.map (Value.int .u8)).toArray W := run_loadCells_list (P := Try.prog) W ad _ h
  rw [List.length_map] at hl
  have hi : (Try.prog.info? 29).map (·.size) = some x.length := by rw [hx]; exact info29
  have hu := Try.underlying29
  have hlv : (loadVar 29 ad).run Try.prog W = .ok (.agg (x.map (Value.int .u8)).toArray) W := by
    revert hl hi hu
    generalize Try.prog = P
    intro hl hi hu
    cases hq : P.info? 29 with
    | none => simp [hq] at hi
    | some i =>
      simp only [hq, Option.map_some, Option.some.injEq] at hi
      simp [loadVar, isAgg, run_underlying hu, sizeOf, typeInfo, hq, hi, hl]
  simp only [ld29, Instr.loadAt, Instr.sureAddr, Sem.run_bind, Sem.run_pure, Result.andThen_ok, hlv]
set_option maxHeartbeats 8000000 in
set_option maxRecDepth 100000 in
theorem own_is (A : Option Addr) (C : Nat) (l : List (List Int)) (hm : l.length ≤ maxLen) (hid : ∀ x ∈ l, Idok x) (w : World) (hc : ∀ (i : Nat) (x : List Int), l[i]? = some x → ∃ a, A = some a ∧ ∀ j u, (x.map (Value.int .u8))[j]? = some u → w.cell? (a.add (i * 32 + j)) = some u)
    (hbig : l.length * 32 ≤ 140737488355328) :
    Calls Try.prog 36 #[.slice A l.length C] w fun e w' => ∃ v', e = .returned v' ∧ w'.ownsRow w.heap.size 30 32 v' l.length (idsL l) ∧ Below w.heap.size w w' := by
  obtain ⟨i0, z0, hi0, hz0, hs0, hb0, hzc0⟩ := info30r
  have HI := Aside0.mk (And.intro hi0 (And.intro hz0 (And.intro hs0 (And.intro hb0 hzc0))))
  have HC := Aside0.mk (And.intro hid hc)
  clear hi0 hz0 hs0 hb0 hzc0 hid hc hm
  go_enter Try.func36, Try.ntmps36
  go_wp2
  go_loopw [3, 4] (fun p3 p4 wr => ∃ (i : Nat), p4 = .int .i64 i ∧ Aside0 (i ≤ l.length) ∧ Aside0 (Below w.heap.size w wr) ∧ Aside0 (wr.ownsRow w.heap.size 30 32 p3 (l.take i).length (idsL (l.take i))))
    (fun _ p4 _ => l.length - (intOf p4).toNat)
  case atStart => exact ⟨0, rfl, ⟨Nat.zero_le _⟩, ⟨Below.refl _ _⟩, ⟨World.ownsRow_nil _ _ _ _⟩⟩
  case round =>
    obtain ⟨i, rfl, HD, HW, HO⟩ := hrel
    by_cases hi : i < l.length
    · obtain ⟨x, he⟩ : ∃ x, l[i]? = some x := ⟨_, List.getElem?_eq_getElem hi⟩
      obtain ⟨a, rfl, hcl⟩ := HC.out.2 i x he
      have hx := HC.out.1 x (List.mem_of_getElem? he)
      have HX := Aside0.mk hx
      have HXL : Aside0 (x.length = 32) := ⟨hx.1⟩
      have hld := run_ld29g wr (a.add (i * 32)) x hx.1 (fun j u hu => by
        rw [Go.Deep.add_add]
        have := hcl j u hu
        exact (HW.out.cell (World.block_lt_of_cell? _ _ this)).trans this)
      obtain ⟨A3, c3, hv3⟩ : ∃ A3 c3, u3 = .slice A3 (l.take i).length c3 := by
        rcases HO.out.2 with ⟨h1, h2⟩ | ⟨g7, c7, _, h1, _⟩
        · exact ⟨none, 0, by rw [h1, h2]⟩
        · exact ⟨_, c7, h1⟩
      subst hv3
      have HEI := Aside0.mk he
      have p1 : (0 : Int) ≤ (i : Int) := by omega
      have p2 : (i : Int) < (l.length : Int) := by omega
      have p3 := wrap_i64 ((i : Int) + 1) (by omega) (by omega)
      have hti : (l.take i).length = i := by rw [List.length_take]; omega
      have HTI := Aside0.mk hti
      have hts : l.take (i + 1) = l.take i ++ [x] := by
        rw [List.take_add_one, he]; rfl
      have HTS := Aside0.mk hts
      clear hx he hcl hti hts
      generalize hLL : l.take i = LL at HO HTI HTS ⊢
      have HLL := Aside0.mk hLL
      clear hLL
      go_wp2_with (at_builtin; refine wpList_append_lies _ rfl (.tmp 11) (.tmp 16) 40 rfl w.heap.size 30 i0 z0 32 32 Try.underlying40 HI.out.1 HI.out.2.1 HI.out.2.2.1 HI.out.2.2.2.1 HI.out.2.2.2.2 (by omega) _ LL.length (idsL LL) rfl ?qo ⟨wr.heap.size, 0, none⟩ 1 1 (x.map (Value.int .u8)) rfl ?ql ?qn (id_one x) (by omega) ?q6 ?q3 ?qb _ rfl ?_)
      case qo => exact own_below HO.out (below_alloc (Below.refl _ _) _)
      case ql => rw [List.length_map, HX.out.1]
      case qn =>
        intro j u hu
        have hbk := heap_alloc_new wr (.cells (x.map (Value.int .u8)).toArray 30)
        exact World.news_of_block hbk j u hu
      case q6 => have := HTI.out; simp only [maxLen]; omega
      case q3 => have := HTI.out; omega
      case qb => have := HW.out.size; simp; omega
      intro g' cap1 w3 hown hgrow hat hlt3
      go_wp2
      go_roundw
      case rel =>
        refine ⟨i + 1, by go_num, ⟨by omega⟩, ⟨?_⟩, ⟨?_⟩⟩
        · exact (below_alloc HW.out _).grown hgrow (by have := HW.out.size; simp; omega) (fun k hk => (HO.out.lt k hk).1)
        · rw [HTS.out, List.length_append, idsL_append]; exact hown
      case measure => simp [intOf]; omega
    · have hle := HD.out
      have hto : l.take i = l := List.take_of_length_le (by omega)
      have HTO := Aside0.mk hto
      clear hto
      go_wp2
      go_ret
      refine ⟨_, rfl, ?_, HW.out⟩
      have := HO.out
      rw [HTO.out] at this
      exact this
end Go.Proofs.Ytbhibodgbgndbaa.B
