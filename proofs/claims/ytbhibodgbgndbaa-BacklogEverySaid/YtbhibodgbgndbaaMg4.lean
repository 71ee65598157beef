/- Texts of this seat, joined: Na Nb Ra Rb Rc Rd Re Rf. No condition but those that each part names. -/
import Derived.Test.YtbhibodgbgndbaaMg3
import Derived.Deep.RegionLaw
import Derived.Deep.RegionHeld3
/- The methods of a nil backlog. No condition. -/
namespace Go.Proofs.Ytbhibodgbgndbaa.B
open Go Go.RowKit Go.Proofs Go.Proofs.YtbhibodgbgndbaaW.PrintWords Go.Proofs.YtbhibodgbgndbaaW.PrintLast Go.Proofs.YtbhibodgbgndbaaW.PrintMore
set_option linter.unusedVariables false
set_option linter.unusedSimpArgs false
set_option maxRecDepth 100000
set_option maxHeartbeats 2000000
attribute [local go_sem ↓] execOp_ld30

section
variable (w : World) (x : List Int)
theorem n_add (hx : x.length = 32) (due : Int) : Calls Try.prog 13 #[.pointer none, idV x, .int .i64 due] w fun e w' => e = .returned (.int .i64 1) ∧ Below w.heap.size w w' := by
  have l1 := ld30_new w x hx
  have heq := eq_zero x hx
  clear hx
  unfold idV
  go_enter Try.func13, Try.ntmps13
  go_wp2
  go_ret
  exact ⟨rfl, below_alloc (Below.refl _ _) _⟩
theorem n_find (b : Bool) : Calls Try.prog 44 #[.pointer none, idV x, .bool b] w fun e w' => e = .returned (.tuple #[.int .i64 0, .int .i64 1]) ∧ Below w.heap.size w w' := by
  unfold idV
  go_enter Try.func44, Try.ntmps44
  go_wp2
  go_ret2
  exact ⟨rfl, below_alloc (Below.refl _ _) _⟩
theorem n_off (hx : x.length = 32) : Calls Try.prog 18 #[.pointer none, idV x] w fun e w' => e = .returned (.int .i64 1) ∧ Below w.heap.size w w' := by
  have l1 := ld30_new w x hx
  clear hx
  unfold idV
  go_enter Try.func18, Try.ntmps18
  go_wp2_with (first | (go_at_call 44; refine (n_find _ x false).mono ?_; rintro e_ w1 ⟨rfl, hb1⟩))
  go_ret
  exact ⟨rfl, (below_alloc (Below.refl _ _) _).trans (hb1.mono (by simp))⟩
theorem n_ans (hx : x.length = 32) : Calls Try.prog 25 #[.pointer none, idV x] w fun e w' => e = .returned (.int .i64 1) ∧ Below w.heap.size w w' := by
  have l1 := ld30_new w x hx
  clear hx
  unfold idV
  go_enter Try.func25, Try.ntmps25
  go_wp2_with (first | (go_at_call 44; refine (n_find _ x true).mono ?_; rintro e_ w1 ⟨rfl, hb1⟩))
  go_ret
  exact ⟨rfl, (below_alloc (Below.refl _ _) _).trans (hb1.mono (by simp))⟩
theorem n_lat (hx : x.length = 32) (now : Int) : Calls Try.prog 20 #[.pointer none, idV x, .int .i64 now] w fun e w' => e = .returned (.int .i64 1) ∧ Below w.heap.size w w' := by
  have l1 := ld30_new w x hx
  clear hx
  unfold idV
  go_enter Try.func20, Try.ntmps20
  go_wp2_with (first | (go_at_call 44; refine (n_find _ x true).mono ?_; rintro e_ w1 ⟨rfl, hb1⟩))
  go_ret
  exact ⟨rfl, (below_alloc (Below.refl _ _) _).trans (hb1.mono (by simp))⟩
theorem n_next (a b : Int) : Calls Try.prog 22 #[.pointer none, .int .i64 a, .int .i64 b] w fun e w' => e = .returned (.slice none 0 0) ∧ w' = w := by
  go_enter Try.func22, Try.ntmps22
  go_wp2
  go_ret
  exact ⟨rfl, rfl⟩
theorem n_drop : Calls Try.prog 19 #[.pointer none] w fun e w' => e = .returned (.int .i64 0) ∧ w' = w := by
  go_enter Try.func19, Try.ntmps19
  go_wp2
  go_ret
  exact ⟨rfl, rfl⟩
theorem n_has : Calls Try.prog 16 #[.pointer none, idV x] w fun e w' => e = .returned (.bool false) ∧ Below w.heap.size w w' := by
  unfold idV
  go_enter Try.func16, Try.ntmps16
  go_wp2
  go_ret
  exact ⟨rfl, below_alloc (Below.refl _ _) _⟩
theorem n_rem (hx : x.length = 32) : Calls Try.prog 17 #[.pointer none, idV x] w fun e w' => e = .returned (.bool false) ∧ Below w.heap.size w w' := by
  have l1 := ld30_new w x hx
  clear hx
  unfold idV
  go_enter Try.func17, Try.ntmps17
  go_wp2_with (first | (go_at_call 16; refine (n_has _ x).mono ?_; rintro e_ w1 ⟨rfl, hb1⟩))
  go_ret
  exact ⟨rfl, (below_alloc (Below.refl _ _) _).trans (hb1.mono (by simp))⟩
theorem n_missed : Calls Try.prog 15 #[.pointer none] w fun e w' => e = .returned (.bool false) ∧ w' = w := by
  go_enter Try.func15, Try.ntmps15
  go_wp2
  go_ret
  exact ⟨rfl, rfl⟩
theorem n_len : Calls Try.prog 14 #[.pointer none] w fun e w' => e = .returned (.int .i64 0) ∧ w' = w := by
  go_enter Try.func14, Try.ntmps14
  go_wp2
  go_ret
  exact ⟨rfl, rfl⟩
theorem n_all : Calls Try.prog 27 #[.pointer none] w fun e w' => e = .returned (.slice none 0 0) ∧ w' = w := by
  go_enter Try.func27, Try.ntmps27
  go_wp2
  go_ret
  exact ⟨rfl, rfl⟩
theorem n_out : Calls Try.prog 28 #[.pointer none] w fun e w' => e = .returned (.slice none 0 0) ∧ w' = w := by
  go_enter Try.func28, Try.ntmps28
  go_wp2_with (first | (go_at_call 27; refine (n_all _).mono ?_; rintro e_ w1 ⟨rfl, rfl⟩))
  go_loopw [3, 9] (fun p3 p9 wr => p3 = .slice none 0 0 ∧ p9 = .int .i64 0 ∧ wr = w1) (fun _ _ _ => 0)
  case atStart => exact ⟨rfl, rfl, rfl⟩
  case round =>
    obtain ⟨rfl, rfl, rfl⟩ := hrel
    go_wp2
    go_ret
    exact ⟨rfl, rfl⟩
theorem n_enc : Calls Try.prog 37 #[.pointer none] w fun e w' => e = .returned (.slice none 0 0) ∧ w' = w := by
  go_enter Try.func37, Try.ntmps37
  go_wp2
  go_ret
  exact ⟨rfl, rfl⟩
theorem n_clone : Calls Try.prog 31 #[.pointer none] w fun e w' => e = .returned (.pointer none) ∧ w' = w := by
  go_enter Try.func31, Try.ntmps31
  go_wp2
  go_ret
  exact ⟨rfl, rfl⟩
theorem n_eq0 : Calls Try.prog 34 #[.pointer none, .pointer none] w fun e w' => e = .returned (.bool true) ∧ w' = w := by
  go_enter Try.func34, Try.ntmps34
  go_wp2
  go_ret
  exact ⟨rfl, rfl⟩
theorem eq_ngd (d : Nat) (a : Addr) (W : World) : (Op.equalIn (d + 1) 25 (.pointer none) (.pointer (some a))).run Try.prog W = .ok false W := by
  simp [Op.equalIn, run_underlying Try.underlying25]
theorem eq_ffd (d : Nat) (W : World) : (Op.equalIn (d + 1) 46 .nilFunc .nilFunc).run Try.prog W = .ok true W := by
  simp [Op.equalIn, run_underlying Try.underlying46]
theorem eq_ng (g : Nat) (W : World) : (binOp .eql 25 (.pointer none) (.pointer (some ⟨g, 0, none⟩))).run Try.prog W = .ok (.bool false) W := by
  have h2 : (Op.equal 25 (.pointer none) (.pointer (some ⟨g, 0, none⟩))).run Try.prog W = .ok false W := eq_ngd 9999 _ W
  simp only [binOp]
  simp [h2, Result.andThen]
theorem eq_ff (W : World) : (binOp .eql 46 .nilFunc .nilFunc).run Try.prog W = .ok (.bool true) W := by
  have h2 : (Op.equal 46 .nilFunc .nilFunc).run Try.prog W = .ok true W := eq_ffd 9999 W
  simp only [binOp]
  simp [h2, Result.andThen]
theorem n_eq1 (g : Nat) : Calls Try.prog 34 #[.pointer none, .pointer (some ⟨g, 0, none⟩)] w fun e w' => e = .returned (.bool false) ∧ w' = w := by
  have he := eq_ng g
  go_enter Try.func34, Try.ntmps34
  go_wp2
  go_ret
  exact ⟨rfl, rfl⟩
theorem n_eq2 (g : Nat) : Calls Try.prog 34 #[.pointer (some ⟨g, 0, none⟩), .pointer none] w fun e w' => e = .returned (.bool false) ∧ w' = w := by
  go_enter Try.func34, Try.ntmps34
  go_wp2
  go_ret
  exact ⟨rfl, rfl⟩
theorem values_is (v : Value) (hv : v.oneCell' = true) : Calls Try.prog 24 #[v] w fun e w' => e = .returned (.func (.func 46) #[] #[.pointer (some ⟨w.heap.size, 0, none⟩)]) ∧ Below w.heap.size w w' := by
  go_enter Try.func24, Try.ntmps24
  go_wp2
  go_ret
  exact ⟨rfl, below_alloc (Below.refl _ _) _⟩
theorem n_scan (f : Value) (now : Int) : Calls Try.prog 23 #[.pointer none, .func (.func 46) #[] #[f], .int .i64 now] w fun e w' => e = .returned (.tuple #[.int .i64 0, .bool false]) ∧ Below w.heap.size w w' := by
  go_enter Try.func23, Try.ntmps23
  go_wp2
  refine bodyPost_ret (v := .tuple #[.int .i64 0, .bool false]) (by simp [results, Try.results23, go_sem]) rfl ⟨rfl, ?_⟩
  go_grown
theorem g_scan (g : Nat) (now : Int) : Calls Try.prog 23 #[.pointer (some ⟨g, 0, none⟩), .nilFunc, .int .i64 now] w fun e w' => e = .returned (.tuple #[.int .i64 0, .bool false]) ∧ Below w.heap.size w w' := by
  have he := eq_ff
  go_enter Try.func23, Try.ntmps23
  go_wp2
  refine bodyPost_ret (v := .tuple #[.int .i64 0, .bool false]) (by simp [results, Try.results23, go_sem]) rfl ⟨rfl, ?_⟩
  go_grown
end
end Go.Proofs.Ytbhibodgbgndbaa.B
/- The law's own ([][32]byte to []Id). No condition. -/
namespace Go.Proofs.Ytbhibodgbgndbaa.B
open Go Go.RowKit Go.Proofs Go.Proofs.YtbhibodgbgndbaaW.PrintWords Go.Proofs.YtbhibodgbgndbaaW.PrintLast Go.Proofs.YtbhibodgbgndbaaW.PrintMore
set_option linter.unusedVariables false
set_option linter.unusedSimpArgs false
attribute [local go_sem ↓] execOp_ld29

theorem run_ld29g (W : World) (ad : Addr) (x : List Int) (hx : x.length = 32) (h : ∀ j u, (x.map (Value.int .u8))[j]? = some u → W.cell? (ad.add j) = some u) : (ld29 (.pointer (some ad))).run Try.prog W = .ok (.agg (x.map (Value.int .u8)).toArray) W := by
  have hl : (loadCells ad (x.map (Value.int .u8)).length).run Try.prog W = .ok (x.map (Value.int .u8)).toArray W := run_loadCells_list (P := Try.prog) W ad _ h
  rw [List.length_map] at hl
  have hi : (Try.prog.info? 29).map (·.size) = some x.length := by rw [hx]; exact info29
  have hu := Try.underlying29
  have hlv : (loadVar 29 ad).run Try.prog W = .ok (.agg (x.map (Value.int .u8)).toArray) W := by
    revert hl hi hu
    generalize Try.prog = P
    intro hl hi hu
    cases hq : P.info? 29 with
    | none => simp [hq] at hi
    | some i =>
      simp only [hq, Option.map_some, Option.some.injEq] at hi
      simp [loadVar, isAgg, run_underlying hu, sizeOf, typeInfo, hq, hi, hl]
  simp only [ld29, Instr.loadAt, Instr.sureAddr, Sem.run_bind, Sem.run_pure, Result.andThen_ok, hlv]
set_option maxHeartbeats 8000000 in
set_option maxRecDepth 100000 in
theorem own_is (A : Option Addr) (C : Nat) (l : List (List Int)) (hm : l.length ≤ maxLen) (hid : ∀ x ∈ l, Idok x) (w : World) (hc : ∀ (i : Nat) (x : List Int), l[i]? = some x → ∃ a, A = some a ∧ ∀ j u, (x.map (Value.int .u8))[j]? = some u → w.cell? (a.add (i * 32 + j)) = some u)
    (hbig : l.length * 32 ≤ 140737488355328) :
    Calls Try.prog 36 #[.slice A l.length C] w fun e w' => ∃ v', e = .returned v' ∧ w'.ownsRow w.heap.size 30 32 v' l.length (idsL l) ∧ Below w.heap.size w w' := by
  obtain ⟨i0, z0, hi0, hz0, hs0, hb0, hzc0⟩ := info30r
  have HI := Aside0.mk (And.intro hi0 (And.intro hz0 (And.intro hs0 (And.intro hb0 hzc0))))
  have HC := Aside0.mk (And.intro hid hc)
  clear hi0 hz0 hs0 hb0 hzc0 hid hc hm
  go_enter Try.func36, Try.ntmps36
  go_wp2
  go_loopw [3, 4] (fun p3 p4 wr => ∃ (i : Nat), p4 = .int .i64 i ∧ Aside0 (i ≤ l.length) ∧ Aside0 (Below w.heap.size w wr) ∧ Aside0 (wr.ownsRow w.heap.size 30 32 p3 (l.take i).length (idsL (l.take i))))
    (fun _ p4 _ => l.length - (intOf p4).toNat)
  case atStart => exact ⟨0, rfl, ⟨Nat.zero_le _⟩, ⟨Below.refl _ _⟩, ⟨World.ownsRow_nil _ _ _ _⟩⟩
  case round =>
    obtain ⟨i, rfl, HD, HW, HO⟩ := hrel
    by_cases hi : i < l.length
    · obtain ⟨x, he⟩ : ∃ x, l[i]? = some x := ⟨_, List.getElem?_eq_getElem hi⟩
      obtain ⟨a, rfl, hcl⟩ := HC.out.2 i x he
      have hx := HC.out.1 x (List.mem_of_getElem? he)
      have HX := Aside0.mk hx
      have HXL : Aside0 (x.length = 32) := ⟨hx.1⟩
      have hld := run_ld29g wr (a.add (i * 32)) x hx.1 (fun j u hu => by
        rw [Go.Deep.add_add]
        have := hcl j u hu
        exact (HW.out.cell (World.block_lt_of_cell? _ _ this)).trans this)
      obtain ⟨A3, c3, hv3⟩ : ∃ A3 c3, u3 = .slice A3 (l.take i).length c3 := by
        rcases HO.out.2 with ⟨h1, h2⟩ | ⟨g7, c7, _, h1, _⟩
        · exact ⟨none, 0, by rw [h1, h2]⟩
        · exact ⟨_, c7, h1⟩
      subst hv3
      have HEI := Aside0.mk he
      have p1 : (0 : Int) ≤ (i : Int) := by omega
      have p2 : (i : Int) < (l.length : Int) := by omega
      have p3 := wrap_i64 ((i : Int) + 1) (by omega) (by omega)
      have hti : (l.take i).length = i := by rw [List.length_take]; omega
      have HTI := Aside0.mk hti
      have hts : l.take (i + 1) = l.take i ++ [x] := by
        rw [List.take_add_one, he]; rfl
      have HTS := Aside0.mk hts
      clear hx he hcl hti hts
      generalize hLL : l.take i = LL at HO HTI HTS ⊢
      have HLL := Aside0.mk hLL
      clear hLL
      go_wp2_with (at_builtin; refine wpList_append_lies _ rfl (.tmp 11) (.tmp 16) 40 rfl w.heap.size 30 i0 z0 32 32 Try.underlying40 HI.out.1 HI.out.2.1 HI.out.2.2.1 HI.out.2.2.2.1 HI.out.2.2.2.2 (by omega) _ LL.length (idsL LL) rfl ?qo ⟨wr.heap.size, 0, none⟩ 1 1 (x.map (Value.int .u8)) rfl ?ql ?qn (id_one x) (by omega) ?q6 ?q3 ?qb _ rfl ?_)
      case qo => exact own_below HO.out (below_alloc (Below.refl _ _) _)
      case ql => rw [List.length_map, HX.out.1]
      case qn =>
        intro j u hu
        have hbk := heap_alloc_new wr (.cells (x.map (Value.int .u8)).toArray 30)
        exact World.news_of_block hbk j u hu
      case q6 => have := HTI.out; simp only [maxLen]; omega
      case q3 => have := HTI.out; omega
      case qb => have := HW.out.size; simp; omega
      intro g' cap1 w3 hown hgrow hat hlt3
      go_wp2
      go_roundw
      case rel =>
        refine ⟨i + 1, by go_num, ⟨by omega⟩, ⟨?_⟩, ⟨?_⟩⟩
        · exact (below_alloc HW.out _).grown hgrow (by have := HW.out.size; simp; omega) (fun k hk => (HO.out.lt k hk).1)
        · rw [HTS.out, List.length_append, idsL_append]; exact hown
      case measure => simp [intOf]; omega
    · have hle := HD.out
      have hto : l.take i = l := List.take_of_length_le (by omega)
      have HTO := Aside0.mk hto
      clear hto
      go_wp2
      go_ret
      refine ⟨_, rfl, ?_, HW.out⟩
      have := HO.out
      rw [HTO.out] at this
      exact this
end Go.Proofs.Ytbhibodgbgndbaa.B
/- The reference's entries in memory; its Find. Condition: at most 1000000 entries. -/
namespace Go.Proofs.Ytbhibodgbgndbaa.B
open Go Go.RowKit Go.Proofs Go.Proofs.YtbhibodgbgndbaaW.PrintWords Go.Proofs.YtbhibodgbgndbaaW.PrintLast Go.Proofs.YtbhibodgbgndbaaW.PrintMore
set_option linter.unusedVariables false
set_option linter.unusedSimpArgs false
attribute [local go_sem ↓] execOp_ld29

/-- An entry of the reference: its identity, the minute, the tries, is it out? -/
abbrev RE := List Int × Int × Int × Bool
def rE (r : RE) : Ent := (r.1, r.2.1, r.2.2.1)
def reL (r : RE) : List Value := r.1.map (Value.int .u8) ++ [.int .i64 r.2.1, .int .i64 r.2.2.1, .bool r.2.2.2]
theorem reL_len (r : RE) (h : r.1.length = 32) : (reL r).length = 35 := by simp [reL, h]
def resL (l : List RE) : List Value := l.flatMap reL
theorem resL_append (l : List RE) (r : RE) : resL (l ++ [r]) = resL l ++ reL r := by simp [resL]
theorem re_one (r : RE) : ∀ u ∈ reL r, u.oneCell' = true := by
  intro u hu
  simp only [reL, List.mem_append, List.mem_map, List.mem_cons, List.not_mem_nil, or_false] at hu
  rcases hu with ⟨z, _, rfl⟩ | rfl | rfl | rfl <;> rfl
theorem res_one (l : List RE) : ∀ u ∈ resL l, u.oneCell' = true := by
  intro u hu
  obtain ⟨e, _, he⟩ := List.mem_flatMap.1 hu
  exact re_one e u he
theorem resL_len (l : List RE) (hl : ∀ r ∈ l, r.1.length = 32) : (resL l).length = l.length * 35 := by
  induction l with
  | nil => rfl
  | cons e es ih =>
    have h1 := reL_len e (hl e (by simp))
    have h2 := ih (fun e h => hl e (by simp [h]))
    show (reL e ++ resL es).length = _
    rw [List.length_append, h1, h2]; simp only [List.length_cons]; omega
theorem resL_at (l : List RE) (hl : ∀ r ∈ l, r.1.length = 32) (i : Nat) (r : RE) (hr : l[i]? = some r) (j : Nat) (v : Value) (hv : (reL r)[j]? = some v) : (resL l)[i * 35 + j]? = some v := by
  induction l generalizing i with
  | nil => simp at hr
  | cons z l ih =>
    have hz : (reL z).length = 35 := reL_len z (hl z (by simp))
    show (reL z ++ resL l)[i * 35 + j]? = some v
    cases i with
    | zero =>
      simp at hr
      subst hr
      have hj := (List.getElem?_eq_some_iff.1 hv).1
      rw [List.getElem?_append_left (by omega), Nat.zero_mul, Nat.zero_add]; exact hv
    | succ i =>
      rw [List.getElem?_append_right (by omega), show (i + 1) * 35 + j - (reL z).length = i * 35 + j by omega]
      exact ih (fun e h => hl e (by simp [h])) i (by simpa using hr)
theorem resL_take (l : List RE) (hl : ∀ r ∈ l, r.1.length = 32) (i : Nat) (hi : i ≤ l.length) : (resL l).take (i * 35) = resL (l.take i) := by
  conv => lhs; rw [← List.take_append_drop i l]
  unfold resL
  rw [List.flatMap_append]
  have := resL_len (l.take i) (fun e h => hl e (List.mem_of_mem_take h))
  rw [List.length_take, Nat.min_eq_left hi] at this
  exact List.take_left' this
theorem resL_drop (l : List RE) (hl : ∀ r ∈ l, r.1.length = 32) (i : Nat) (hi : i ≤ l.length) : (resL l).drop (i * 35) = resL (l.drop i) := by
  conv => lhs; rw [← List.take_append_drop i l]
  unfold resL
  rw [List.flatMap_append]
  have := resL_len (l.take i) (fun e h => hl e (List.mem_of_mem_take h))
  rw [List.length_take, Nat.min_eq_left hi] at this
  exact List.drop_left' this
def ResAt (w : World) (gb : Nat) (l : List RE) : Prop := ∀ i r, l[i]? = some r → w.rangeAt gb (i * 35) (reL r)
theorem res_of_own {W : World} {base : Nat} {v : Value} {l : List RE} (hl : ∀ r ∈ l, r.1.length = 32) (h : W.ownsRow base 98 35 v l.length (resL l)) :
    ∃ (A : Option Addr) (gb cap : Nat), v = .slice A l.length cap ∧ (0 < l.length → A = some ⟨gb, 0, none⟩) ∧ ResAt W gb l := by
  rcases h.2 with ⟨rfl, h0⟩ | ⟨gb, cap, cur, rfl, _⟩
  · have : l = [] := List.eq_nil_of_length_eq_zero h0
    subst this
    exact ⟨none, 0, 0, rfl, fun h => by simp at h, fun i e he => by simp at he⟩
  · refine ⟨_, gb, cap, rfl, fun _ => rfl, fun i e he j u hu => ?_⟩
    have := h.cells (g := gb) rfl (i * 35 + j) u (resL_at l hl i e he j u hu)
    rwa [cell_add] at this
/-- The reference's backlog as a value. -/
def rbV (cap wait : Int) (inc : Bool) (v : Value) : Array Value := #[.int .i64 cap, .int .i64 wait, .bool inc, v]
theorem run_eqId29 (d : Nat) (w : World) (x y : List Int) (hx : x.length = 32) (hy : y.length = 32) : (Op.equalIn (d + 2) 29 (.agg (idC x)) (.agg (idC y))).run Try.prog w = .ok (decide (x = y)) w := by
  obtain ⟨i0, hi, hz⟩ := Option.map_eq_some_iff.1 info5
  rw [run_equalIn_array w (d + 1) _ _ Try.underlying29 hi, cells5, run_items w d x y hx hy _ (fun i h => List.mem_range.1 h), all_eq x y hx hy]
theorem id_of_re {w : World} {b o : Nat} {r : RE} (h : w.rangeAt b o (reL r)) : w.rangeAt b o (r.1.map (Value.int .u8)) := fun j v hv => by
  have hj := (List.getElem?_eq_some_iff.1 hv).1
  exact h j v (by unfold reL; rw [List.getElem?_append_left hj]; exact hv)
set_option maxHeartbeats 8000000 in
set_option maxRecDepth 100000 in
theorem rfind_is (cap wait : Int) (inc : Bool) (v : Value) (l : List RE) (hl : ∀ r ∈ l, r.1.length = 32) (hn : l.length ≤ 1000000) (y : List Int) (hy : y.length = 32) (w : World) (ho : w.ownsRow 0 98 35 v l.length (resL l)) :
    Calls Try.prog 68 #[.agg (rbV cap wait inc v), .agg (idC y)] w fun e w' => e = .returned (.int .i64 (idxOf (l.map rE) y)) ∧ Below w.heap.size w w' := by
  obtain ⟨A, gb, cp, rfl, hA, hE⟩ := res_of_own hl ho
  have hu52 := Try.underlying52
  have hu98 := Try.underlying98
  have HL := Aside0.mk (And.intro hl (And.intro hy hE))
  have HW0 := Aside0.mk (below_alloc (below_alloc (Below.refl w.heap.size w) (.cells (rbV cap wait inc (.slice A l.length cp)) 52)) (.cells (idC y) 29))
  clear hl hy hE ho
  go_enter Try.func68, Try.ntmps68
  go_wp2
  go_loopw [5] (fun p5 wr => ∃ i : Nat, p5 = .int .i64 i ∧ Aside0 (i ≤ l.length ∧ idxOf (l.map rE) y = idxGo y ((l.map rE).drop i) i) ∧
      Aside0 (Below ((w.alloc (.cells (rbV cap wait inc (.slice A l.length cp)) 52)).alloc (.cells (idC y) 29)).heap.size ((w.alloc (.cells (rbV cap wait inc (.slice A l.length cp)) 52)).alloc (.cells (idC y) 29)) wr))
    (fun p5 _ => l.length - (intOf p5).toNat)
  case atStart => exact ⟨0, rfl, ⟨Nat.zero_le _, rfl⟩, ⟨Below.refl _ _⟩⟩
  case round =>
    obtain ⟨i, rfl, HI, HW⟩ := hrel
    have hc3 : wr.cell? ⟨w.heap.size, 3, none⟩ = some (.slice A l.length cp) := by
      have h0 : (w.alloc (.cells (rbV cap wait inc (.slice A l.length cp)) 52)).cell? ⟨w.heap.size, 3, none⟩ = some (.slice A l.length cp) := by
        rw [cell_of_row _ _ _ _ 52 (0, 0) (heap_alloc_last w _)]; rfl
      have h1 := cell_alloc h0 (.cells (idC y) 29)
      exact (HW.out.cell (World.block_lt_of_cell? _ _ h1)).trans h1
    have hry : wr.rangeAt (w.heap.size + 1) 0 (y.map (Value.int .u8)) := by
      refine range_below (w := (w.alloc (.cells (rbV cap wait inc (.slice A l.length cp)) 52)).alloc (.cells (idC y) 29)) (fun j u hu => ?_) HW.out
      have hb := heap_alloc_last (w.alloc (.cells (rbV cap wait inc (.slice A l.length cp)) 52)) (.cells (idC y) 29)
      rw [show (w.alloc (.cells (rbV cap wait inc (.slice A l.length cp)) 52)).heap.size = w.heap.size + 1 by simp] at hb
      rw [Nat.zero_add, cell_of_row _ _ _ _ 29 (0, 0) hb]
      simpa [idC] using hu
    have HLOW := Aside0.mk (HW0.out.trans (HW.out.mono HW0.out.size))
    by_cases hi : i < l.length
    · obtain ⟨r, he⟩ : ∃ r, l[i]? = some r := ⟨_, List.getElem?_eq_getElem hi⟩
      have hA2 := hA (by omega)
      subst hA2
      have hx := HL.out.1 r (List.mem_of_getElem? he)
      have hrx : wr.rangeAt gb (i * 35) (r.1.map (Value.int .u8)) := range_below (id_of_re (HL.out.2.2 i r he)) HLOW.out
      have l1 := fun n => run_ld29 (wr.drewN n) (w.heap.size + 1) 0 y HL.out.2.1 hry
      have l2 := fun n => run_ld29 (wr.drewN n) gb (i * 35) r.1 hx hrx
      have l3 := run_ld29 wr (w.heap.size + 1) 0 y HL.out.2.1 hry
      have l4 := run_ld29 wr gb (i * 35) r.1 hx hrx
      have heq : ∀ W : World, (Op.equalIn 10000 29 (.agg (r.1.map (Value.int .u8)).toArray) (.agg (y.map (Value.int .u8)).toArray)).run Try.prog W = .ok (decide (r.1 = y)) W := fun W => run_eqId29 9998 W r.1 y hx HL.out.2.1
      have p1 : (0 : Int) ≤ (i : Int) := by omega
      have p2 : (i : Int) < (l.length : Int) := by omega
      have p3 := wrap_i64 ((i : Int) + 1) (by omega) (by omega)
      have hdr : (l.map rE).drop i = rE r :: (l.map rE).drop (i + 1) := drop_at' (by rw [List.getElem?_map, he]; rfl)
      have HDR := Aside0.mk hdr
      clear hx hrx hry he hdr
      by_cases hq : r.1 = y
      · rw [decide_eq_true hq] at heq
        have HQ := Aside0.mk hq
        clear hq
        go_wp2
        go_quiet (fail)
        go_wp2
        go_ret
        refine ⟨?_, HLOW.out.trans ((drewN_mk wr _).mono HLOW.out.size)⟩
        have h1 := HI.out.2
        rw [HDR.out, idxGo, if_pos (show (rE r).1 = y from HQ.out)] at h1
        rw [h1]; rfl
      · rw [decide_eq_false hq] at heq
        have HQ := Aside0.mk hq
        clear hq
        go_wp2
        go_quiet (fail)
        go_wp2
        go_roundw
        case rel =>
          refine ⟨i + 1, by go_num, ⟨by omega, ?_⟩, ⟨HW.out.trans ((drewN_mk wr _).mono HW.out.size)⟩⟩
          have h1 := HI.out.2
          rw [HDR.out, idxGo, if_neg (show ¬ (rE r).1 = y from HQ.out)] at h1
          exact h1
        case measure => simp [intOf]; omega
    · have hle := HI.out.1
      go_wp2
      go_ret
      refine ⟨?_, HLOW.out⟩
      have h1 := HI.out.2
      rw [List.drop_eq_nil_of_le (by simp; omega)] at h1
      rw [h1]; rfl
end Go.Proofs.Ytbhibodgbgndbaa.B
/- The reference's with, minute, New, Next. Condition: at most 1000000 entries. -/
namespace Go.Proofs.Ytbhibodgbgndbaa.B
open Go Go.RowKit Go.Proofs Go.Proofs.YtbhibodgbgndbaaW.PrintWords Go.Proofs.YtbhibodgbgndbaaW.PrintLast Go.Proofs.YtbhibodgbgndbaaW.PrintMore
set_option linter.unusedVariables false
set_option linter.unusedSimpArgs false
set_option maxRecDepth 100000
set_option maxHeartbeats 4000000

theorem rwith_is (cap wait : Int) (inc : Bool) (A B : Option Addr) (n m c d : Nat) (w : World) :
    Calls Try.prog 61 #[.agg (rbV cap wait inc (.slice A n c)), .slice B m d] w fun e w' => e = .returned (.agg (rbV cap wait inc (.slice B m d))) ∧ Below w.heap.size w w' := by
  have hu52 := Try.underlying52
  unfold rbV
  go_enter Try.func61, Try.ntmps61
  go_wp2
  refine bodyPost_ret (v := .agg #[.int .i64 cap, .int .i64 wait, .bool inc, .slice B m d]) (by simp [results, Try.results61, go_sem, hu52]) rfl ⟨rfl, ?_⟩
  go_grown
theorem rminute_is (n : Int) (w : World) : Calls Try.prog 67 #[.int .i64 n] w fun e w' => e = .returned (.bool (minB n)) ∧ w' = w := by
  by_cases h : 0 ≤ n
  · have hd : decide (0 ≤ n) = true := decide_eq_true h
    go_enter Try.func67, Try.ntmps67
    go_wp2
    go_ret
    exact ⟨by simp [minB, h], rfl⟩
  · have hd : decide (0 ≤ n) = false := decide_eq_false h
    go_enter Try.func67, Try.ntmps67
    go_wp2
    go_ret
    exact ⟨by simp [minB, hd], rfl⟩
theorem rnew_is (cap wait : Int) (h1 : 1 ≤ cap) (h2 : cap ≤ 4096) (h3 : 0 ≤ wait) (h4 : wait ≤ 100000) (w : World) :
    Calls Try.prog 47 #[.int .i64 cap, .int .i64 wait] w fun e w' => e = .returned (.tuple #[.agg (rbV cap wait false (.slice none 0 0)), .int .i64 0]) ∧ Below w.heap.size w w' := by
  have hu52 := Try.underlying52
  have d1 : decide (cap < 1) = false := decide_eq_false (by omega)
  have d2 : decide (cap > 4096) = false := decide_eq_false (by omega)
  have d3 : decide (wait < 0) = false := decide_eq_false (by omega)
  have d4 : decide (wait > 100000) = false := decide_eq_false (by omega)
  go_enter Try.func47, Try.ntmps47
  go_wp2
  refine bodyPost_ret (v := .tuple #[.agg #[.int .i64 cap, .int .i64 wait, .bool false, .slice none 0 0], .int .i64 0]) (by simp [results, Try.results47, go_sem, hu52]) rfl ⟨rfl, ?_⟩
  go_grown
end Go.Proofs.Ytbhibodgbgndbaa.B
/- The reference's without. Condition: at most 1000000 entries. -/
namespace Go.Proofs.Ytbhibodgbgndbaa.B
open Go Go.RowKit Go.Proofs Go.Proofs.YtbhibodgbgndbaaW.PrintWords Go.Proofs.YtbhibodgbgndbaaW.PrintLast Go.Proofs.YtbhibodgbgndbaaW.PrintMore
set_option linter.unusedVariables false
set_option linter.unusedSimpArgs false
set_option maxRecDepth 100000
set_option maxHeartbeats 8000000

/-- append onto a row of one's own, at a step of a region that draws; nothing may be appended. -/
theorem step_append_any {P : Program} {w : World} {ops : Array Oper} {o : Oper} {a : Act} {K : Act → World → Prop} {Q : Exit → Act → World → Prop} {E : Prop} (hgd : o.guard = none) (s x : Operand) (t : TypeId)
    (ho : o.op = .call { callee := .builtin .append, args := #[s, x], argTypes := #[t, t] })
    (base : Nat) (e : TypeId) (i : TypeInfo) (z : Value) (size bytes : Nat) (ht : P.underlying t = some (.slice e)) (hi : P.info? e = some i) (hz : i.zero = some z)
    (hsize : i.size = size) (hby : i.bytes = bytes) (hzs : z.cells.size = size) (hsz : 0 < size)
    (v : Value) (n : Nat) (xs : List Value) (hs : a.eval s = v) (hown : w.ownsRow base e size v n xs)
    (ad : Addr) (m c : Nat) (news : List Value) (hx : a.eval x = .slice (some ad) m c) (hl : news.length = m * size) (hnews : ∀ j u, news[j]? = some u → w.cell? (ad.add j) = some u) (h1 : ∀ u ∈ news, u.oneCell' = true)
    (h63 : n + m ≤ maxLen) (hbytes : (n + m) * bytes ≤ 140737488355328) (hbase : base ≤ w.heap.size)
    (h : ∀ v' w', w'.ownsRow base e size v' (n + m) (xs ++ news) → w.grownBy w' v.ownBlock → K (a.put o.dst v') w') :
    if Region.wanted o (yielded ops a.tmps) = true then Oper.wp P o a w K Q else E := by
  have hw : Region.wanted o (yielded ops a.tmps) = true := by simp [Region.wanted, hgd]
  rw [if_pos hw]
  obtain ⟨v', w', hr, h2, h3, _, h5⟩ := run_append_own_at (P := P) w base t o.type e i z size bytes ht hi hz hsize hby hzs hsz v n xs hown ad m c news hl hnews h1 h63 hbytes hbase
  unfold Oper.wp execOp
  simp only [ho, resolve, invoke, builtin, Sem.run_bind, Sem.run_pure, Result.andThen_ok, List.map_toArray, List.map_cons, List.map_nil, hs, hx, hr]
  exact h v' w' h2 h3
def zeros35 : List Value := List.replicate 32 (.int .u8 0) ++ [.int .i64 0, .int .i64 0, .bool false]
theorem zero98 : ((Try.prog.info? 98).bind (·.zero)).map (·.cells) = some zeros35.toArray := by kernel_rfl
theorem info98 : (Try.prog.info? 98).map (·.size) = some 35 := by kernel_rfl
theorem info98r : ∃ i z, Try.prog.info? 98 = some i ∧ i.zero = some z ∧ i.size = 35 ∧ i.bytes = 56 ∧ z.cells.size = 35 := by
  have h : (Try.prog.info? 98).map (fun i => (i.size, i.bytes)) = some (35, 56) := by kernel_rfl
  obtain ⟨v, h1, h2⟩ := Option.map_eq_some_iff.1 zero98
  obtain ⟨it, h3, h4⟩ := Option.bind_eq_some_iff.1 h1
  rw [h3] at h
  simp at h
  exact ⟨it, v, h3, h4, h.1, h.2, by rw [h2]; rfl⟩
theorem rwithout_is (l : List RE) (hl : ∀ r ∈ l, r.1.length = 32) (hn : l.length ≤ 1000000) (i : Nat) (hi : i < l.length) (v : Value) (w : World) (ho : w.ownsRow 0 98 35 v l.length (resL l)) :
    Calls Try.prog 69 #[v, .int .i64 i] w fun e w' => ∃ v', e = .returned v' ∧ w'.ownsRow w.heap.size 98 35 v' (l.length - 1) (resL (l.eraseIdx i)) ∧ Below w.heap.size w w' := by
  obtain ⟨i0, z0, hi0, hz0, hs0, hb0, hzc0⟩ := info98r
  obtain ⟨gb, cap, rfl, _, hgl⟩ := ho.form (by omega)
  have hcap : l.length ≤ cap := by
    rcases ho.2 with ⟨h, _⟩ | ⟨_, _, _, h, _, _, hc, _⟩
    · simp at h
    · cases h; exact hc
  have hcm : cap ≤ 9223372036854775807 := by
    rcases ho.2 with ⟨h, _⟩ | ⟨_, _, _, h, _, _, _, hc, _⟩
    · simp at h
    · cases h; simpa [maxLen] using hc
  have hcells := ho.cells (g := gb) rfl
  -- what moves
  have t1 : (resL (l.take i)).length = i * 35 := by rw [resL_len _ (fun e h => hl e (List.mem_of_mem_take h)), List.length_take, Nat.min_eq_left (by omega)]
  have t2 : (resL (l.drop (i + 1))).length = (l.length - (i + 1)) * 35 := by rw [resL_len _ (fun e h => hl e (List.mem_of_mem_drop h)), List.length_drop]
  have c1 : Aside0 (∀ j u, (resL (l.take i))[j]? = some u → w.cell? ((⟨gb, 0, none⟩ : Addr).add j) = some u) := ⟨fun j u hu => by
    have hj := (List.getElem?_eq_some_iff.1 hu).1
    rw [← resL_take l hl i (by omega), List.getElem?_take_of_lt (by omega)] at hu
    exact hcells j u hu⟩
  obtain ⟨A, hA, c2⟩ : ∃ A : Addr, (if cap = i + 1 then some (⟨gb, 0, none⟩ : Addr) else some ⟨gb, (i + 1) * 35, none⟩) = some A ∧ Aside0 (∀ j u, (resL (l.drop (i + 1)))[j]? = some u → w.cell? (A.add j) = some u) := by
    by_cases h : cap = i + 1
    · refine ⟨⟨gb, 0, none⟩, by simp [h], ⟨fun j u hu => ?_⟩⟩
      have hj := (List.getElem?_eq_some_iff.1 hu).1
      rw [t2] at hj; omega
    · refine ⟨⟨gb, (i + 1) * 35, none⟩, by simp [h], ⟨fun j u hu => ?_⟩⟩
      have hj := (List.getElem?_eq_some_iff.1 hu).1
      have e2 : (⟨gb, (i + 1) * 35, none⟩ : Addr).add j = ⟨gb, (i + 1) * 35 + j, none⟩ := by unfold Addr.add; split <;> simp_all
      rw [e2, ← cell_add]
      rw [← resL_drop l hl (i + 1) (by omega), List.getElem?_drop] at hu
      exact hcells _ u hu
  have T1 := Aside0.mk t1
  have T2 := Aside0.mk t2
  have HI := Aside0.mk (And.intro hi0 (And.intro hz0 (And.intro hs0 (And.intro hb0 hzc0))))
  have hw1 := wrap_i64 ((i : Int) + 1) (by omega) (by omega)
  have p1 : ((i : Int) + 1).toNat = i + 1 := by omega
  have p2 : (0 : Int) ≤ (i : Int) + 1 := by omega
  have p3 : (i : Int) + 1 ≤ (l.length : Int) := by omega
  have p4 : (i : Int) + 1 ≤ (cap : Int) := by omega
  have p5 : (i : Int) ≤ (cap : Int) := by omega
  have p6 : (0 : Int) ≤ (i : Int) := by omega
  have HL := Aside0.mk hl
  clear ho hcells t1 t2 hi0 hz0 hs0 hb0 hzc0 hl
  go_enter Try.func69, Try.ntmps69
  go_wp2
  go_region_law (first
    | (refine step_append_any rfl (.tmp 9) (.tmp 13) 50 rfl w.heap.size 98 i0 z0 35 56 Try.underlying50 HI.out.1 HI.out.2.1 HI.out.2.2.1 HI.out.2.2.2.1 HI.out.2.2.2.2 (by omega) v1 (0 + i) ([] ++ resL (l.take i)) rfl HO1.out A (l.length - (i + 1)) (cap - (i + 1)) (resL (l.drop (i + 1))) (by simp [Act.eval, Act.put]) T2.out (fun j u hu => (HG1.out.cell (World.block_lt_of_cell? _ _ (c2.out j u hu))).trans (c2.out j u hu)) (res_one _) (by simp only [maxLen]; omega) (by omega) HG1.out.size ?_; intro v2 w2 hown2 hgrow2)
    | (refine step_append_any rfl (.tmp 5) (.tmp 8) 50 rfl w.heap.size 98 i0 z0 35 56 Try.underlying50 HI.out.1 HI.out.2.1 HI.out.2.2.1 HI.out.2.2.2.1 HI.out.2.2.2.2 (by omega) (.slice (some ⟨w.heap.size, 0, none⟩) 0 0) 0 [] rfl (World.ownsRow_made w.drew #[] 0 (Nat.le_refl _) (Nat.zero_le _) (by simp)) ⟨gb, 0, none⟩ i cap (resL (l.take i)) (by simp [Act.eval, Act.put]) T1.out (fun j u hu => cell_alloc (W := w.drew) (c1.out j u hu) _) (res_one _) (by simp only [maxLen]; omega) (by omega) (by simp) ?_; intro v1 w1 hown1 hgrow1; have HO1 := Aside0.mk hown1; have HG1 := Aside0.mk ((below_alloc (below_drew1 (Below.refl w.heap.size w)) (.cells #[] 98)).grown hgrow1 (by simp) (fun k hk => by simp [Value.ownBlock] at hk; omega)); clear hown1 hgrow1))
  go_wp2
  go_ret
  refine ⟨v2, rfl, ?_, HG1.out.grown hgrow2 HG1.out.size (fun k hk => (HO1.out.lt k hk).1)⟩
  have e1 : 0 + i + (l.length - (i + 1)) = l.length - 1 := by omega
  have e2 : [] ++ resL (l.take i) ++ resL (l.drop (i + 1)) = resL (l.eraseIdx i) := by
    rw [List.eraseIdx_eq_take_drop_succ]; simp [resL]
  rw [e1, e2] at hown2
  exact hown2
end Go.Proofs.Ytbhibodgbgndbaa.B
/- A backlog of the reference in a variable; the reference's Remove. Condition: at most 1000000 entries. -/
namespace Go.Proofs.Ytbhibodgbgndbaa.B
open Go Go.RowKit Go.Proofs Go.Proofs.YtbhibodgbgndbaaW.PrintWords Go.Proofs.YtbhibodgbgndbaaW.PrintLast Go.Proofs.YtbhibodgbgndbaaW.PrintMore
set_option linter.unusedVariables false
set_option linter.unusedSimpArgs false
set_option maxRecDepth 100000
set_option maxHeartbeats 8000000

theorem info52 : (Try.prog.info? 52).map (·.size) = some 4 := by kernel_rfl
/-- A variable of type B. -/
def BVar (w : World) (M : Nat) (c : Array Value) : Prop := w.heap[M]? = some (.cells c 52 (0, 0)) ∧ c.size = 4 ∧ c.all (·.oneCell') = true
theorem BVar.below {w w1 : World} {M : Nat} {c : Array Value} (h : BVar w M c) (hb : Below w.heap.size w w1) : BVar w1 M c := by
  have hl : M < w.heap.size := (Array.getElem?_eq_some_iff.1 h.1).1
  exact ⟨(hb.block M hl).trans h.1, h.2⟩
theorem BVar.load {w : World} {M : Nat} {c : Array Value} (h : BVar w M c) : (loadVar 52 ⟨M, 0, none⟩).run Try.prog w = .ok (.agg c) w := by
  have := run_loadVar_mid (P := Try.prog) w M 0 52 c.toList _ (fun j v hv => by
    rw [Nat.zero_add, cell_of_row w M j c 52 (0, 0) h.1]; simpa using hv) Try.underlying52 rfl (by rw [Array.length_toList, h.2.1]; exact info52)
  simpa using this
def ld52 (p : Value) : Sem Value := Instr.loadAt 52 p
theorem execOp_ld52 (ρ : Operand → Value) (dst : Option Tmp) (p : Operand) (ty : TypeId) (pos : String) (after : Array Edge) (guard : Option (Nat × Bool)) :
    execOp ρ { dst, op := .load 52 p, type := ty, pos, after, guard } = (do pure (.value (← ld52 (ρ p)))) := by simp [execOp, ld52]
theorem BVar.ld {w : World} {M : Nat} {c : Array Value} (h : BVar w M c) : (ld52 (.pointer (some ⟨M, 0, none⟩))).run Try.prog w = .ok (.agg c) w := by
  simp only [ld52, Instr.loadAt, Instr.sureAddr, Sem.run_bind, Sem.run_pure, Result.andThen_ok, h.load]
def st52 (p v : Value) : Sem Unit := Instr.storeAt 52 p v
theorem execOp_st52 (ρ : Operand → Value) (dst : Option Tmp) (p x : Operand) (ty : TypeId) (pos : String) (after : Array Edge) (guard : Option (Nat × Bool)) :
    execOp ρ { dst, op := .store 52 p x, type := ty, pos, after, guard } = (do st52 (ρ p) (ρ x); pure .skip) := by simp [execOp, st52]
theorem BVar.st {w : World} {M : Nat} {c d : Array Value} (h : BVar w M c) (hd : d.size = 4) (h1 : d.all (·.oneCell') = true) : (st52 (.pointer (some ⟨M, 0, none⟩)) (.agg d)).run Try.prog w = .ok () (w.setRow M d) := by
  simp only [st52, Instr.storeAt, Instr.sureAddr, Sem.run_bind, Sem.run_pure, Result.andThen_ok, run_storeVar_row w M 52 52 c d h.1 (by rw [hd]; exact info52) (by rw [h.2.1, hd]) h1]
theorem BVar.set {w : World} {M : Nat} {c d : Array Value} (h : BVar w M c) (hd : d.size = 4) (h1 : d.all (·.oneCell') = true) : BVar (w.setRow M d) M d := ⟨setRow_heap w M c d 52 (0, 0) h.1, hd, h1⟩
theorem setRow_other (w : World) (M k : Nat) (d : Array Value) (h : k ≠ M) : (w.setRow M d).heap[k]? = w.heap[k]? := by
  simp only [World.setRow, Array.getElem?_modify]
  rw [if_neg (by omega)]
theorem setRow_below {B : Nat} {a w : World} {M : Nat} {d : Array Value} (h : Below B a w) (hM : B ≤ M) : Below B a (w.setRow M d) :=
  h.trans ⟨rfl, rfl, rfl, by simp [World.setRow], fun k hk => setRow_other _ _ _ _ (by omega)⟩
theorem results_B1 {fn : Func} {p : Tmp} {t : Tmp} (h : fn.results = #[.cell p 52, .tmp t]) (tmps : Array Value) (w : World) (M : Nat) (c : Array Value)
    (hp : tmps.getD p undef = .pointer (some ⟨M, 0, none⟩)) (hr : BVar w M c) : (results fn tmps).run Try.prog w = .ok (.tuple #[.agg c, tmps.getD t undef]) w := by
  have hp' : tmps[p]?.getD undef = .pointer (some ⟨M, 0, none⟩) := by simpa using hp
  simp [results, h, hp', asAddr, hr.load]
theorem rbV_one (cap wait : Int) (inc : Bool) (A : Option Addr) (n c : Nat) : (rbV cap wait inc (.slice A n c)).all (·.oneCell') = true :=
  Array.all_eq_true_iff_forall_mem.2 (by intro v hv; simp [rbV] at hv; rcases hv with rfl | rfl | rfl | rfl <;> rfl)
def zeroB : Array Value := #[.int .i64 0, .int .i64 0, .bool false, .slice none 0 0]
theorem zeroB_one : zeroB.all (·.oneCell') = true := rbV_one 0 0 false none 0 0
/-- The three variables that a function of the reference makes: the backlog, the identity, the result. -/
theorem set3 (w : World) (c : Array Value) (hc : c.size = 4) (h1 : c.all (·.oneCell') = true) (y : List Int) :
    BVar (((w.alloc (.cells c 52)).alloc (.cells (idC y) 29)).alloc (.cells zeroB 52)) w.heap.size c ∧ BVar (((w.alloc (.cells c 52)).alloc (.cells (idC y) 29)).alloc (.cells zeroB 52)) (w.heap.size + 1 + 1) zeroB ∧
    (((w.alloc (.cells c 52)).alloc (.cells (idC y) 29)).alloc (.cells zeroB 52)).rangeAt (w.heap.size + 1) 0 (y.map (Value.int .u8)) ∧ Below w.heap.size w (((w.alloc (.cells c 52)).alloc (.cells (idC y) 29)).alloc (.cells zeroB 52)) := by
  have s1 : (w.alloc (.cells c 52)).heap.size = w.heap.size + 1 := by simp
  have s2 : ((w.alloc (.cells c 52)).alloc (.cells (idC y) 29)).heap.size = w.heap.size + 1 + 1 := by simp
  refine ⟨⟨?_, hc, h1⟩, ⟨?_, rfl, zeroB_one⟩, fun j u hu => ?_, below_alloc (below_alloc (below_alloc (Below.refl _ _) _) _) _⟩
  · rw [Below.heap_alloc _ _ _ (by simp; omega), Below.heap_alloc _ _ _ (by simp)]; exact heap_alloc_last w _
  · have := heap_alloc_last ((w.alloc (.cells c 52)).alloc (.cells (idC y) 29)) (.cells zeroB 52)
    rw [s2] at this; exact this
  · have h := heap_alloc_last (w.alloc (.cells c 52)) (.cells (idC y) 29)
    rw [s1] at h
    have h2 : (((w.alloc (.cells c 52)).alloc (.cells (idC y) 29)).alloc (.cells zeroB 52)).heap[w.heap.size + 1]? = some (.cells (idC y) 29 (0, 0)) := by
      rw [Below.heap_alloc _ _ _ (by simp)]; exact h
    rw [Nat.zero_add, cell_of_row _ _ _ _ 29 (0, 0) h2]
    simpa [idC] using hu
attribute [local go_sem ↓] execOp_ld29 execOp_ld52 execOp_st52

/-- Remove of the reference, plainly. -/
def rremS (l : List RE) (x : List Int) : List RE × Bool := if x ∈ l.map (·.1) then (l.eraseIdx (idxOf (l.map rE) x).toNat, true) else (l, false)
theorem rrem_no (cap wait : Int) (inc : Bool) (A : Option Addr) (m cp : Nat) (l : List RE) (hl : ∀ r ∈ l, r.1.length = 32) (hn : l.length ≤ 1000000) (x : List Int) (hx : x.length = 32) (hm : idxOf (l.map rE) x = -1) (w : World) (ho : w.ownsRow 0 98 35 (.slice A m cp) l.length (resL l)) :
    Calls Try.prog 52 #[.agg (rbV cap wait inc (.slice A m cp)), .agg (idC x)] w fun e w' => e = .returned (.tuple #[.agg (rbV cap wait inc (.slice A m cp)), .bool false]) ∧ Below w.heap.size w w' := by
  have hu52 := Try.underlying52
  obtain ⟨B1, hB1⟩ : ∃ B1, B1 = rbV cap wait inc (.slice A m cp) := ⟨_, rfl⟩
  have HB1 := Aside0.mk hB1
  have one := rbV_one cap wait inc A m cp
  rw [← hB1] at one ⊢
  have HX := Aside0.mk (And.intro hl (And.intro hx (And.intro hm (And.intro ho one))))
  obtain ⟨v1, v2, v3, v4⟩ := set3 w B1 (by rw [hB1]; rfl) one x
  have l1 := v1.ld
  have l2 := run_ld29 _ _ _ x hx v3
  have HV := Aside0.mk (And.intro v1 (And.intro v2 v4))
  have RF := Aside0.mk (fun (W : World) (hW : Below w.heap.size w W) => show Calls Try.prog 68 #[.agg B1, .agg (idC x)] W fun e w' => e = .returned (.int .i64 (-1)) ∧ Below W.heap.size W w' from by
    have := rfind_is cap wait inc _ l hl hn x hx W (own_below ho hW)
    rw [hm, ← hB1] at this
    exact this)
  clear hl hx hm ho hB1 one v1 v2 v3 v4
  unfold zeroB at l1 l2
  go_enter Try.func52, Try.ntmps52
  go_wp2_with (first | (go_at_call 68; refine (RF.out _ HV.out.2.2).mono ?_; rintro e_ w4 ⟨rfl, hb4⟩; have k1 := HV.out.1.below hb4; have k2 := HV.out.2.1.below hb4; have l3 := k1.ld; have l4 := k2.st k1.2.1 k1.2.2; have KK := Aside0.mk (And.intro k1 (And.intro k2 (HV.out.2.2.trans (hb4.mono HV.out.2.2.size)))); clear k1 k2 hb4))
  exact bodyPost_ret (results_B1 rfl _ _ _ B1 rfl (KK.out.2.1.set KK.out.1.2.1 KK.out.1.2.2)) rfl ⟨rfl, setRow_below KK.out.2.2 (by omega)⟩
theorem own_base0 {w : World} {b : Nat} {e : TypeId} {sz n : Nat} {v : Value} {xs : List Value} (h : w.ownsRow b e sz v n xs) : w.ownsRow 0 e sz v n xs := by
  obtain ⟨h1, h2⟩ := h
  refine ⟨h1, ?_⟩
  rcases h2 with h2 | ⟨g, cap, cur, rfl, hg, r⟩
  · exact .inl h2
  · exact .inr ⟨g, cap, cur, rfl, Nat.zero_le _, r⟩
theorem own_slice {w : World} {base : Nat} {e : TypeId} {sz n : Nat} {v : Value} {xs : List Value} (h : w.ownsRow base e sz v n xs) : ∃ A c, v = .slice A n c := by
  rcases h.2 with ⟨h1, h2⟩ | ⟨g, c, _, h1, _⟩
  · exact ⟨none, 0, by rw [h1, h2]⟩
  · exact ⟨_, c, h1⟩
theorem rrem_yes (cap wait : Int) (inc : Bool) (A : Option Addr) (m cp : Nat) (l : List RE) (hl : ∀ r ∈ l, r.1.length = 32) (hn : l.length ≤ 1000000) (x : List Int) (hx : x.length = 32) (i : Nat) (hm : idxOf (l.map rE) x = (i : Int)) (hi : i < l.length) (w : World) (ho : w.ownsRow 0 98 35 (.slice A m cp) l.length (resL l)) :
    Calls Try.prog 52 #[.agg (rbV cap wait inc (.slice A m cp)), .agg (idC x)] w fun e w' => ∃ v', e = .returned (.tuple #[.agg (rbV cap wait inc v'), .bool true]) ∧ w'.ownsRow 0 98 35 v' (l.length - 1) (resL (l.eraseIdx i)) ∧ Below w.heap.size w w' := by
  have hu52 := Try.underlying52
  obtain ⟨B1, hB1⟩ : ∃ B1, B1 = rbV cap wait inc (.slice A m cp) := ⟨_, rfl⟩
  have one := rbV_one cap wait inc A m cp
  rw [← hB1] at one ⊢
  have HX := Aside0.mk (And.intro hl (And.intro hx (And.intro hm (And.intro ho one))))
  obtain ⟨v1, v2, v3, v4⟩ := set3 w B1 (by rw [hB1]; rfl) one x
  have l1 := v1.ld
  have l2 := run_ld29 _ _ _ x hx v3
  have HV := Aside0.mk (And.intro v1 (And.intro v2 v4))
  have RF := Aside0.mk (fun (W : World) (hW : Below w.heap.size w W) => show Calls Try.prog 68 #[.agg B1, .agg (idC x)] W fun e w' => e = .returned (.int .i64 (i : Int)) ∧ Below W.heap.size W w' from by
    have := rfind_is cap wait inc _ l hl hn x hx W (own_below ho hW)
    rw [hm, ← hB1] at this
    exact this)
  have RW := Aside0.mk (fun (W : World) (hW : Below w.heap.size w W) => rwithout_is l hl hn i hi (.slice A m cp) W (own_below ho hW))
  have WI := Aside0.mk (fun (W : World) (B : Option Addr) (q d : Nat) => show Calls Try.prog 61 #[.agg B1, .slice B q d] W fun e w' => e = .returned (.agg (rbV cap wait inc (.slice B q d))) ∧ Below W.heap.size W w' from by
    have := rwith_is cap wait inc A B m q cp d W
    rw [← hB1] at this
    exact this)
  have hc3 : B1[3]? = some (.slice A m cp) := by rw [hB1]; rfl
  have hd : decide ((i : Int) < 0) = false := decide_eq_false (by omega)
  have HC3 := Aside0.mk hc3
  clear hl hx hm ho hB1 one v1 v2 v3 v4 hc3
  unfold zeroB at l1 l2
  go_enter Try.func52, Try.ntmps52
  go_wp2_with (first | (go_at_call 68; refine (RF.out _ HV.out.2.2).mono ?_; rintro e_ w4 ⟨rfl, hb4⟩; have k1 := HV.out.1.below hb4; have k2 := HV.out.2.1.below hb4; have KK := Aside0.mk (And.intro k1 (And.intro k2 (HV.out.2.2.trans (hb4.mono HV.out.2.2.size)))); clear k1 k2 hb4))
  have s1 : (ld52 (.pointer (some ⟨w.heap.size, 0, none⟩))).run Try.prog w4.drew = .ok (.agg B1) w4.drew := (show BVar w4.drew w.heap.size B1 from KK.out.1).ld
  have s2 : w4.drew.cell? ⟨w.heap.size, 3, none⟩ = some (.slice A m cp) := by
    show w4.cell? _ = _
    rw [cell_of_row w4 _ 3 B1 52 (0, 0) KK.out.1.1]; exact HC3.out
  clear l1 l2
  go_region_held3 (fun w' => (ld52 (.pointer (some ⟨w.heap.size, 0, none⟩))).run Try.prog w' = .ok (.agg B1) w' ∧ w'.cell? ⟨w.heap.size, 3, none⟩ = some (.slice A m cp))
    (first | exact ⟨q1, q2⟩ | exact ⟨t1, t2⟩ | exact ⟨r1, r2⟩ | exact ⟨s1, s2⟩ | fail)
    (first
      | (go_at_call 69; refine (RW.out _ (below_drew1 KK.out.2.2)).mono ?_; rintro e_ w5 ⟨v5, rfl, ho5, hb5⟩; obtain ⟨A5, c5, rfl⟩ := own_slice ho5; have b5 := (show BVar w4.drew w.heap.size B1 from KK.out.1).below hb5; have r1 := b5.ld; have r2 : w5.cell? ⟨w.heap.size, 3, none⟩ = some (.slice A m cp) := by { rw [cell_of_row w5 _ 3 B1 52 (0, 0) b5.1]; exact HC3.out }; have K5 := Aside0.mk (And.intro b5 (And.intro ((show BVar w4.drew (w.heap.size + 1 + 1) zeroB from KK.out.2.1).below hb5) (And.intro ((below_drew1 KK.out.2.2).trans (hb5.mono KK.out.2.2.size)) ho5))); clear b5 hb5 ho5)
      | (go_at_call 61; refine (WI.out _ _ _ _).mono ?_; rintro e_ w6 ⟨rfl, hb6⟩; have b6 := K5.out.1.below hb6; have t1 := b6.ld; have t2 : w6.cell? ⟨w.heap.size, 3, none⟩ = some (.slice A m cp) := by { rw [cell_of_row w6 _ 3 B1 52 (0, 0) b6.1]; exact HC3.out }; have z6 := K5.out.2.1.below hb6; have st6 := z6.st (d := rbV cap wait inc (.slice A5 (l.length - 1) c5)) rfl (rbV_one _ _ _ _ _ _); have q0 : BVar (w6.setRow (w.heap.size + 1 + 1) (rbV cap wait inc (.slice A5 (l.length - 1) c5))) w.heap.size B1 := ⟨(setRow_other _ _ _ _ (by omega)).trans b6.1, b6.2⟩; have q1 := q0.ld; have q2 : (w6.setRow (w.heap.size + 1 + 1) (rbV cap wait inc (.slice A5 (l.length - 1) c5))).cell? ⟨w.heap.size, 3, none⟩ = some (.slice A m cp) := by { rw [cell_of_row _ _ 3 B1 52 (0, 0) q0.1]; exact HC3.out }; have K6 := Aside0.mk (And.intro z6 (And.intro (K5.out.2.2.1.trans (hb6.mono K5.out.2.2.1.size)) (own_below K5.out.2.2.2 hb6))); clear b6 z6 hb6 q0))
  go_wp2
  refine bodyPost_ret (results_B1 rfl _ _ _ _ rfl (K6.out.1.set rfl (rbV_one _ _ _ _ _ _))) rfl ⟨_, rfl, ?_, setRow_below K6.out.2.1 (by omega)⟩
  have hz : w.heap.size + 1 + 1 < w4.heap.size := (Array.getElem?_eq_some_iff.1 KK.out.2.1.1).1
  have h9 := own_kept (w' := w6.setRow (w.heap.size + 1 + 1) (rbV cap wait inc (.slice A5 (l.length - 1) c5))) K6.out.2.2 (fun k hk => setRow_other _ _ _ _ (by
    have h8 : w4.heap.size ≤ k := (K6.out.2.2.lt k hk).1
    omega))
  exact own_base0 h9
end Go.Proofs.Ytbhibodgbgndbaa.B
/- An entry of the reference built; a row copied. Condition: at most 1000000 entries. -/
namespace Go.Proofs.Ytbhibodgbgndbaa.B
open Go Go.RowKit Go.Proofs Go.Proofs.YtbhibodgbgndbaaW.PrintWords Go.Proofs.YtbhibodgbgndbaaW.PrintLast Go.Proofs.YtbhibodgbgndbaaW.PrintMore
set_option linter.unusedVariables false
set_option linter.unusedSimpArgs false
set_option maxRecDepth 100000
set_option maxHeartbeats 8000000

theorem places98 : ∃ fs : Array Field, Try.prog.underlying 98 = some (.struct fs) ∧ fs.toList.mapM (fun f => (Try.prog.info? f.type).map fun i => (f.offset, i.size)) = some [(0, 32), (32, 1), (33, 1), (34, 1)] := ⟨_, Try.underlying98, by kernel_rfl⟩
theorem run_build98 (x : List Int) (hx : x.length = 32) (due : Int) (W : World) : (Instr.build 98 #[(0, .agg (x.map (Value.int .u8)).toArray), (1, .int .i64 due)]).run Try.prog W = .ok (.agg (reL (x, due, 0, false)).toArray) W := by
  refine run_build W 98 _ _ ?_
  obtain ⟨fs, hu, hm⟩ := places98
  obtain ⟨v, h1, h2⟩ := Option.map_eq_some_iff.1 zero98
  obtain ⟨it, h3, h4⟩ := Option.bind_eq_some_iff.1 h1
  unfold Program.built
  simp only [h3, hu, h4, hm, h2]
  have e1 : zeros35 = [] ++ List.replicate 32 (.int .u8 0) ++ [.int .i64 0, .int .i64 0, .bool false] := rfl
  rw [e1, fill_step _ [] _ _ 0 _ _ (by simp) (by simp [Value.cells, hx])]
  have e2 : ([] ++ (Value.agg (x.map (Value.int .u8)).toArray).cells.toList ++ [Value.int .i64 0, Value.int .i64 0, Value.bool false] : List Value) = (x.map (Value.int .u8)) ++ [Value.int .i64 0] ++ [Value.int .i64 0, Value.bool false] := by simp [Value.cells]
  rw [e2, fill_step _ _ _ _ 1 _ _ (by simp [hx]) (by simp [Value.cells])]
  simp [Instr.fill, reL, Value.cells]
theorem run_build98t (x : List Int) (hx : x.length = 32) (due tr : Int) (W : World) : (Instr.build 98 #[(0, .agg (x.map (Value.int .u8)).toArray), (1, .int .i64 due), (2, .int .i64 tr)]).run Try.prog W = .ok (.agg (reL (x, due, tr, false)).toArray) W := by
  refine run_build W 98 _ _ ?_
  obtain ⟨fs, hu, hm⟩ := places98
  obtain ⟨v, h1, h2⟩ := Option.map_eq_some_iff.1 zero98
  obtain ⟨it, h3, h4⟩ := Option.bind_eq_some_iff.1 h1
  unfold Program.built
  simp only [h3, hu, h4, hm, h2]
  have e1 : zeros35 = [] ++ List.replicate 32 (.int .u8 0) ++ [.int .i64 0, .int .i64 0, .bool false] := rfl
  rw [e1, fill_step _ [] _ _ 0 _ _ (by simp) (by simp [Value.cells, hx])]
  have e2 : ([] ++ (Value.agg (x.map (Value.int .u8)).toArray).cells.toList ++ [Value.int .i64 0, Value.int .i64 0, Value.bool false] : List Value) = (x.map (Value.int .u8)) ++ [Value.int .i64 0] ++ [Value.int .i64 0, Value.bool false] := by simp [Value.cells]
  rw [e2, fill_step _ _ _ _ 1 _ _ (by simp [hx]) (by simp [Value.cells])]
  have e3 : (x.map (Value.int .u8) ++ (Value.int .i64 due).cells.toList ++ [Value.int .i64 0, Value.bool false] : List Value) = (x.map (Value.int .u8) ++ [Value.int .i64 due]) ++ [Value.int .i64 0] ++ [Value.bool false] := by simp [Value.cells]
  rw [e3, fill_step _ _ _ _ 2 _ _ (by simp [hx]) (by simp [Value.cells])]
  simp [Instr.fill, reL, Value.cells]
theorem run_buildRow98 (c : List Value) (hc : c.length = 35) (W : World) : (Instr.buildSlice 50 1 #[(0, .agg c.toArray)]).run Try.prog W = .ok (.slice (some ⟨W.heap.size, 0, none⟩) 1 1) (W.alloc (.cells c.toArray 98)) := by
  obtain ⟨v, h1, h2⟩ := Option.map_eq_some_iff.1 zero98
  obtain ⟨it, h3, h4⟩ := Option.bind_eq_some_iff.1 h1
  have hz : it.size = 35 := by have := info98; rw [h3] at this; simpa using this
  refine run_buildSlice W 50 98 1 _ _ it v Try.underlying50 h3 h4 (by rw [hz]; omega) (by rw [hz]; omega) ?_
  rw [hz]
  have e0 : ((Array.range (1 * 35)).map (v.cells[· % v.cells.size]!)) = ([] ++ zeros35 ++ []).toArray := by rw [h2]; kernel_rfl
  rw [e0]
  show Instr.fill (fun i => some (i * 35, 35)) _ [(0, .agg c.toArray)] = _
  rw [fill_step _ [] zeros35 [] 0 _ _ rfl (by simp [Value.cells, hc]; rfl)]
  simp [Instr.fill, Value.cells]
def bldRE (a b : Value) : Sem Value := Instr.build 98 #[(0, a), (1, b)]
def bldRT (a b c : Value) : Sem Value := Instr.build 98 #[(0, a), (1, b), (2, c)]
def bldRR (a : Value) : Sem Value := Instr.buildSlice 50 1 #[(0, a)]
@[go_sem ↓] theorem execOp_bldRE (ρ : Operand → Value) (dst : Option Tmp) (p q : Operand) (ty : TypeId) (pos : String) (after : Array Edge) (guard : Option (Nat × Bool)) :
    execOp ρ { dst, op := .build 98 #[(0, p), (1, q)], type := ty, pos, after, guard } = (do pure (.value (← bldRE (ρ p) (ρ q)))) := by simp [execOp, bldRE]
@[go_sem ↓] theorem execOp_bldRT (ρ : Operand → Value) (dst : Option Tmp) (p q r : Operand) (ty : TypeId) (pos : String) (after : Array Edge) (guard : Option (Nat × Bool)) :
    execOp ρ { dst, op := .build 98 #[(0, p), (1, q), (2, r)], type := ty, pos, after, guard } = (do pure (.value (← bldRT (ρ p) (ρ q) (ρ r)))) := by simp [execOp, bldRT]
@[go_sem ↓] theorem execOp_bldRR (ρ : Operand → Value) (dst : Option Tmp) (p : Operand) (ty : TypeId) (pos : String) (after : Array Edge) (guard : Option (Nat × Bool)) :
    execOp ρ { dst, op := .buildSlice 50 1 #[(0, p)], type := ty, pos, after, guard } = (do pure (.value (← bldRR (ρ p)))) := by simp [execOp, bldRR]
@[go_sem] theorem run_bldRE (x : List Int) (due : Int) (W : World) (hx : Aside0 (x.length = 32)) : (bldRE (.agg (x.map (Value.int .u8)).toArray) (.int .i64 due)).run Try.prog W = .ok (.agg (reL (x, due, 0, false)).toArray) W := run_build98 x hx.out due W
@[go_sem] theorem run_bldRT (x : List Int) (due t : Int) (W : World) (hx : Aside0 (x.length = 32)) : (bldRT (.agg (x.map (Value.int .u8)).toArray) (.int .i64 due) (.int .i64 t)).run Try.prog W = .ok (.agg (reL (x, due, t, false)).toArray) W := run_build98t x hx.out due t W
@[go_sem] theorem run_bldRR (x : List Int) (due t : Int) (o : Bool) (W : World) (hx : Aside0 (x.length = 32)) : (bldRR (.agg (reL (x, due, t, o)).toArray)).run Try.prog W = .ok (.slice (some ⟨W.heap.size, 0, none⟩) 1 1) (W.alloc (.cells (reL (x, due, t, o)).toArray 98)) := run_buildRow98 _ (reL_len _ hx.out) W
/-- append of a whole row, nil or not, onto a row of one's own, at a step of a region that draws. -/
theorem step_append_row {w : World} {ops : Array Oper} {o : Oper} {a : Act} {K : Act → World → Prop} {Q : Exit → Act → World → Prop} {E : Prop} (hgd : o.guard = none) (s x : Operand)
    (ho : o.op = .call { callee := .builtin .append, args := #[s, x], argTypes := #[50, 50] }) (base : Nat)
    (v : Value) (n : Nat) (xs : List Value) (hs : a.eval s = v) (hown : w.ownsRow base 98 35 v n xs)
    (y : Value) (m b2 : Nat) (news : List Value) (hx : a.eval x = y) (hy : w.ownsRow b2 98 35 y m news) (h1 : ∀ u ∈ news, u.oneCell' = true)
    (h63 : n + m ≤ maxLen) (hbytes : (n + m) * 56 ≤ 140737488355328) (hbase : base ≤ w.heap.size)
    (h : ∀ v' w', w'.ownsRow base 98 35 v' (n + m) (xs ++ news) → w.grownBy w' v.ownBlock → (∀ k, v.ownBlock = some k → base ≤ k) → K (a.put o.dst v') w') :
    if Region.wanted o (yielded ops a.tmps) = true then Oper.wp Try.prog o a w K Q else E := by
  obtain ⟨i0, z0, hi0, hz0, hs0, hb0, hzc0⟩ := info98r
  have hl := hy.1
  rcases hy.2 with ⟨rfl, h0⟩ | ⟨gb, cap, cur, rfl, _⟩
  · subst h0
    have hx0 : news = [] := List.eq_nil_of_length_eq_zero (by simpa using hl)
    subst hx0
    have hw : Region.wanted o (yielded ops a.tmps) = true := by simp [Region.wanted, hgd]
    rw [if_pos hw]
    have hr := run_append_owned_none (P := Try.prog) w base 50 o.type 98 i0 35 Try.underlying50 hi0 v n xs hown
    unfold Oper.wp execOp
    simp only [ho, resolve, invoke, builtin, Sem.run_bind, Sem.run_pure, Result.andThen_ok, List.map_toArray, List.map_cons, List.map_nil, hs, hx, hr]
    exact h v w (by rw [List.append_nil, Nat.add_zero]; exact hown) (World.grownBy.refl _ _) (fun k hk => (hown.lt k hk).1)
  · exact step_append_any hgd s x 50 ho base 98 i0 z0 35 56 Try.underlying50 hi0 hz0 hs0 hb0 hzc0 (by omega) v n xs hs hown ⟨gb, 0, none⟩ m cap news hx hl (hy.cells (g := gb) rfl) h1 h63 hbytes hbase (fun v' w' k1 k2 => h v' w' k1 k2 (fun k hk => (hown.lt k hk).1))
end Go.Proofs.Ytbhibodgbgndbaa.B
/- The reference's Add. Condition: at most 1000000 entries. -/
namespace Go.Proofs.Ytbhibodgbgndbaa.B
open Go Go.RowKit Go.Proofs Go.Proofs.YtbhibodgbgndbaaW.PrintWords Go.Proofs.YtbhibodgbgndbaaW.PrintLast Go.Proofs.YtbhibodgbgndbaaW.PrintMore
set_option linter.unusedVariables false
set_option linter.unusedSimpArgs false
set_option maxRecDepth 100000
set_option maxHeartbeats 8000000
set_option linter.unusedSectionVars false
attribute [local go_sem ↓] execOp_ld29 execOp_ld52 execOp_st52

theorem eq_zero29 (x : List Int) (hx : x.length = 32) (W : World) :
    (Op.equalIn 10000 29 (.agg (x.map (Value.int .u8)).toArray) (.agg #[.int .u8 0, .int .u8 0, .int .u8 0, .int .u8 0, .int .u8 0, .int .u8 0, .int .u8 0, .int .u8 0, .int .u8 0, .int .u8 0, .int .u8 0, .int .u8 0, .int .u8 0, .int .u8 0, .int .u8 0, .int .u8 0, .int .u8 0, .int .u8 0, .int .u8 0, .int .u8 0, .int .u8 0, .int .u8 0, .int .u8 0, .int .u8 0, .int .u8 0, .int .u8 0, .int .u8 0, .int .u8 0, .int .u8 0, .int .u8 0, .int .u8 0, .int .u8 0])).run Try.prog W = .ok (decide (x = zeroId)) W := run_eqId29 9998 W x zeroId hx (by simp [zeroId])
section
variable (cap wait : Int) (inc : Bool) (A : Option Addr) (m cp : Nat) (l : List RE) (hl : ∀ r ∈ l, r.1.length = 32) (hn : l.length ≤ 1000000) (x : List Int) (hx : x.length = 32) (due : Int) (w : World) (ho : w.ownsRow 0 98 35 (.slice A m cp) l.length (resL l))
include hl hn hx ho
theorem radd_zero (hz : x = zeroId) :
    Calls Try.prog 51 #[.agg (rbV cap wait inc (.slice A m cp)), .agg (idC x), .int .i64 due] w fun e w' => e = .returned (.tuple #[.agg (rbV cap wait inc (.slice A m cp)), .int .i64 1]) ∧ Below w.heap.size w w' := by
  have hu52 := Try.underlying52
  have heq := eq_zero29 x hx
  rw [decide_eq_true hz] at heq
  obtain ⟨B1, hB1⟩ : ∃ B1, B1 = rbV cap wait inc (.slice A m cp) := ⟨_, rfl⟩
  have one := rbV_one cap wait inc A m cp
  rw [← hB1] at one ⊢
  obtain ⟨v1, v2, v3, v4⟩ := set3 w B1 (by rw [hB1]; rfl) one x
  have l1 := v1.ld
  have l2 := run_ld29 _ _ _ x hx v3
  have l4 := v2.st v1.2.1 v1.2.2
  have KK := Aside0.mk (And.intro v1 (And.intro v2 v4))
  clear hl hx hn ho hz hB1 one v1 v2 v3 v4
  unfold zeroB at l1 l2 l4
  go_enter Try.func51, Try.ntmps51
  go_wp2
  exact bodyPost_ret (results_B1 rfl _ _ _ B1 rfl (KK.out.2.1.set KK.out.1.2.1 KK.out.1.2.2)) rfl ⟨rfl, setRow_below KK.out.2.2 (by omega)⟩
theorem radd_range (hz : x ≠ zeroId) (hd : minB due = false) :
    Calls Try.prog 51 #[.agg (rbV cap wait inc (.slice A m cp)), .agg (idC x), .int .i64 due] w fun e w' => e = .returned (.tuple #[.agg (rbV cap wait inc (.slice A m cp)), .int .i64 2]) ∧ Below w.heap.size w w' := by
  have hu52 := Try.underlying52
  have heq := eq_zero29 x hx
  rw [decide_eq_false hz] at heq
  obtain ⟨B1, hB1⟩ : ∃ B1, B1 = rbV cap wait inc (.slice A m cp) := ⟨_, rfl⟩
  have one := rbV_one cap wait inc A m cp
  rw [← hB1] at one ⊢
  obtain ⟨v1, v2, v3, v4⟩ := set3 w B1 (by rw [hB1]; rfl) one x
  have l1 := v1.ld
  have l2 := run_ld29 _ _ _ x hx v3
  have l4 := v2.st v1.2.1 v1.2.2
  have KK := Aside0.mk (And.intro v1 (And.intro v2 v4))
  have HD := Aside0.mk hd
  clear hl hx hn ho hz hB1 one v1 v2 v3 v4 hd
  unfold zeroB at l1 l2 l4
  go_enter Try.func51, Try.ntmps51
  go_wp2_with (first | (go_at_call 67; refine (rminute_is due _).mono ?_; rintro e_ w1 ⟨rfl, hq⟩; subst w1; rw [HD.out]))
  exact bodyPost_ret (results_B1 rfl _ _ _ B1 rfl (KK.out.2.1.set KK.out.1.2.1 KK.out.1.2.2)) rfl ⟨rfl, setRow_below KK.out.2.2 (by omega)⟩
theorem radd_dup (hz : x ≠ zeroId) (hd : minB due = true) (i : Nat) (hm : idxOf (l.map rE) x = (i : Int)) :
    Calls Try.prog 51 #[.agg (rbV cap wait inc (.slice A m cp)), .agg (idC x), .int .i64 due] w fun e w' => e = .returned (.tuple #[.agg (rbV cap wait inc (.slice A m cp)), .int .i64 7]) ∧ Below w.heap.size w w' := by
  have hu52 := Try.underlying52
  have heq := eq_zero29 x hx
  rw [decide_eq_false hz] at heq
  obtain ⟨B1, hB1⟩ : ∃ B1, B1 = rbV cap wait inc (.slice A m cp) := ⟨_, rfl⟩
  have one := rbV_one cap wait inc A m cp
  rw [← hB1] at one ⊢
  obtain ⟨v1, v2, v3, v4⟩ := set3 w B1 (by rw [hB1]; rfl) one x
  have l1 := v1.ld
  have l2 := run_ld29 _ _ _ x hx v3
  have HV := Aside0.mk (And.intro v1 (And.intro v2 v4))
  have HD := Aside0.mk hd
  have RF := Aside0.mk (fun (W : World) (hW : Below w.heap.size w W) => show Calls Try.prog 68 #[.agg B1, .agg (idC x)] W fun e w' => e = .returned (.int .i64 (i : Int)) ∧ Below W.heap.size W w' from by
    have := rfind_is cap wait inc _ l hl hn x hx W (own_below ho hW)
    rw [hm, ← hB1] at this
    exact this)
  have hdi : decide ((i : Int) ≥ 0) = true := decide_eq_true (by omega)
  clear hl hx hn ho hz hB1 one v1 v2 v3 v4 hd hm
  unfold zeroB at l1 l2
  go_enter Try.func51, Try.ntmps51
  go_wp2_with (first | (go_at_call 67; refine (rminute_is due _).mono ?_; rintro e_ w1 ⟨rfl, hq⟩; subst w1; rw [HD.out]) | (go_at_call 68; refine (RF.out _ HV.out.2.2).mono ?_; rintro e_ w4 ⟨rfl, hb4⟩; have k1 := HV.out.1.below hb4; have k2 := HV.out.2.1.below hb4; have l3 := k1.ld; have l4 := k2.st k1.2.1 k1.2.2; have KK := Aside0.mk (And.intro k1 (And.intro k2 (HV.out.2.2.trans (hb4.mono HV.out.2.2.size)))); clear k1 k2 hb4))
  exact bodyPost_ret (results_B1 rfl _ _ _ B1 rfl (KK.out.2.1.set KK.out.1.2.1 KK.out.1.2.2)) rfl ⟨rfl, setRow_below KK.out.2.2 (by omega)⟩
end
end Go.Proofs.Ytbhibodgbgndbaa.B
