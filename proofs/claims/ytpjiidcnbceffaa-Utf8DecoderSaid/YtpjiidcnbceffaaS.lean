/- The contract of utf8.offsets: the offsets of all code points and the length, or the kind of the first error. Condition: at most 1000000 bytes. -/
import Derived.Test.YtpjiidcnbceffaaX
import Derived.Test.YtpjiidcnbceffaaR
namespace Go.Proofs.Ytpjiidcnbceffaa.UA
open Go Go.RowKit Go.Shelf Go.Proofs Go.Proofs.YtpjiidcnbceffaaW.PrintWords Go.Proofs.YtpjiidcnbceffaaW.PrintLast Go.Proofs.YtpjiidcnbceffaaW.PrintMore
set_option linter.unusedVariables false
set_option linter.unusedSimpArgs false
attribute [local go_sem] Oper.semAt_some

theorem check_is (s : ByteArray) (hs : s.size ≤ 1000000) (n e : Int) (h : chkP s = (n, e)) (w : World) :
    Calls Try.prog 16 #[.string s] w fun e_ w' => e_ = .returned (.tuple #[.int .i64 n, .int .i64 e]) ∧ Below w.heap.size w w' :=
  Q.utf8_Check.calls (s.size + 1) s n e w (by rw [check_eq s hs _ (Nat.le_refl _), h])

def offs (l : List (Nat × Int)) : List Int := l.map fun x => (x.1 : Int)
theorem offs_len (l : List (Nat × Int)) : (offs l).length = l.length := List.length_map _
theorem offs_snoc (l : List (Nat × Int)) (x : Nat × Int) : offs (l ++ [x]) = offs l ++ [(x.1 : Int)] := by simp [offs]
theorem infoI : (Try.prog.info? 3).map (fun i => (i.zero, i.size, i.bytes)) = some (some (.int .i64 0), 1, 8) := by kernel_rfl

set_option maxHeartbeats 4000000 in
set_option maxRecDepth 100000 in
theorem offsets_err (s : ByteArray) (hs : s.size ≤ 1000000) (n e : Int) (h : chkP s = (n, e)) (he : e ≠ 0) (w : World) :
    Calls Try.prog 46 #[.string s] w fun e_ w' => e_ = .returned (.tuple #[.slice none 0 0, .int .i64 e]) ∧ Below w.heap.size w w' := by
  have hez : (e != 0) = true := bne_iff_ne.2 he
  have H := Aside0.mk h
  clear h he
  go_enter Try.func46, Try.ntmps46
  go_wp2_with (first | (go_at_call 16; refine (check_is s hs n e H.out _).mono ?_; rintro e_ w1 ⟨rfl, hb1⟩))
  go_ret2
  exact ⟨rfl, hb1⟩

set_option maxHeartbeats 4000000 in
set_option maxRecDepth 100000 in
theorem offsets_in (m : Nat) (hm : 3 ≤ m) (s : ByteArray) (hs : s.size ≤ 1000000) (n : Int) (h : chkP s = (n, 0)) (hpl : (prP s).length ≤ 1000000) (w : World) :
    CallsIn Fence.wide m Try.prog 46 #[.string s] w fun e_ W' => ∃ v, e_ = .returned (.tuple #[v, .int .i64 0]) ∧ W'.ownsRow w.heap.size 3 1 v (offs (prP s) ++ [(s.size : Int)]).length ((offs (prP s) ++ [(s.size : Int)]).map (Value.int .i64)) ∧ Below w.heap.size w W' := by
  have H := Aside0.mk h
  clear h
  have h1 : 1 ≤ m := by omega
  obtain ⟨i0, hi, hz0, hz1, hz2⟩ := info_parts infoI
  refine callsIn_of_wp_marks Try.func46 rfl trivial ?_ rfl
  simp only [Try.ntmps46, List.size_toArray, List.length_cons, List.length_nil, Nat.reduceAdd, Nat.reduceSub, Array.replicate_succ, Array.replicate_zero, List.push_toArray, List.append_toArray, List.nil_append, List.cons_append]
  gi_wp2_with (first | (refine ⟨trivial, ?_⟩; gi_at_call 16; refine (callsIn_wide.2 (check_is s hs n 0 H.out _)).mono ?_; rintro e_ w1 ⟨rfl, hb1⟩) | (refine ⟨trivial, ?_⟩; gi_at_call 26; refine (runes_in (m - 1) s _).mono ?_; rintro e_ w2 ⟨rfl, rfl⟩))
  have bO := Boxed.new w1 23 (.slice none 0 0)
  have bS := Boxed.new (w1.alloc (.cells #[.slice none 0 0] 23)) 9 (.string s)
  rw [World.size_alloc] at bS
  have hw1 := hb1.size
  have hB0 : Below w.heap.size w ((w1.alloc (.cells #[.slice none 0 0] 23)).alloc (.cells #[.string s] 9)) := below_alloc (below_alloc hb1 _) _
  refine wpIn_rangeFunc_ownG rfl h1 (gf := 45) (lb := #[.pointer (some ⟨w1.heap.size + 1, 0, none⟩)]) rfl trivial (enters_of Try.func45 (by kernel_rfl) rfl)
    (runes_stops (m - 1) (by omega) (w1.heap.size + 1) w.heap.size s hs _ bS.cell (by simp)) kpR_t (kpR_b (by simp; omega) (by simp)) (Below.refl _ _) (fun _ => rfl)
    (fun pre W => (∃ v, Boxed W w1.heap.size 23 v ∧ W.ownsRow w.heap.size 3 1 v (offs pre).length ((offs pre).map (Value.int .i64)) ∧ True) ∧ (Boxed W (w1.heap.size + 1) 9 (.string s) ∧ Below w.heap.size w W))
    (fun _ _ _ => False)
    (OwnFrom.and (Own.from (holdsRow_own w.heap.size w1.heap.size 23 3 1 (fun (pre : List (Nat × Int)) => (offs pre).length) (fun (pre : List (Nat × Int)) => (offs pre).map (Value.int .i64)) (fun (pre : List (Nat × Int)) v => True)) _) (OwnFrom.and (Own.from (boxed_own _ _ _) _) (ownFrom_below (Nat.le_refl _) (by simp; omega))))
    (fun _ _ _ _ _ hs _ _ => hs)
    ⟨⟨_, bO.alloc _, World.ownsRow_nil _ _ _ _, trivial⟩, bS, hB0⟩
    (fun x => { tmps := #[.string s, undef, .slice none 0 0, .int .i64 0, .int .i64 n, .int .i64 0, .pointer (some ⟨w1.heap.size, 0, none⟩), .int .i64 (x.1 : Int), .tuple #[.int .i64 n, .int .i64 0], .string s, .tuple #[.int .i64 n, .int .i64 0], .int .i64 n, .int .i64 0, .int .i64 0, .bool false, undef, .string s, .func (.func 45) #[] #[.pointer (some ⟨w1.heap.size + 1, 0, none⟩)], .int .i64 (x.1 : Int), .int .i32 x.2, undef, undef, undef, undef, undef, undef, undef, undef, undef], defers := [] }) ?assign ?body ?done ?stop
  case assign =>
    intro l x W K hK
    gi_wp2
    exact hK
  case body =>
    rintro l pre x W ⟨⟨v, hv, hrow, _⟩, hS, hB⟩ hlt
    have hc := hv.cell
    have hpz : (offs pre).length = pre.length := offs_len _
    have HPZ := Aside0.mk hpz
    clear hpz
    gi_wp2_with (gi_at_builtin; refine wpListIn_append_own _ rfl _ _ 23 rfl w.heap.size 3 i0 (.int .i64 0) 1 8 Try.underlying23 hi hz0 hz1 hz2 rfl (by decide) _ _ _ rfl (hrow.alloc _) ⟨W.heap.size, 0, none⟩ 1 1 [.int .i64 (x.1 : Int)] rfl rfl (cell_one_new _ _ _) (by simp [Value.oneCell']) (by rw [HPZ.out]; unfold maxLen; omega) (by rw [HPZ.out]; omega) (by have := hB.size; simp; omega) ?_; intro v' w3 hown' hgrow _; obtain ⟨g', cap', rfl⟩ := ownsRow_succ hown'; obtain ⟨hv1, hv2, hr2, hk2, hb2⟩ := hv.appended (by decide) hrow hB.size hw1 hown' hgrow; have hc1 := hv1.cell; have hf1 := hv1.frozen)
    have hS2 : Boxed (w3.setCell ⟨w1.heap.size, 0, none⟩ (.slice (some ⟨g', 0, none⟩) ((offs pre).length + 1) cap')) (w1.heap.size + 1) 9 (.string s) :=
      ((hS.alloc _).kept hgrow (hS.not_row (by decide) hrow)).kept (grownBy_setCell' _ _ _) (by simp)
    exact ⟨hk2.from _, ⟨hb2, fun u hu => by rw [hS.cell] at hu; cases hu; exact hS2.cell⟩, ⟨_, hv2, by rw [offs_snoc]; simpa using hr2, trivial⟩, hS2, hB.trans hb2⟩
  case done =>
    rintro D ys W hD rfl ⟨⟨v, hv, hrow, _⟩, hS, hB⟩ hK
    have hc := hv.cell
    have hDl : D < W.heap.size := (Array.getElem?_eq_some_iff.1 hK).1
    have hneD : some D ≠ v.ownBlock := fun e' => by
      rcases hrow.2 with ⟨rfl, _⟩ | ⟨g, cap, cur, rfl, _, hgb, _⟩
      · simp [Value.ownBlock] at e'
      · obtain rfl : D = g := by simpa [Value.ownBlock] using e'
        rw [hgb] at hK; cases hK
    have hpz : (offs (prP s)).length = (prP s).length := offs_len _
    have HPZ := Aside0.mk hpz
    clear hpz
    gi_wp2_with (gi_at_builtin; refine wpListIn_append_own _ rfl _ _ 23 rfl w.heap.size 3 i0 (.int .i64 0) 1 8 Try.underlying23 hi hz0 hz1 hz2 rfl (by decide) _ _ _ rfl (hrow.alloc _) ⟨W.heap.size, 0, none⟩ 1 1 [.int .i64 (s.size : Int)] rfl rfl (cell_one_new _ _ _) (by simp [Value.oneCell']) (by rw [HPZ.out]; unfold maxLen; omega) (by rw [HPZ.out]; omega) (by have := hB.size; simp; omega) ?_; intro v' w3 hown' hgrow _)
    have hK3 : w3.heap[D]? = some (.deferred (some [])) := by
      refine (hgrow.block D (by simp; omega) hneD).trans ?_
      exact (Below.heap_alloc W _ D hDl).trans hK
    have hB3 : Below w.heap.size w w3 := (hB.alloc hB.size _).grown hgrow (by have := hB.size; simp; omega) (fun k hk => (hrow.lt k hk).1)
    refine ⟨by simp, .inl ⟨_, _, rfl, run_takeDeferred hK3, ?_⟩⟩
    exact ⟨_, results_tmp2 rfl _ _ _, _, rfl, by simpa using ownsRow_putObj hown' _ hK3 rfl, hB3.trans (belowK_b (w := w) (Nat.le_refl _) w3 D _ _ (by simp at hD; omega) hK3 rfl rfl)⟩
  case stop =>
    rintro D c pre W _ _ h _
    exact h.elim

theorem prGo_len (s : ByteArray) (f : Nat) : ∀ at_ : Nat, at_ ≤ s.size → (prGo s f at_).length ≤ s.size - at_ := by
  induction f with
  | zero => intro at_ h; simp [prGo]
  | succ f ih =>
    intro at_ h
    rw [prGo]
    by_cases hlt : at_ < s.size
    · rw [if_pos hlt]
      by_cases h0 : (fstP (s.extract at_ s.size)).2.2 = 0
      · obtain ⟨m, hm, h1, _, h2⟩ := fst_step s at_ hlt h0
        rw [if_pos h0, hm, Int.toNat_natCast, List.length_cons]
        have := ih (at_ + m) h2
        omega
      · rw [if_neg h0]; simp
    · rw [if_neg hlt]; simp
theorem prP_len (s : ByteArray) : (prP s).length ≤ s.size := by have := prGo_len s (s.size + 1) 0 (by omega); unfold prP; omega

def utf8_offsets.f (a0 : ByteArray) : Option (List Int × Int) :=
  if a0.size ≤ 1000000 then (if (chkP a0).2 = 0 then some (offs (prP a0) ++ [(a0.size : Int)], 0) else some ([], (chkP a0).2)) else none
theorem utf8_offsets.calls (a0 : ByteArray) (r1 : List Int) (r2 : Int) (w : World) (h : utf8_offsets.f a0 = some (r1, r2)) :
    Calls Try.prog 46 #[.string a0] w fun e w' => ∃ v0_ : Value, e = .returned (.tuple #[v0_, .int .i64 r2]) ∧ Kd.R (Kd.int .i64) 3 w' w.heap.size (fun _ => True) v0_ r1 ∧ Below w.heap.size w w' := by
  unfold utf8_offsets.f at h
  split at h
  · rename_i hs
    split at h
    · rename_i h0
      simp only [Option.some.injEq, Prod.mk.injEq] at h
      obtain ⟨rfl, rfl⟩ := h
      refine (callsIn_wide (n := 3).1 (offsets_in 3 (by omega) a0 hs (chkP a0).1 (by rw [← h0]) (by have := prP_len a0; omega) w)).mono ?_
      rintro e w' ⟨v, rfl, ho, hb⟩
      exact ⟨v, rfl, Kd.R_of_own (enc := Value.int .i64) (h1 := fun _ => rfl) ho (fun _ _ => trivial), hb⟩
    · rename_i h0
      simp only [Option.some.injEq, Prod.mk.injEq] at h
      obtain ⟨rfl, rfl⟩ := h
      refine (offsets_err a0 hs (chkP a0).1 (chkP a0).2 rfl h0 w).mono ?_
      rintro e w' ⟨rfl, hb⟩
      exact ⟨_, rfl, Kd.R_nil _ _ _ _ _, hb⟩
  · cases h
#print axioms utf8_offsets.calls
end Go.Proofs.Ytpjiidcnbceffaa.UA
