/- The law Utf8Runes. Condition: at most 1000000 bytes. -/
import Derived.Test.YtpjiidcnbceffaaH
namespace Go.Proofs.Ytpjiidcnbceffaa.UA
open Go Go.RowKit Go.Shelf Go.Proofs Go.Proofs.YtpjiidcnbceffaaW.PrintWords Go.Proofs.YtpjiidcnbceffaaW.PrintLast Go.Proofs.YtpjiidcnbceffaaW.PrintMore
set_option linter.unusedVariables false
set_option linter.unusedSimpArgs false
attribute [local go_sem] Oper.semAt_some

theorem short_is (s t : ByteArray) (n : Nat) (h : t = s.extract 0 (min s.size n)) (w : World) : Calls Try.prog 14 #[.string s, .int .i64 n] w fun e w' => e = .returned (.string t) ∧ Below w.heap.size w w' := by
  exact Q.bulletinlaw03_short.calls s n t w (by rw [short_eq, h])
theorem known_is (w : World) : Calls Try.prog 17 #[] w fun e w' => e = .returned (.bool true) ∧ Below w.heap.size w w' :=
  Q.bulletinlaw03_known.calls 30 true w known_30
theorem all_is (s : ByteArray) (hs : s.size ≤ 1000000) (w : World) : Calls Try.prog 15 #[.string s] w fun e w' => ∃ v0 v1 : Value, e = .returned (.tuple #[v0, v1, .int .i64 (chkP s).1, .int .i64 (chkP s).2]) ∧ Kd.R (Kd.int .i64) 3 w' w.heap.size (fun k => some k ≠ v1.ownBlock) v0 (rns (prP s)) ∧ Kd.R (Kd.int .i64) 3 w' w.heap.size (fun k => some k ≠ v0.ownBlock) v1 (offs (prP s)) ∧ Below w.heap.size w w' :=
  Q.bulletinref03_All.calls (s.size + 21) s _ _ _ _ w (by rw [all_eq s hs _ (Nat.le_refl _), allP_pr])

theorem rns_cp (s : ByteArray) (f : Nat) : ∀ at_ : Nat, ∀ r ∈ rns (prGo s f at_), isCp r = true := by
  induction f with
  | zero => intro at_ r h; simp [prGo, rns] at h
  | succ f ih =>
    intro at_ r h
    rw [prGo] at h
    by_cases hlt : at_ < s.size
    · rw [if_pos hlt] at h
      by_cases h0 : (fstP (s.extract at_ s.size)).2.2 = 0
      · rw [if_pos h0] at h
        simp only [rns, List.map_cons, List.mem_cons] at h
        rcases h with rfl | h
        · exact (fst_dec _ _ (fstP (s.extract at_ s.size)).2.1 (by rw [← h0])).1
        · exact ih _ r h
      · rw [if_neg h0] at h; simp [rns] at h
    · rw [if_neg hlt] at h; simp [rns] at h
theorem pr_at (t : ByteArray) (pre : List (Nat × Int)) (x : Nat × Int) (h : pre ++ [x] <+: prP t) : (prP t)[pre.length]? = some x := by
  obtain ⟨r, hr⟩ := h
  rw [← hr]; simp
theorem pr_first (t : ByteArray) (pre : List (Nat × Int)) (x : Nat × Int) (h : pre ++ [x] <+: prP t) : (x.1 : Int) = rd (offs (prP t)) (pre.length : Int) := by
  have := pr_at t pre x h
  unfold rd offs
  rw [List.getD_eq_getElem?_getD, Int.toNat_natCast, List.getElem?_map, this]; rfl
theorem pr_second (t : ByteArray) (pre : List (Nat × Int)) (x : Nat × Int) (h : pre ++ [x] <+: prP t) : wrap64 x.2 = rd (rns (prP t)) (pre.length : Int) := by
  have h1 := pr_at t pre x h
  have h2 : rd (rns (prP t)) (pre.length : Int) = x.2 := by
    unfold rd rns
    rw [List.getD_eq_getElem?_getD, Int.toNat_natCast, List.getElem?_map, h1]; rfl
  have h3 := rns_cp t (t.size + 1) 0 x.2 (by
    have := List.mem_of_getElem? h1
    exact List.mem_map_of_mem this)
  rw [isCp_iff] at h3
  rw [h2]
  unfold wrap64; omega
/-- Old blocks as they lay. -/
def Old (a : Nat) (w3 W : World) : Prop := ∀ k, a ≤ k → k < w3.heap.size → W.heap[k]? = w3.heap[k]?
theorem old_lt {a k : Nat} {w3 W : World} (h : Old a w3 W) (h1 : a ≤ k) (h2 : k < w3.heap.size) : k < W.heap.size := by
  have := h k h1 h2
  rw [Array.getElem?_eq_getElem h2] at this
  exact (Array.getElem?_eq_some_iff.1 this).1
theorem old_alloc {a : Nat} {w3 W : World} (h : Old a w3 W) (o : Obj) : Old a w3 (W.alloc o) := fun k h1 h2 => (Below.heap_alloc W o k (old_lt h h1 h2)).trans (h k h1 h2)
theorem old_set {a : Nat} {w3 W : World} (h : Old a w3 W) (g : Nat) (hg : g < a ∨ w3.heap.size ≤ g) (v : Value) : Old a w3 (W.setCell ⟨g, 0, none⟩ v) := fun k h1 h2 => (Below.heap_setCell W _ _ k (by simp; omega)).trans (h k h1 h2)
theorem old_own {β : Type} (a : Nat) (w3 : World) (B : Nat) (hB : w3.heap.size ≤ B) : OwnFrom B (fun (_ : β) W => Old a w3 W) := fun s W W' row h hg hr k h1 h2 =>
  (hg.block k (old_lt h h1 h2) (fun e => by obtain ⟨hb, _⟩ := hr k e.symm; omega)).trans (h k h1 h2)
theorem R_old2 {w3 W : World} {base : Nat} {ok : Nat → Prop} {v : Value} {xs : List Int} (h : Kd.R (Kd.int .i64) 3 w3 base ok v xs) (ho : Old base w3 W) : Kd.R (Kd.int .i64) 3 W base (fun _ => True) v xs :=
  Kd.R_mono (Kd.R_step (Kd.R_bound h) (fun k hk hlt => ho k hk.2.1 hlt)) (fun _ _ => trivial)
/-- What the law's loop keeps. -/
def RnB (w w2 w3 : World) (A0 : Option Addr) (c0 : Nat) (A1 : Option Addr) (c1 : Nat) (t : ByteArray) (q n : Int) (W : World) : Prop :=
  Boxed W w3.heap.size 23 (.slice A0 (rns (prP t)).length c0) ∧ Boxed W (w3.heap.size + 1) 23 (.slice A1 (offs (prP t)).length c1) ∧ Boxed W (w3.heap.size + 1 + 1) 3 (.int .i64 (q + 1)) ∧
  Boxed W (w3.heap.size + 1 + 1 + 1) 3 (.int .i64 n) ∧ Boxed W w.heap.size 4 (.bool false) ∧ Old w2.heap.size w3 W ∧ Below w.heap.size w W
theorem rnB_own (w w2 w3 : World) (A0 : Option Addr) (c0 : Nat) (A1 : Option Addr) (c1 : Nat) (t : ByteArray) (q : Int) (B : Nat) (hB : w3.heap.size ≤ B) (hB2 : w.heap.size ≤ B) :
    OwnFrom B (fun (pre : List (Nat × Int)) W => RnB w w2 w3 A0 c0 A1 c1 t q (pre.length : Int) W) :=
  OwnFrom.and (Own.from (boxed_own _ _ _) _) (OwnFrom.and (Own.from (boxed_own _ _ _) _) (OwnFrom.and (Own.from (boxed_own _ _ _) _) (OwnFrom.and (Own.from (boxed_own _ _ _) _) (OwnFrom.and (Own.from (boxed_own _ _ _) _) (OwnFrom.and (old_own _ _ _ hB) (ownFrom_below (Nat.le_refl _) hB2))))))

set_option maxHeartbeats 4000000 in
set_option maxRecDepth 100000 in
theorem runes_law (m : Nat) (hm : 3 ≤ m) (s t : ByteArray) (ht : t = s.extract 0 (min s.size 300)) (hs : t.size ≤ 300) (q : Int) (hq0 : 0 ≤ q) (hq : q ≤ 255) (w : World) :
    CallsIn Fence.wide m Try.prog 7 #[.string s, .int .u8 q] w fun e_ W' => e_ = .returned (.bool true) ∧ Below w.heap.size w W' := by
  have HT := Aside0.mk ht
  clear ht
  have h1 : 1 ≤ m := by omega
  have h2 : 1 ≤ m - 1 - 1 := by omega
  refine callsIn_of_wp_marks Try.func7 rfl trivial ?_ rfl
  simp only [Try.ntmps7, List.size_toArray, List.length_cons, List.length_nil, Nat.reduceAdd, Nat.reduceSub, Array.replicate_succ, Array.replicate_zero, List.push_toArray, List.append_toArray, List.nil_append, List.cons_append]
  gi_wp2_with (first | (refine ⟨trivial, ?_⟩; gi_at_call 14; refine (callsIn_wide.2 (short_is s t 300 HT.out _)).mono ?_; rintro e_ w1 ⟨rfl, hb1⟩) | (refine ⟨trivial, ?_⟩; gi_at_call 17; refine (callsIn_wide.2 (known_is _)).mono ?_; rintro e_ w2 ⟨rfl, hb2⟩) | (refine ⟨trivial, ?_⟩; gi_at_call 15; refine (callsIn_wide.2 (all_is t (by omega) _)).mono ?_; rintro e_ w3 ⟨v0, v1, rfl, hR0, hR1, hb3⟩; obtain ⟨A0, c0, e0⟩ := Kd.R_slice hR0; obtain ⟨A1, c1, e1⟩ := Kd.R_slice hR1; subst e0 e1)  | (refine ⟨trivial, ?_⟩; gi_at_call 26; refine (runes_in (m - 1) t _).mono ?_; rintro e_ w4 ⟨rfl, rfl⟩))
  obtain ⟨w4, hw4⟩ : ∃ w4, ((w3.alloc (.cells #[.slice A0 (rns (prP t)).length c0] 23)).alloc (.cells #[.slice A1 (offs (prP t)).length c1] 23)).alloc (.cells #[.int .i64 (q + 1)] 3) = w4 := ⟨_, rfl⟩
  have z4 : w4.heap.size = w3.heap.size + 1 + 1 + 1 := by rw [← hw4]; simp
  have b5 : Boxed w4 w3.heap.size 23 (.slice A0 (rns (prP t)).length c0) := by rw [← hw4]; exact ((Boxed.new w3 23 _).alloc _).alloc _
  have b6 : Boxed w4 (w3.heap.size + 1) 23 (.slice A1 (offs (prP t)).length c1) := by
    rw [← hw4]; have := Boxed.new (w3.alloc (.cells #[.slice A0 (rns (prP t)).length c0] 23)) 23 (.slice A1 (offs (prP t)).length c1); rw [World.size_alloc] at this; exact this.alloc _
  have b9 : Boxed w4 (w3.heap.size + 1 + 1) 3 (.int .i64 (q + 1)) := by
    rw [← hw4]; have := Boxed.new ((w3.alloc (.cells #[.slice A0 (rns (prP t)).length c0] 23)).alloc (.cells #[.slice A1 (offs (prP t)).length c1] 23)) 3 (.int .i64 (q + 1)); rw [World.size_alloc, World.size_alloc] at this; exact this
  have b4 : Boxed w3 w.heap.size 4 (.bool false) := (((Boxed.new w 4 (.bool false)).kept (grown_of_below hb1 none) (by simp)).kept (grown_of_below hb2 none) (by simp)).kept (grown_of_below hb3 none) (by simp)
  have b44 : Boxed w4 w.heap.size 4 (.bool false) := by rw [← hw4]; exact ((b4.alloc _).alloc _).alloc _
  have s1 := hb1.size
  rw [World.size_alloc] at s1
  have s2 := hb2.size
  have s3 := hb3.size
  have hbw3 : Below w.heap.size w w3 := (((below_alloc (Below.refl _ _) _).trans (hb1.mono (by simp))).trans (hb2.mono (by omega))).trans (hb3.mono (by omega))
  have hbw4 : Below w.heap.size w w4 := by rw [← hw4]; exact below_alloc (below_alloc (below_alloc hbw3 _) _) _
  have old4 : Old w2.heap.size w3 w4 := by rw [← hw4]; exact old_alloc (old_alloc (old_alloc (fun _ _ _ => rfl) _) _) _
  rw [hw4]
  obtain ⟨w5, hw5⟩ : ∃ w5, (w4.alloc (.cells #[.int .i64 0] 3)) = w5 := ⟨_, rfl⟩
  have z5 : w5.heap.size = w3.heap.size + 1 + 1 + 1 + 1 := by rw [← hw5]; simp [z4]
  have b10 : Boxed w5 (w3.heap.size + 1 + 1 + 1) 3 (.int .i64 0) := by rw [← hw5]; have := Boxed.new w4 3 (.int .i64 0); rw [z4] at this; exact this
  have hb5 : Below w.heap.size w w5 := by rw [← hw5]; exact below_alloc hbw4 _
  have c5 : Boxed w5 w3.heap.size 23 (.slice A0 (rns (prP t)).length c0) := by rw [← hw5]; exact b5.alloc _
  have c6 : Boxed w5 (w3.heap.size + 1) 23 (.slice A1 (offs (prP t)).length c1) := by rw [← hw5]; exact b6.alloc _
  have c9 : Boxed w5 (w3.heap.size + 1 + 1) 3 (.int .i64 (q + 1)) := by rw [← hw5]; exact b9.alloc _
  have c4 : Boxed w5 w.heap.size 4 (.bool false) := by rw [← hw5]; exact b44.alloc _
  have old5 : Old w2.heap.size w3 w5 := by rw [← hw5]; exact old_alloc old4 _
  rw [hw5]
  have bS := Boxed.new w5 9 (.string t)
  rw [z5] at bS
  have hpl := prP_len t
  have hr0 : Aside0 ((rns (prP t)).length = (prP t).length) := ⟨rns_len t⟩
  have hr1 : Aside0 ((offs (prP t)).length = (prP t).length) := ⟨offs_len _⟩
  have b10' : Boxed (w5.alloc (.cells #[.string t] 9)) (w3.heap.size + 1 + 1 + 1) 3 (.int .i64 (([] : List (Nat × Int)).length : Int)) := b10.alloc _
  clear hw4 hw5 b5 b6 b9 b4 b44 b10 old4
  refine wpIn_rangeFunc_ownG rfl h1 (gf := 45) (lb := #[.pointer (some ⟨w3.heap.size + 1 + 1 + 1 + 1, 0, none⟩)]) rfl trivial (enters_of Try.func45 (by kernel_rfl) rfl)
    (runes_stops (m - 1) (by omega) (w3.heap.size + 1 + 1 + 1 + 1) w.heap.size t (by omega) _ bS.cell (by simp [z5])) kpR_t (kpR_b (by simp; omega) (by simp [z5])) (Below.refl _ _) (fun _ => rfl)
    (fun pre W => ((pre.length : Int) < q + 1) ∧ RnB w w2 w3 A0 c0 A1 c1 t q (pre.length : Int) W)
    (fun c pre W => (c = .ret ∧ ¬ pre <+: prP t) ∨ ((c = .exit 0 ∧ (pre.length : Int) = q + 1) ∧ RnB w w2 w3 A0 c0 A1 c1 t q (pre.length : Int) W))
    (OwnFrom.and (fun _ _ _ _ h _ _ => h) (rnB_own _ _ _ _ _ _ _ _ _ _ (by simp; omega) (by simp; omega)))
    (fun c s W W' row h hg hr => h.imp id (fun h => ⟨h.1, rnB_own w w2 w3 A0 c0 A1 c1 t q _ (by simp; omega) (by simp; omega) s W W' row h.2 hg hr⟩))
    ⟨by simp; omega, c5.alloc _, c6.alloc _, c9.alloc _, b10', c4.alloc _, old_alloc old5 _, below_alloc hb5 _⟩
    (fun x => { tmps := #[.string t, .int .u8 q, undef, undef, .pointer (some ⟨w.heap.size, 0, none⟩), .pointer (some ⟨w3.heap.size, 0, none⟩), .pointer (some ⟨w3.heap.size + 1, 0, none⟩), .int .i64 (chkP t).1, .int .i64 (chkP t).2, .pointer (some ⟨w3.heap.size + 1 + 1, 0, none⟩), .pointer (some ⟨w3.heap.size + 1 + 1 + 1, 0, none⟩), .int .i64 (x.1 : Int), .int .i32 x.2, .string s, .string t, .bool true, .bool false, .tuple #[.slice A0 (rns (prP t)).length c0, .slice A1 (offs (prP t)).length c1, .int .i64 (chkP t).1, .int .i64 (chkP t).2], .string t, .tuple #[.slice A0 (rns (prP t)).length c0, .slice A1 (offs (prP t)).length c1, .int .i64 (chkP t).1, .int .i64 (chkP t).2], .slice A0 (rns (prP t)).length c0, .slice A1 (offs (prP t)).length c1, .int .i64 (chkP t).1, .int .i64 (chkP t).2, .int .u8 q, .int .i64 q, .int .i64 (q + 1), .string t, .func (.func 45) #[] #[.pointer (some ⟨w3.heap.size + 1 + 1 + 1 + 1, 0, none⟩)], .int .i64 (x.1 : Int), .int .i32 x.2, undef, undef, undef, undef, undef, undef, undef, undef, undef, undef, undef, undef, undef, undef, undef, undef, undef, undef, undef, undef, undef, undef, undef, undef, undef, undef, undef, undef, undef, undef, undef, undef, undef, undef, undef, undef, undef], defers := [] }) ?assign ?body ?done ?stop
  case assign =>
    intro l x W K hK
    gi_wp2
    exact hK
  case body =>
    rintro l pre x W ⟨hlq, k5, k6, k9, k10, k4, kold, kb⟩ hlt
    have l5 := k5.cell
    have l6 := k6.cell
    have l9 := k9.cell
    have l10 := k10.cell
    have l4 := k4.cell
    have lf4 := k4.frozen
    have lf10 := k10.frozen
    have lt4 := k4.lt
    have lt10 := k10.lt
    obtain ⟨a0, e0, hx0⟩ := Kd.at_int (Kd.R_reads' (R_old2 hR0 kold)).2.2 (pre.length : Int) (by omega) (by have := hr0.out; have := hr1.out; omega)
    rw [Int.toNat_natCast] at hx0
    obtain ⟨a1, e1, hx1⟩ := Kd.at_int (Kd.R_reads' (R_old2 hR1 kold)).2.2 (pre.length : Int) (by omega) (by have := hr0.out; have := hr1.out; omega)
    rw [Int.toNat_natCast] at hx1
    cases e0
    cases e1
    have g1 : ¬ (q + 1 ≤ (pre.length : Int)) := by omega
    have g2 : ¬ ((rns (prP t)).length ≤ pre.length) := by have := hr0.out; omega
    have g3 : pre.length < (rns (prP t)).length := by have := hr0.out; omega
    have g4 : pre.length < (offs (prP t)).length := by have := hr1.out; omega
    by_cases p1 : (x.1 : Int) = rd (offs (prP t)) (pre.length : Int)
    · by_cases p2 : wrap64 x.2 = rd (rns (prP t)) (pre.length : Int)
      · by_cases p3 : (pre.length : Int) + 1 = q + 1
        · have p1b : ((x.1 : Int) != rd (offs (prP t)) (pre.length : Int)) = false := by simp [p1]
          have p2b : (wrap64 x.2 != rd (rns (prP t)) (pre.length : Int)) = false := by simp [p2]
          have P1 := Aside0.mk p1
          have P2 := Aside0.mk p2
          have p3b : ((pre.length : Int) + 1 == q + 1) = true := by simpa using p3
          have P3 := Aside0.mk p3
          clear p1 p2 p3
          gi_wp2
          exact ⟨KeepsFrom.of_grownBy (grownBy_setCell' _ _ _) (fun j e => by cases e; first | omega | (simp; done) | (simp; omega)), .inr ⟨⟨rfl, by have := P3.out; first | (simp; done) | (simp; omega)⟩, k5.other (by omega) _, k6.other (by omega) _, k9.other (by omega) _, by simpa using k10.set _, k4.other (by omega) _, old_set kold _ (by omega) _, kb.setCell (p := ⟨_, 0, none⟩) (by simp; omega) _⟩⟩
        · have p1b : ((x.1 : Int) != rd (offs (prP t)) (pre.length : Int)) = false := by simp [p1]
          have p2b : (wrap64 x.2 != rd (rns (prP t)) (pre.length : Int)) = false := by simp [p2]
          have p3b : ((pre.length : Int) + 1 == q + 1) = false := by simpa using p3
          have P1 := Aside0.mk p1
          have P2 := Aside0.mk p2
          clear p1 p2
          gi_wp2
          exact ⟨KeepsFrom.of_grownBy (grownBy_setCell' _ _ _) (fun j e => by cases e; first | omega | (simp; done) | (simp; omega)), ⟨(Below.refl _ _).setCell (p := ⟨_, 0, none⟩) (by simp; omega) _, fun v hv => by rw [World.cell?_of_block (w := W) (Below.heap_setCell _ _ _ _ (by simp))]; exact hv⟩, by simp; omega, k5.other (by omega) _, k6.other (by omega) _, k9.other (by omega) _, by simpa using k10.set _, k4.other (by omega) _, old_set kold _ (by omega) _, kb.setCell (p := ⟨_, 0, none⟩) (by simp; omega) _⟩
      · have p1b : ((x.1 : Int) != rd (offs (prP t)) (pre.length : Int)) = false := by simp [p1]
        have p2b : (wrap64 x.2 != rd (rns (prP t)) (pre.length : Int)) = true := by simp [p2]
        have P1 := Aside0.mk p1
        have P2 := Aside0.mk p2
        clear p1 p2
        gi_wp2
        exact ⟨KeepsFrom.of_grownBy (grownBy_setCell' _ _ _) (fun j e => by cases e; first | omega | (simp; done) | (simp; omega)), .inl ⟨rfl, fun hp => P2.out (pr_second t pre x hp)⟩⟩
    · have p1b : ((x.1 : Int) != rd (offs (prP t)) (pre.length : Int)) = true := by simp [p1]
      have P1 := Aside0.mk p1
      clear p1
      gi_wp2
      exact ⟨KeepsFrom.of_grownBy (grownBy_setCell' _ _ _) (fun j e => by cases e; first | omega | (simp; done) | (simp; omega)), .inl ⟨rfl, fun hp => P1.out (pr_first t pre x hp)⟩⟩
  case done =>
    rintro D ys W hD rfl ⟨hlq, k5, k6, k9, k10, k4, kold, kb⟩ hK
    have l5 := k5.cell
    have l9 := k9.cell
    have l10 := k10.cell
    have l4 := k4.cell
    have lf4 := k4.frozen
    have lt4 := k4.lt
    gi_wp2
    have e : (((prP t).length : Int) == min (q + 1) ((rns (prP t)).length : Int)) = true := by have := hr0.out; rw [beq_iff_eq]; omega
    rw [e]
    have hF' : Boxed (W.setCell ⟨w.heap.size, 0, none⟩ (.bool true)) w.heap.size 4 (.bool true) := k4.set _
    have hK' : (W.setCell ⟨w.heap.size, 0, none⟩ (.bool true)).heap[D]? = some (.deferred (some [])) := (Below.heap_setCell W _ _ D (by simp at hD; simp; omega)).trans hK
    have hF3 : Boxed ((W.setCell ⟨w.heap.size, 0, none⟩ (.bool true)).putObj D (.deferred none)) w.heap.size 4 (.bool true) := (boxed_own (β := Unit) w.heap.size 4 (fun _ => .bool true)).putObj (s := ()) _ hF' hK' rfl
    have hb3 : Below w.heap.size w (W.setCell ⟨w.heap.size, 0, none⟩ (.bool true)) := kb.setCell (p := ⟨w.heap.size, 0, none⟩) (Nat.le_refl _) _
    refine ⟨by simp, .inl ⟨_, _, rfl, run_takeDeferred hK', ?_⟩⟩
    exact ⟨_, results_cell1 rfl _ _ _ _ rfl (load_bool hF3), rfl, hb3.trans (belowK_b (w := w) (Nat.le_refl _) _ D _ _ (by simp at hD; omega) hK' rfl rfl)⟩
  case stop =>
    rintro D c pre W hD hp hc hK
    rcases hc with ⟨rfl, hn⟩ | ⟨⟨rfl, hn⟩, k5, k6, k9, k10, k4, kold, kb⟩
    · exact absurd hp hn
    have l5 := k5.cell
    have l9 := k9.cell
    have l10 := k10.cell
    have l4 := k4.cell
    have lf4 := k4.frozen
    have lt4 := k4.lt
    gi_wp2
    have e : (q + 1 == min (q + 1) ((rns (prP t)).length : Int)) = true := by have := hr0.out; have := hp.length_le; rw [beq_iff_eq]; omega
    rw [e]
    have hF' : Boxed (W.setCell ⟨w.heap.size, 0, none⟩ (.bool true)) w.heap.size 4 (.bool true) := k4.set _
    have hK' : (W.setCell ⟨w.heap.size, 0, none⟩ (.bool true)).heap[D]? = some (.deferred (some [])) := (Below.heap_setCell W _ _ D (by simp at hD; simp; omega)).trans hK
    have hF3 : Boxed ((W.setCell ⟨w.heap.size, 0, none⟩ (.bool true)).putObj D (.deferred none)) w.heap.size 4 (.bool true) := (boxed_own (β := Unit) w.heap.size 4 (fun _ => .bool true)).putObj (s := ()) _ hF' hK' rfl
    have hb3 : Below w.heap.size w (W.setCell ⟨w.heap.size, 0, none⟩ (.bool true)) := kb.setCell (p := ⟨w.heap.size, 0, none⟩) (Nat.le_refl _) _
    refine ⟨by simp, .inl ⟨_, _, rfl, run_takeDeferred hK', ?_⟩⟩
    exact ⟨_, results_cell1 rfl _ _ _ _ rfl (load_bool hF3), rfl, hb3.trans (belowK_b (w := w) (Nat.le_refl _) _ D _ _ (by simp at hD; omega) hK' rfl rfl)⟩
theorem utf8Runes_walk (s : ByteArray) (q : Int) (w : World) (hq : (Lit.int .u8 q).wf = true) :
    Calls Try.prog 7 #[.string s, .int .u8 q] w fun e w' => e = .returned (.bool true) ∧ Below w.heap.size w w' := by
  have e1 : IntKind.u8.min = 0 := by decide +kernel
  have e2 : IntKind.u8.max = 255 := by decide +kernel
  simp [Lit.wf] at hq
  exact callsIn_wide (n := 3).1 (runes_law 3 (by omega) s _ rfl (short_size s 300) q (by omega) (by omega) w)
end Go.Proofs.Ytpjiidcnbceffaa.UA
