/- The contract of utf8.Printable: valid, and no control character. Condition: at most 1000000 bytes. -/
import Derived.Test.YtpjiidcnbceffaaS
import Derived.Test.YtpjiidcnbceffaaQx4
namespace Go.Proofs.Ytpjiidcnbceffaa.UA
open Go Go.RowKit Go.Shelf Go.Proofs Go.Proofs.YtpjiidcnbceffaaW.PrintWords Go.Proofs.YtpjiidcnbceffaaW.PrintLast Go.Proofs.YtpjiidcnbceffaaW.PrintMore
set_option linter.unusedVariables false
set_option linter.unusedSimpArgs false
attribute [local go_sem] Oper.semAt_some

/-- Is a code point a control character? -/
def ctl (r : Int) : Bool := decide (r ≤ 31) || ((decide (127 ≤ r) && decide (r ≤ 159)) || (decide (r = 8232) || decide (r = 8233)))
theorem ctl_f (r : Int) (k : Nat) (hk : 2 ≤ k) : Q.utf8_control.f k r = some (ctl r) := by
  obtain ⟨k, rfl⟩ : ∃ m, k = m + 2 := ⟨k - 2, by omega⟩
  unfold Q.utf8_control.f ctl
  by_cases h1 : r ≤ 31
  · rw [if_pos h1]; simp [h1]
  rw [if_neg h1]
  by_cases h2 : 127 ≤ r
  · rw [if_pos (by omega), Q.utf8_control.j0]
    by_cases h3 : r ≤ 159
    · rw [if_pos (by simp [h3])]; simp [h1, h2, h3]
    · rw [if_neg (by simp [h3])]
      by_cases h4 : r = 8232
      · rw [if_pos h4]; simp [h4]
      · rw [if_neg h4]
        by_cases h5 : r = 8233
        · rw [if_pos h5]; simp [h5]
        · rw [if_neg h5]; simp [h1, h3, h4, h5]
  · rw [if_neg (by omega), Q.utf8_control.j0, if_neg (by simp), if_neg (by omega), if_neg (by omega)]
    simp [h1, h2]; omega
theorem control_is (r : Int) (b : Bool) (h : ctl r = b) (w : World) : Calls Try.prog 47 #[.int .i32 r] w fun e w' => e = .returned (.bool b) ∧ Below w.heap.size w w' := by
  have := Q.utf8_control.calls 2 r b w (by rw [ctl_f r 2 (by omega), h])
  exact this.mono fun e w' h => by
    first | exact h | exact ⟨h.1, by obtain ⟨_, n, rfl⟩ := h; exact pw_below_drewN (Below.refl _ _) _⟩
theorem valid_is (s : ByteArray) (hs : s.size ≤ 1000000) (b : Bool) (h : ((chkP s).2 == 0) = b) (w : World) : Calls Try.prog 18 #[.string s] w fun e w' => e = .returned (.bool b) ∧ Below w.heap.size w w' :=
  Q.utf8_Valid.calls (s.size + 1) s b w (by rw [valid_eq s hs _ (Nat.le_refl _), h])

def prtB (s : ByteArray) : Bool := ((chkP s).2 == 0) && (prP s).all (fun x => !ctl x.2)

theorem results_cell1 {fn : Func} {p : Tmp} {ty : TypeId} (h : fn.results = #[.cell p ty]) (tmps : Array Value) (w : World) (g : Nat) (v : Value)
    (hp : tmps.getD p undef = .pointer (some ⟨g, 0, none⟩)) (hr : (loadVar ty ⟨g, 0, none⟩).run Try.prog w = .ok v w) : (results fn tmps).run Try.prog w = .ok v w := by
  have hp' : tmps[p]?.getD undef = .pointer (some ⟨g, 0, none⟩) := by simpa using hp
  simp [results, h, hp', asAddr, hr]
theorem load_bool {w : World} {g : Nat} {b : Bool} (h : Boxed w g 4 (.bool b)) : (loadVar 4 ⟨g, 0, none⟩).run Try.prog w = .ok (.bool b) w := by
  have hc := h.cell
  simp [go_sem, hc]

set_option maxHeartbeats 4000000 in
set_option maxRecDepth 100000 in
theorem printable_in (m : Nat) (hm : 3 ≤ m) (s : ByteArray) (hs : s.size ≤ 1000000) (hv : ((chkP s).2 == 0) = true) (w : World) :
    CallsIn Fence.wide m Try.prog 29 #[.string s] w fun e_ W' => e_ = .returned (.bool ((prP s).all (fun x => !ctl x.2))) ∧ Below w.heap.size w W' := by
  have HV := Aside0.mk hv
  clear hv
  have h1 : 1 ≤ m := by omega
  have h2 : 1 ≤ m - 1 - 1 := by omega
  refine callsIn_of_wp_marks Try.func29 rfl trivial ?_ rfl
  simp only [Try.ntmps29, List.size_toArray, List.length_cons, List.length_nil, Nat.reduceAdd, Nat.reduceSub, Array.replicate_succ, Array.replicate_zero, List.push_toArray, List.append_toArray, List.nil_append, List.cons_append]
  gi_wp2_with (first | (refine ⟨trivial, ?_⟩; gi_at_call 18; refine (callsIn_wide.2 (valid_is s hs true HV.out _)).mono ?_; rintro e_ w1 ⟨rfl, hb1⟩) | (refine ⟨trivial, ?_⟩; gi_at_call 26; refine (runes_in (m - 1) s _).mono ?_; rintro e_ w2 ⟨rfl, rfl⟩))
  have bF := Boxed.new w 4 (.bool false)
  have bF1 : Boxed w1 w.heap.size 4 (.bool false) := bF.kept (grown_of_below hb1 none) (by simp)
  have bF2 : Boxed (w1.alloc (.cells #[.string s] 9)) w.heap.size 4 (.bool false) := bF1.alloc _
  have bS := Boxed.new w1 9 (.string s)
  have hw1 := hb1.size
  rw [World.size_alloc] at hw1
  have hB0 : Below w.heap.size w (w1.alloc (.cells #[.string s] 9)) := below_alloc ((below_alloc (Below.refl _ _) _).trans (hb1.mono (by simp))) _
  refine wpIn_rangeFunc_ownG rfl h1 (gf := 45) (lb := #[.pointer (some ⟨w1.heap.size, 0, none⟩)]) rfl trivial (enters_of Try.func45 (by kernel_rfl) rfl)
    (runes_stops (m - 1) (by omega) w1.heap.size w.heap.size s hs _ bS.cell (by simp)) kpR_t (kpR_b (by simp; omega) (by simp)) (Below.refl _ _) (fun _ => rfl)
    (fun pre W => pre.all (fun x => !ctl x.2) = true ∧ Boxed W w.heap.size 4 (.bool false) ∧ Below w.heap.size w W)
    (fun c pre W => (c = .ret ∧ pre.all (fun x => !ctl x.2) = false) ∧ Boxed W w.heap.size 4 (.bool false) ∧ Below w.heap.size w W)
    (OwnFrom.and (fun _ _ _ _ h _ _ => h) (OwnFrom.and (Own.from (boxed_own _ _ _) _) (ownFrom_below (Nat.le_refl _) (by simp; omega))))
    (fun c => OwnFrom.and (fun _ _ _ _ h _ _ => h) (OwnFrom.and (Own.from (boxed_own _ _ _) _) (ownFrom_below (Nat.le_refl _) (by simp; omega))))
    ⟨rfl, bF2, hB0⟩
    (fun x => { tmps := #[.string s, undef, .pointer (some ⟨w.heap.size, 0, none⟩), undef, .int .i32 x.2, .string s, .bool true, .bool false, .string s, .func (.func 45) #[] #[.pointer (some ⟨w1.heap.size, 0, none⟩)], .int .i64 (x.1 : Int), .int .i32 x.2, undef, undef], defers := [] }) ?assign ?body ?done ?stop
  case assign =>
    intro l x W K hK
    gi_wp2
    exact hK
  case body =>
    rintro l pre x W ⟨ha, hF, hB⟩ hlt
    have hlt0 := hF.lt
    by_cases hcx : ctl x.2 = true
    · have HC := Aside0.mk hcx
      clear hcx
      gi_wp2_with (refine ⟨trivial, ?_⟩; gi_at_call 47; refine (CallsIn.inRound l (callsIn_wide.2 (control_is x.2 true HC.out _))).mono ?_; rintro e_ w2 ⟨rfl, hb2⟩; have hF2 : Boxed w2 w.heap.size 4 (.bool false) := hF.kept (grown_of_below hb2 none) (by simp); have hc2 := hF2.cell; have hf2 := hF2.frozen)
      have hb3 : Below w.heap.size w (w2.setCell ⟨w.heap.size, 0, none⟩ (.bool false)) := (hB.trans (hb2.mono hB.size)).setCell (p := ⟨w.heap.size, 0, none⟩) (Nat.le_refl _) _
      exact ⟨(KeepsFrom.of_grownBy (grown_of_below hb2 none) (by simp)).trans (KeepsFrom.of_grownBy (grownBy_setCell' _ _ _) (fun j e => by cases e; simp; omega)), ⟨rfl, by simp [HC.out]⟩, hF2.set _, hb3⟩
    · have hcx' : ctl x.2 = false := by simpa using hcx
      have HC := Aside0.mk hcx'
      clear hcx hcx'
      gi_wp2_with (refine ⟨trivial, ?_⟩; gi_at_call 47; refine (CallsIn.inRound l (callsIn_wide.2 (control_is x.2 false HC.out _))).mono ?_; rintro e_ w2 ⟨rfl, hb2⟩; have hF2 : Boxed w2 w.heap.size 4 (.bool false) := hF.kept (grown_of_below hb2 none) (by simp); have hc2 := hF2.cell; have hf2 := hF2.frozen)
      exact ⟨KeepsFrom.of_grownBy (grown_of_below hb2 none) (by simp), ⟨hb2.mono hB.size, fun v hv => (hb2.cell (p := ⟨w1.heap.size, 0, none⟩) (World.block_lt_of_cell? _ _ hv)).trans hv⟩, by simp [ha, HC.out], hF2, hB.trans (hb2.mono hB.size)⟩
  case done =>
    rintro D ys W hD rfl ⟨ha, hF, hB⟩ hK
    have hlt0 := hF.lt
    have hc := hF.cell
    have hf := hF.frozen
    gi_wp2
    have hF' : Boxed (W.setCell ⟨w.heap.size, 0, none⟩ (.bool true)) w.heap.size 4 (.bool true) := hF.set _
    have hK' : (W.setCell ⟨w.heap.size, 0, none⟩ (.bool true)).heap[D]? = some (.deferred (some [])) := (Below.heap_setCell W _ _ D (by simp at hD; simp; omega)).trans hK
    have hF3 : Boxed ((W.setCell ⟨w.heap.size, 0, none⟩ (.bool true)).putObj D (.deferred none)) w.heap.size 4 (.bool true) := (boxed_own (β := Unit) w.heap.size 4 (fun _ => .bool true)).putObj (s := ()) _ hF' hK' rfl
    have hb3 : Below w.heap.size w (W.setCell ⟨w.heap.size, 0, none⟩ (.bool true)) := hB.setCell (p := ⟨w.heap.size, 0, none⟩) (Nat.le_refl _) _
    refine ⟨by simp, .inl ⟨_, _, rfl, run_takeDeferred hK', ?_⟩⟩
    exact ⟨_, results_cell1 rfl _ _ _ _ rfl (load_bool hF3), by rw [ha], hb3.trans (belowK_b (w := w) (Nat.le_refl _) _ D _ _ (by simp at hD; omega) hK' rfl rfl)⟩
  case stop =>
    rintro D c pre W hD hp ⟨⟨rfl, ha⟩, hF, hB⟩ hK
    gi_wp2
    have hF3 : Boxed (W.putObj D (.deferred none)) w.heap.size 4 (.bool false) := (boxed_own (β := Unit) w.heap.size 4 (fun _ => .bool false)).putObj (s := ()) _ hF hK rfl
    refine ⟨by simp, .inl ⟨_, _, rfl, run_takeDeferred hK, ?_⟩⟩
    refine ⟨_, results_cell1 rfl _ _ _ _ rfl (load_bool hF3), ?_, hB.trans (belowK_b (w := w) (Nat.le_refl _) _ D _ _ (by simp at hD; omega) hK rfl rfl)⟩
    obtain ⟨t, ht⟩ := hp
    rw [← ht, List.all_append, ha]
    rfl
set_option maxHeartbeats 4000000 in
set_option maxRecDepth 100000 in
theorem printable_no (s : ByteArray) (hs : s.size ≤ 1000000) (hv : ((chkP s).2 == 0) = false) (w : World) :
    Calls Try.prog 29 #[.string s] w fun e_ W' => e_ = .returned (.bool false) ∧ Below w.heap.size w W' := by
  have HV := Aside0.mk hv
  clear hv
  go_enter Try.func29, Try.ntmps29
  go_wp2_with (first | (go_at_call 18; refine (valid_is s hs false HV.out _).mono ?_; rintro e_ w1 ⟨rfl, hb1⟩; have bF := Boxed.new w 4 (.bool false); have bF1 : Boxed w1 w.heap.size 4 (.bool false) := bF.kept (grown_of_below hb1 none) (by simp); have hc1 := bF1.cell; have hf1 := bF1.frozen; have hlt1 := bF1.lt))
  refine bodyPost_ret (results_cell1 rfl _ _ _ _ rfl (load_bool (bF1.set _))) rfl ⟨rfl, ?_⟩
  exact ((below_alloc (Below.refl _ _) _).trans (hb1.mono (by simp))).setCell (p := ⟨w.heap.size, 0, none⟩) (Nat.le_refl _) _
def utf8_Printable.f (a0 : ByteArray) : Option Bool := if a0.size ≤ 1000000 then some (prtB a0) else none
theorem utf8_Printable.calls (a0 : ByteArray) (r : Bool) (w : World) (h : utf8_Printable.f a0 = some r) :
    Calls Try.prog 29 #[.string a0] w fun e w' => e = .returned (.bool r) ∧ Below w.heap.size w w' := by
  unfold utf8_Printable.f at h
  split at h
  · rename_i hs
    obtain rfl := Option.some.inj h
    cases hv : ((chkP a0).2 == 0) with
    | true =>
      refine (callsIn_wide (n := 3).1 (printable_in 3 (by omega) a0 hs hv w)).mono ?_
      rintro e w' ⟨rfl, hb⟩
      exact ⟨by simp [prtB, hv], hb⟩
    | false =>
      refine (printable_no a0 hs hv w).mono ?_
      rintro e w' ⟨rfl, hb⟩
      exact ⟨by simp [prtB, hv], hb⟩
  · cases h
#print axioms utf8_Printable.calls
end Go.Proofs.Ytpjiidcnbceffaa.UA
