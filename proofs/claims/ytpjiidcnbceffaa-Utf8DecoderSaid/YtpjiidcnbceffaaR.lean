/- The contract of utf8.Runes: an iterator that yields the offsets and the code points up to the first error. Condition: at most 1000000 bytes. -/
import Derived.Test.YtpjiidcnbceffaaF
import Derived.RangeFuncNested
import Derived.RangeFuncBound
import Derived.RangeFuncCalls
import Derived.RangeFuncLeaves
import Derived.RangeFuncBox
import Derived.Shelf.Abstract
import Derived.Shelf.RegionOpen
import Derived.OwnWalkIn
import Derived.TacticsInMore
import Derived.LoopNIn
import Derived.LoopIn
import Derived.Maps.AppendAt
namespace Go.Proofs.Ytpjiidcnbceffaa.UA
open Go Go.RowKit Go.Shelf Go.Proofs Go.Proofs.YtpjiidcnbceffaaW.PrintWords Go.Proofs.YtpjiidcnbceffaaW.PrintLast Go.Proofs.YtpjiidcnbceffaaW.PrintMore
set_option linter.unusedVariables false
set_option linter.unusedSimpArgs false
attribute [local go_sem] Oper.semAt_some

/-- The offsets and code points, from an offset on. -/
def prGo (s : ByteArray) : Nat → Nat → List (Nat × Int)
  | 0, _ => []
  | f + 1, at_ =>
    if at_ < s.size then
      (if (fstP (s.extract at_ s.size)).2.2 = 0 then (at_, (fstP (s.extract at_ s.size)).1) :: prGo s f (at_ + (fstP (s.extract at_ s.size)).2.1.toNat) else [])
    else []
def prP (s : ByteArray) : List (Nat × Int) := prGo s (s.size + 1) 0

/-- What a round keeps: old memory, and the string's box. -/
def KpR (n₀ Bs : Nat) (A B : World) : Prop := Below n₀ A B ∧ ∀ v, A.cell? ⟨Bs, 0, none⟩ = some v → B.cell? ⟨Bs, 0, none⟩ = some v

set_option maxRecDepth 100000 in
set_option maxHeartbeats 4000000 in
theorem runes1_in (n : Nat) (hn : 1 ≤ n) (l Bs n₀ : Nat) (s : ByteArray) (hs : s.size ≤ 1000000) (J Jx : List (Nat × Int) → World → Prop)
    (hJd : ∀ pre A B, J pre A → Below A.heap.size A B → J pre B)
    (hY : ∀ pre x W, J pre W → pre.length < (prP s).length → YieldAt Fence.wide (n - 1) Try.prog l #[.int .i64 (x.1 : Int), .int .i32 x.2] W fun e W' =>
      (e = .returned (.bool true) ∧ J (pre ++ [x]) W' ∧ KpR n₀ Bs W W') ∨ (e = .returned (.bool false) ∧ Jx (pre ++ [x]) W'))
    (W : World) (hBs : W.cell? ⟨Bs, 0, none⟩ = some (.string s)) (hBl : Bs < W.heap.size) (h0 : J [] W) :
    CallsIn Fence.wide n Try.prog 45 #[.func (.yield l) #[] #[], .pointer (some ⟨Bs, 0, none⟩)] W fun e W' => (∃ v, e = .returned v) ∧
      ((∃ ys, ys = prP s ∧ J ys W') ∨ (∃ pre, pre <+: prP s ∧ Jx pre W')) := by
  refine callsIn_of_wp Try.func45 rfl trivial ?_ rfl
  simp only [Try.ntmps45, List.size_toArray, List.length_cons, List.length_nil, Nat.reduceAdd, Nat.reduceSub, Array.replicate_succ, Array.replicate_zero, List.push_toArray, List.append_toArray, List.nil_append, List.cons_append]
  gi_wp2
  gi_loopw [3] (fun p wr => ∃ (pre : List (Nat × Int)) (f at_ : Nat), p = .int .i64 at_ ∧ Aside0 (at_ ≤ s.size ∧ s.size - at_ < f ∧ prP s = pre ++ prGo s f at_) ∧ Aside0 (J pre wr) ∧ Aside0 (wr.cell? ⟨Bs, 0, none⟩ = some (.string s) ∧ Bs < wr.heap.size))
    (fun p _ => s.size - (intOf p).toNat)
  case atStart =>
    exact ⟨[], s.size + 1, 0, rfl, ⟨by omega, by omega, rfl⟩, ⟨h0⟩, ⟨hBs, hBl⟩⟩
  case round =>
    obtain ⟨pre, f, at_, rfl, HA, HJ, HC⟩ := hrel
    clear hBs hBl h0
    have hle := HA.out.1
    have hc := HC.out.1
    by_cases hlt : at_ < s.size
    · obtain ⟨r, m, e, hf⟩ : ∃ r m e, fstP (s.extract at_ s.size) = (r, m, e) := ⟨_, _, _, rfl⟩
      have hpos : 0 < (s.extract at_ s.size).size := by simp; omega
      by_cases he : e = 0
      · subst he
        have hb := fstP_size (s.extract at_ s.size) (by rw [hf])
        rw [hf] at hb
        simp at hb
        obtain ⟨q, hq⟩ := Int.eq_ofNat_of_zero_le (show 0 ≤ m by omega)
        subst hq
        have hq1 : 1 ≤ q := by omega
        have hq2 : at_ + q ≤ s.size := by omega
        have hnext : Aside0 (prP s = (pre ++ [(at_, r)]) ++ prGo s (f - 1) (at_ + q) ∧ s.size - (at_ + q) < f - 1) := ⟨by
          have h := HA.out.2.2
          have h2 := HA.out.2.1
          obtain ⟨k, rfl⟩ : ∃ k, f = k + 1 := ⟨f - 1, by omega⟩
          rw [prGo, if_pos hlt, hf] at h
          simp only [if_true, Int.toNat_natCast] at h
          exact ⟨by rw [h, List.append_assoc]; rfl, by omega⟩⟩
        have hlen : pre.length < (prP s).length := by rw [hnext.out.1]; simp
        have HF := Aside0.mk hf
        have HL := Aside0.mk hlen
        clear hf hb hlen
        gi_wp2_with (refine ⟨trivial, ?_⟩; gi_at_call 37; refine (callsIn_wide.2 (first_is _ hpos _ _ _ HF.out _)).mono ?_; rintro e w2 ⟨rfl, hb2⟩; have hc2 := (hb2.cell (p := ⟨Bs, 0, none⟩) HC.out.2).trans HC.out.1; obtain ⟨fn, tmps, assign, body, hy, hR⟩ := hY pre (at_, r) w2 (hJd _ _ _ HJ.out hb2) HL.out; dsimp only at hy)
        refine hR.mono ?_
        rintro e W3 (⟨rfl, hJ3, hk3⟩ | ⟨rfl, hJx3⟩)
        · gi_wp2
          go_roundw
          case rel => exact ⟨pre ++ [(at_, r)], f - 1, at_ + q, by go_num, ⟨hq2, hnext.out.2, hnext.out.1⟩, ⟨hJ3⟩, ⟨hk3.2 _ hc2, Nat.lt_of_lt_of_le (Nat.lt_of_lt_of_le HC.out.2 hb2.size) hk3.1.size⟩⟩
          case measure => simp [intOf]; omega
        · gi_wp2
          refine bodyPost_ret (results_none rfl _ _ _) rfl ?_
          exact ⟨⟨_, rfl⟩, .inr ⟨pre ++ [(at_, r)], ⟨_, hnext.out.1.symm⟩, hJx3⟩⟩
      · have hout : Aside0 (pre = prP s) := ⟨by
          have h := HA.out.2.2
          obtain ⟨k, rfl⟩ : ∃ k, f = k + 1 := ⟨f - 1, by have := HA.out.2.1; omega⟩
          rw [prGo, if_pos hlt, hf] at h
          simp only [he, if_false, List.append_nil] at h
          exact h.symm⟩
        have hez : (e != 0) = true := bne_iff_ne.2 he
        have HF := Aside0.mk hf
        clear hf he
        gi_wp2_with (refine ⟨trivial, ?_⟩; gi_at_call 37; refine (callsIn_wide.2 (first_is _ hpos _ _ _ HF.out _)).mono ?_; rintro e w2 ⟨rfl, hb2⟩)
        refine ⟨fun _ h => (by cases h), ?_⟩
        gi_wp2
        refine bodyPost_ret (results_none rfl _ _ _) rfl ?_
        exact ⟨⟨_, rfl⟩, .inl ⟨pre, hout.out, hJd _ _ _ HJ.out hb2⟩⟩
    · have hout : Aside0 (pre = prP s) := ⟨by
        have h := HA.out.2.2
        obtain ⟨k, rfl⟩ : ∃ k, f = k + 1 := ⟨f - 1, by have := HA.out.2.1; omega⟩
        rw [prGo, if_neg hlt, List.append_nil] at h
        exact h.symm⟩
      gi_wp2
      go_end0
      exact ⟨⟨_, rfl⟩, .inl ⟨pre, hout.out, HJ.out⟩⟩

theorem kpR_t {n₀ Bs : Nat} {A B C : World} (h : KpR n₀ Bs A B) (k : KpR n₀ Bs B C) : KpR n₀ Bs A C := ⟨h.1.trans k.1, fun v hv => k.2 v (h.2 v hv)⟩
theorem kpR_b {n₀ Bs : Nat} {w : World} (hn : n₀ ≤ w.heap.size) (hB : Bs < w.heap.size) (W : World) (l : Nat) (o o' : Obj) (hl : w.heap.size ≤ l) (h : W.heap[l]? = some o) (hc : o.isCells = false) (hw : o.isWalk = false) : KpR n₀ Bs W (W.putObj l o') :=
  ⟨belowK_b hn W l o o' hl h hc hw, fun v hv => by
    rw [World.cell?_of_block (w := W) (a := ⟨Bs, 0, none⟩) (World.putObj_heap_other (show Bs ≠ l by omega))]; exact hv⟩

/-- Runes hands back a value that yields all pairs, or a beginning of them where a round has said 'no more'. -/
theorem runes_stops (n : Nat) (hn : 1 ≤ n) (Bs n₀ : Nat) (s : ByteArray) (hs : s.size ≤ 1000000) (w : World) (hBs : w.cell? ⟨Bs, 0, none⟩ = some (.string s)) (hBl : Bs < w.heap.size) :
    SeqStopsK Fence.wide n Try.prog 45 #[.pointer (some ⟨Bs, 0, none⟩)] (fun x : Nat × Int => #[Value.int .i64 (x.1 : Int), Value.int .i32 x.2]) (KpR n₀ Bs) (fun ys => ys = prP s) (fun pre => pre <+: prP s) (prP s).length w := fun l J Jx W hW hJ _ hY h0 =>
  runes1_in n hn l Bs n₀ s hs J Jx (fun pre A B h hb => hJ pre A B none h (grown_of_below hb none) (fun r e => by cases e)) hY W ((hW.cell (p := ⟨Bs, 0, none⟩) hBl).trans hBs) (Nat.lt_of_lt_of_le hBl hW.size) h0

set_option maxHeartbeats 1000000 in
set_option maxRecDepth 100000 in
/-- Runes: the string is boxed; the function value captures the box. -/
theorem runes_in (n : Nat) (s : ByteArray) (w : World) :
    CallsIn Fence.wide n Try.prog 26 #[.string s] w fun e w' => e = .returned (.func (.func 45) #[] #[.pointer (some ⟨w.heap.size, 0, none⟩)]) ∧ w' = w.alloc (.cells #[.string s] 9) := by
  refine callsIn_of_wp Try.func26 rfl trivial ?_ rfl
  simp only [Try.ntmps26, List.size_toArray, List.length_cons, List.length_nil, Nat.reduceAdd, Nat.reduceSub, Array.replicate_succ, Array.replicate_zero, List.push_toArray, List.append_toArray, List.nil_append, List.cons_append]
  gi_wp2
  go_ret
  exact ⟨rfl, rfl⟩
#print axioms runes_stops
end Go.Proofs.Ytpjiidcnbceffaa.UA
