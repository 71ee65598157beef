/- A decoder's methods and the reference's Write, told plainly; a decoder that is nil. Condition: at most 1000000 bytes. -/
import Derived.Test.YtpjiidcnbceffaaN
import Derived.Test.YtpjiidcnbceffaaT6
namespace Go.Proofs.Ytpjiidcnbceffaa.UA
open Go Go.RowKit Go.Shelf Go.Proofs Go.Proofs.YtpjiidcnbceffaaW.PrintWords Go.Proofs.YtpjiidcnbceffaaW.PrintLast Go.Proofs.YtpjiidcnbceffaaW.PrintMore
set_option linter.unusedVariables false
set_option linter.unusedSimpArgs false
attribute [local go_sem] Oper.semAt_some

theorem refwrite_is (p b : ByteArray) (hs : p.size + b.size ≤ 1000000) (out rest : ByteArray) (e : Int) (H : writeP p b = (out, e, rest)) (w : World) :
    Calls Try.prog 35 #[.string p, .string b] w fun e_ w' => e_ = .returned (.tuple #[.string out, .string rest, .int .i64 e]) ∧ Below w.heap.size w w' := by
  have hz : (p ++ b).size = p.size + b.size := ByteArray.size_append
  have hle := chkGo_le (p ++ b) ((p ++ b).size + 1) 0 (by omega)
  rw [show chkGo (p ++ b) ((p ++ b).size + 1) 0 = chkP (p ++ b) from rfl] at hle
  refine PP.bulletinref03_Write.calls (p.size + b.size + 21) p b out rest e w ?_
  unfold PP.bulletinref03_Write.f
  rw [if_pos (by omega), all_eq (p ++ b) (by omega) _ (by omega), allP_pr]
  simp only [Option.bind_some]
  unfold writeP at H
  by_cases h0 : (chkP (p ++ b)).2 = 0
  · rw [if_pos h0] at H
    cases H
    rw [if_pos h0, PP.bulletinref03_Write.j0, if_neg (by simp), if_pos h0]; rfl
  · rw [if_neg h0] at H ⊢
    by_cases h1 : (chkP (p ++ b)).2 = 23
    · rw [if_pos h1] at H
      cases H
      rw [PP.bulletinref03_Write.j0, if_neg (by simp [h1]), if_neg h0, if_pos hle.1, if_pos hle.2]
    · rw [if_neg h1] at H
      cases H
      rw [PP.bulletinref03_Write.j0, if_pos (by simp [h1])]

/-- What a decoder's Write does: the text, the error, what is pending. -/
def decW (cl : Bool) (p b : ByteArray) : ByteArray × Int × ByteArray := if cl = true then (⟨#[]⟩, 10, p) else writeP p b
theorem write_any (g : Nat) (cl : Bool) (p b : ByteArray) (A : Option Addr) (c : Nat) (l : List Int) (hl : strOfNums l = b) (w0 w : World) (hI : PP.IsS83 w0 w g p cl) (hB : Below w0.heap.size w0 w) (hr : Kd.C (Kd.int .u8) w A l.length l) (hc : l.length ≤ c)
    (hf : ∀ ad, A = some ad → 0 < l.length → ad.block ≠ g) (hs : p.size + b.size ≤ 1000000) (out rest : ByteArray) (e : Int) (H : decW cl p b = (out, e, rest)) :
    Calls Try.prog 31 #[.pointer (some ⟨g, 0, none⟩), .slice A l.length c] w fun e_ w' => e_ = .returned (.tuple #[.string out, .int .i64 e]) ∧ PP.IsS83 w0 w' g rest cl ∧ Below w0.heap.size w0 w' := by
  refine (PP.utf8_Decoder_Write.calls (p.size + b.size + 1) g p cl A c l out e rest cl w0 w hI hB hr hc hf ?_).mono fun e_ w' h => ⟨h.1, h.2.1, h.2.2.1⟩
  unfold decW at H
  cases cl with
  | true =>
    rw [if_pos rfl] at H
    cases H
    unfold PP.utf8_Decoder_Write.f PP.utf8_Decoder_usable.f
    rw [if_pos rfl]
    simp only [Option.bind_some]
    rw [if_neg (by decide)]
  | false =>
    rw [if_neg (by decide)] at H
    have := write_f p b hs out rest e H
    rw [show bytesOf b = bytesOf (strOfNums l) by rw [hl]] at this
    have e2 : PP.utf8_Decoder_Write.f (p.size + b.size + 1) p false (bytesOf (strOfNums l)) = PP.utf8_Decoder_Write.f (p.size + b.size + 1) p false l := by
      unfold PP.utf8_Decoder_Write.f
      rw [str_bytes]
    rw [← e2]; exact this
/-- What a decoder's Close does: the error, and whether it is closed. -/
def decC (cl : Bool) (p : ByteArray) : Int × Bool := if cl = true then (10, true) else if p.toList = [] then (0, true) else (23, false)
theorem close_any (g : Nat) (cl : Bool) (p : ByteArray) (w0 w : World) (hI : PP.IsS83 w0 w g p cl) (hB : Below w0.heap.size w0 w) (e : Int) (cl' : Bool) (H : decC cl p = (e, cl')) :
    Calls Try.prog 32 #[.pointer (some ⟨g, 0, none⟩)] w fun e_ w' => e_ = .returned (.int .i64 e) ∧ PP.IsS83 w0 w' g p cl' ∧ Below w0.heap.size w0 w' := by
  refine (PP.utf8_Decoder_Close.calls g p cl e p cl' w0 w hI hB ?_).mono fun e_ w' h => ⟨h.1, h.2.1, h.2.2.1⟩
  unfold PP.utf8_Decoder_Close.f PP.utf8_Decoder_usable.f
  unfold decC at H
  cases cl with
  | true =>
    rw [if_pos rfl] at H ⊢
    cases H
    simp only [Option.bind_some]
    rw [if_neg (by decide)]
  | false =>
    rw [if_neg (by decide)] at H ⊢
    simp only [Option.bind_some, if_true]
    by_cases hp : p.toList = []
    · rw [if_pos hp] at H ⊢; cases H; rfl
    · rw [if_neg hp] at H ⊢; cases H; rfl

set_option maxHeartbeats 4000000 in
set_option maxRecDepth 100000 in
theorem pending_is (g : Nat) (cl : Bool) (p : ByteArray) (w0 w : World) (hI : PP.IsS83 w0 w g p cl) (hB : Below w0.heap.size w0 w) :
    Calls Try.prog 34 #[.pointer (some ⟨g, 0, none⟩)] w fun e_ w' => e_ = .returned (.int .i64 (p.size : Int)) ∧ w' = w := by
  have hu83 := Try.underlying83
  obtain ⟨HG, hg⟩ := hI
  have hc0 := PP.cellS83_0 HG
  have hc1 := PP.cellS83_1 HG
  have hf0 := blk_frozen HG 0
  have hf1 := blk_frozen HG 1
  clear HG hB
  go_enter Try.func34, Try.ntmps34
  go_wp2
  go_ret
  exact ⟨rfl, rfl⟩
set_option maxHeartbeats 4000000 in
set_option maxRecDepth 100000 in
theorem pending_nil (w : World) : Calls Try.prog 34 #[.pointer none] w fun e_ w' => e_ = .returned (.int .i64 0) ∧ w' = w := by
  go_enter Try.func34, Try.ntmps34
  go_wp2
  go_ret
  exact ⟨rfl, rfl⟩
set_option maxHeartbeats 4000000 in
set_option maxRecDepth 100000 in
theorem usable_nil (w : World) : Calls Try.prog 48 #[.pointer none] w fun e_ w' => e_ = .returned (.int .i64 1) ∧ w' = w := by
  go_enter Try.func48, Try.ntmps48
  go_wp2
  go_ret
  exact ⟨rfl, rfl⟩
set_option maxHeartbeats 4000000 in
set_option maxRecDepth 100000 in
theorem close_nil (w : World) : Calls Try.prog 32 #[.pointer none] w fun e_ w' => e_ = .returned (.int .i64 1) ∧ w' = w := by
  go_enter Try.func32, Try.ntmps32
  go_wp2_with (go_at_call 48; refine (usable_nil _).mono ?_; rintro e_ w1 ⟨rfl, rfl⟩)
  go_ret
  exact ⟨rfl, rfl⟩
set_option maxHeartbeats 4000000 in
set_option maxRecDepth 100000 in
theorem write_nil (v : Value) (w : World) : Calls Try.prog 31 #[.pointer none, v] w fun e_ w' => e_ = .returned (.tuple #[.string ⟨#[]⟩, .int .i64 1]) ∧ w' = w := by
  go_enter Try.func31, Try.ntmps31
  go_wp2_with (go_at_call 48; refine (usable_nil _).mono ?_; rintro e_ w1 ⟨rfl, rfl⟩)
  go_ret2
  exact ⟨rfl, rfl⟩
end Go.Proofs.Ytpjiidcnbceffaa.UA
