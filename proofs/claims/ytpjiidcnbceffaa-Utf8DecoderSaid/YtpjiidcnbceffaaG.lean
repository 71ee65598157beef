/- The contracts of utf8.first, Encode and Repair in the form in which the printed texts use them. Conditions: not empty (first), at most 1000000 bytes (Repair). -/
import Derived.Test.YtpjiidcnbceffaaF
namespace Go.Proofs.Ytpjiidcnbceffaa.UA
open Go Go.RowKit Go.Proofs.YtpjiidcnbceffaaW.PrintWords Go.Proofs.YtpjiidcnbceffaaW.PrintLast Go.Proofs.YtpjiidcnbceffaaW.PrintMore

def utf8_first.f (a0 : ByteArray) : Option (Int × Int × Int) := if 0 < a0.size then some (fstP a0) else none
theorem utf8_first.calls (a0 : ByteArray) (r1 r2 r3 : Int) (w : World) (h : utf8_first.f a0 = some (r1, r2, r3)) :
    Calls Try.prog 37 #[.string a0] w fun e w' => e = .returned (.tuple #[.int .i32 r1, .int .i64 r2, .int .i64 r3]) ∧ Below w.heap.size w w' := by
  unfold utf8_first.f at h
  split at h
  · exact first_is a0 ‹_› r1 r2 r3 (Option.some.inj h) w
  · cases h

def utf8_Encode.f (a0 : Int) : Option (ByteArray × Int) := if isCp a0 = true then some (strOfNums (encN a0), 0) else some ((⟨#[]⟩ : ByteArray), 2)
theorem utf8_Encode.calls (a0 : Int) (r1 : ByteArray) (r2 : Int) (w : World) (h : utf8_Encode.f a0 = some (r1, r2)) :
    Calls Try.prog 21 #[.int .i32 a0] w fun e w' => e = .returned (.tuple #[.string r1, .int .i64 r2]) ∧ Below w.heap.size w w' := by
  have hc := encode_any a0 w
  unfold utf8_Encode.f at h
  split at h
  · rename_i hi
    rw [if_pos hi, if_pos hi] at hc
    simp only [Option.some.injEq, Prod.mk.injEq] at h
    obtain ⟨rfl, rfl⟩ := h
    exact hc
  · rename_i hi
    rw [if_neg hi, if_neg hi] at hc
    simp only [Option.some.injEq, Prod.mk.injEq] at h
    obtain ⟨rfl, rfl⟩ := h
    exact hc

def utf8_Repair.f (a0 : ByteArray) : Option ByteArray := if a0.size ≤ 1000000 then some (repP a0) else none
theorem utf8_Repair.calls (a0 : ByteArray) (r : ByteArray) (w : World) (h : utf8_Repair.f a0 = some r) :
    Calls Try.prog 24 #[.string a0] w fun e w' => e = .returned (.string r) ∧ Below w.heap.size w w' := by
  unfold utf8_Repair.f at h
  split at h
  · obtain rfl := Option.some.inj h
    exact repair_any a0 ‹_› w
  · cases h
end Go.Proofs.Ytpjiidcnbceffaa.UA
