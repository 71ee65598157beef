/- A decoder's Write, told plainly. Condition: at most 1000000 bytes. -/
import Derived.Test.YtpjiidcnbceffaaO
import Derived.Test.YtpjiidcnbceffaaM
import Derived.Test.YtpjiidcnbceffaaL
namespace Go.Proofs.Ytpjiidcnbceffaa.UA
open Go Go.RowKit Go.Shelf Go.Proofs Go.Proofs.YtpjiidcnbceffaaW.PrintWords Go.Proofs.YtpjiidcnbceffaaW.PrintLast Go.Proofs.YtpjiidcnbceffaaW.PrintMore
set_option linter.unusedVariables false
set_option linter.unusedSimpArgs false
attribute [local go_sem] Oper.semAt_some

theorem below_bw (w : World) (e : TypeId) (s : ByteArray) : Below w.heap.size w (Lib.bytesWorld w e s) :=
  ⟨rfl, rfl, rfl, by rw [Lib.bytesWorld_size]; omega, fun k hk => Lib.bytesWorld_at_old w e s k hk⟩
def writeP (p b : ByteArray) : ByteArray × Int × ByteArray :=
  if (chkP (p ++ b)).2 = 0 then (p ++ b, 0, ByteArray.empty)
  else if (chkP (p ++ b)).2 = 23 then ((p ++ b).extract 0 (chkP (p ++ b)).1.toNat, 0, (p ++ b).extract (chkP (p ++ b)).1.toNat (p ++ b).size)
  else (⟨#[]⟩, (chkP (p ++ b)).2, p)
theorem chkGo_le (s : ByteArray) (f : Nat) : ∀ at_ : Nat, at_ ≤ s.size → 0 ≤ (chkGo s f at_).1 ∧ (chkGo s f at_).1 ≤ s.size := by
  induction f with
  | zero => intro at_ h; simp [chkGo]
  | succ f ih =>
    intro at_ h
    rw [chkGo]
    by_cases hlt : at_ < s.size
    · rw [if_pos hlt]
      by_cases h0 : (fstP (s.extract at_ s.size)).2.2 = 0
      · obtain ⟨m, hm, h1, _, h2⟩ := fst_step s at_ hlt h0
        rw [if_pos h0, hm, Int.toNat_natCast]
        exact ih _ h2
      · rw [if_neg h0]; simp; omega
    · rw [if_neg hlt]; simp
theorem str_bytes (b : ByteArray) : strOfNums (bytesOf b) = b := by
  apply ByteArray.ext
  apply Array.ext'
  rw [strOfNums_data]
  simp [bytesOf]
  conv => rhs; rw [← List.map_id b.data.toList]
  exact List.map_congr_left fun x _ => by simp
theorem write_f (p b : ByteArray) (hs : p.size + b.size ≤ 1000000) (out rest : ByteArray) (e : Int) (H : writeP p b = (out, e, rest)) : PP.utf8_Decoder_Write.f (p.size + b.size + 1) p false (bytesOf b) = some (out, e, rest, false) := by
  unfold PP.utf8_Decoder_Write.f PP.utf8_Decoder_usable.f
  rw [if_neg (by simp)]
  simp only [Option.bind_some, if_true]
  rw [str_bytes, if_pos (by omega)]
  have hz : (p ++ b).size = p.size + b.size := ByteArray.size_append
  rw [check_eq (p ++ b) (by omega) _ (by omega)]
  simp only [Option.bind_some]
  have hle := chkGo_le (p ++ b) ((p ++ b).size + 1) 0 (by omega)
  rw [show chkGo (p ++ b) ((p ++ b).size + 1) 0 = chkP (p ++ b) from rfl] at hle
  unfold writeP at H
  by_cases h0 : (chkP (p ++ b)).2 = 0
  · rw [if_pos h0] at H
    cases H
    rw [if_pos h0, if_pos (by omega), if_pos (by omega), PP.ext_nil_, Int.toNat_natCast, extract_all]
  · rw [if_neg h0] at H ⊢
    by_cases h1 : (chkP (p ++ b)).2 = 23
    · rw [if_pos h1] at H
      cases H
      rw [if_pos h1, if_pos hle.1, if_pos hle.2]
    · rw [if_neg h1] at H
      cases H
      rw [if_neg h1]
theorem write_new (g : Nat) (p b : ByteArray) (cap : Nat) (w0 W : World) (hI : PP.IsS83 w0 W g p false) (hB : Below w0.heap.size w0 W) (hs : p.size + b.size ≤ 1000000) (hc : b.size ≤ cap) (out rest : ByteArray) (e : Int) (H : writeP p b = (out, e, rest)) :
    Calls Try.prog 31 #[.pointer (some ⟨g, 0, none⟩), .slice (some ⟨W.heap.size, 0, none⟩) b.size cap] (Lib.bytesWorld W 5 b) fun e_ w' => e_ = .returned (.tuple #[.string out, .int .i64 e]) ∧ PP.IsS83 w0 w' g rest false ∧ Below w0.heap.size w0 w' := by
  have hl := bytesOf_length b
  have hbw := below_bw W 5 b
  have h := PP.utf8_Decoder_Write.calls (p.size + b.size + 1) g p false (some ⟨W.heap.size, 0, none⟩) cap (bytesOf b) out e rest false w0 (Lib.bytesWorld W 5 b) (hI.below hbw) (hB.trans (hbw.mono hB.size))
    (by rw [hl]; exact Kd.C_of_reads (d := (0 : Int)) (h1 := fun _ => rfl) (bytes_reads W 5 b (by omega))) (by omega) (fun ad he _ => by cases he; have := hI.lt; simp; omega) (write_f p b hs out rest e H)
  rw [hl] at h
  exact h.mono fun e_ w' h => ⟨h.1, h.2.1, h.2.2.1⟩
theorem write_new2 (g : Nat) (p b : ByteArray) (nb : Nat) (hnb : b.size = nb) (cap : Nat) (w0 W : World) (hI : PP.IsS83 w0 W g p false) (hB : Below w0.heap.size w0 W) (hs : p.size + b.size ≤ 1000000) (hc : nb ≤ cap) (out rest : ByteArray) (e : Int) (H : writeP p b = (out, e, rest)) :
    Calls Try.prog 31 #[.pointer (some ⟨g, 0, none⟩), .slice (some ⟨W.heap.size, 0, none⟩) nb cap] (Lib.bytesWorld W 5 b) fun e_ w' => e_ = .returned (.tuple #[.string out, .int .i64 e]) ∧ PP.IsS83 w0 w' g rest false ∧ Below w0.heap.size w0 w' := by
  subst hnb
  exact write_new g p b cap w0 W hI hB hs hc out rest e H
theorem close_is (g : Nat) (p : ByteArray) (hp : p = ByteArray.empty) (w0 W : World) (hI : PP.IsS83 w0 W g p false) (hB : Below w0.heap.size w0 W) :
    Calls Try.prog 32 #[.pointer (some ⟨g, 0, none⟩)] W fun e_ w' => e_ = .returned (.int .i64 0) ∧ Below w0.heap.size w0 w' := by
  subst hp
  exact (PP.utf8_Decoder_Close.calls g ByteArray.empty false 0 ByteArray.empty true w0 W hI hB (by decide +kernel)).mono fun e_ w' h => ⟨h.1, h.2.2.1⟩
theorem new_is (w0 w : World) (hB : Below w0.heap.size w0 w) : Calls Try.prog 30 #[] w fun e w' => ∃ g : Nat, e = .returned (.pointer (some ⟨g, 0, none⟩)) ∧ PP.IsS83 w0 w' g ByteArray.empty false ∧ Below w0.heap.size w0 w' :=
  (PP.utf8_NewDecoder.calls ByteArray.empty false w0 w hB rfl).mono fun e w' h => by obtain ⟨g, h1, h2, h3, _⟩ := h; exact ⟨g, h1, h2, h3⟩

/-- What a Write of a part of a valid rest does. -/
theorem write_part (p b t : ByteArray) (l : List Int) (h : IsV (p ++ b ++ t) l) : ∃ out rest, writeP p b = (out, 0, rest) ∧ out ++ rest = p ++ b ∧ (∃ m, IsV (rest ++ t) m) ∧ (t = ByteArray.empty → (∃ m, IsV (p ++ b) m) → rest = ByteArray.empty) := by
  have hz : (p ++ b).size = p.size + b.size := ByteArray.size_append
  unfold writeP
  rcases part_chk (p ++ b) t l h with ⟨h0, m, hm⟩ | ⟨h1, n, hn, hle, m, hm⟩
  · rw [if_pos h0]
    exact ⟨_, _, rfl, ByteArray.append_empty, ⟨m, by rw [ByteArray.empty_append]; exact hm⟩, fun _ _ => rfl⟩
  · rw [if_neg (by rw [h1]; decide), if_pos h1, hn, Int.toNat_natCast]
    refine ⟨_, _, rfl, ?_, ⟨m, hm⟩, fun _ hv => ?_⟩
    · have := ByteArray.extract_eq_extract_append_extract (a := p ++ b) (i := 0) (k := (p ++ b).size) n (by omega) hle
      rw [extract_all] at this
      exact this.symm
    · exact absurd ((chk_valid _).2 hv) (by rw [h1]; decide)
end Go.Proofs.Ytpjiidcnbceffaa.UA
