/- One operation as an argument, opened. No condition. -/
import Derived.Test.YtbhibodgbgndbaaU
import Derived.SizedLaws
namespace Go.Proofs.Ytbhibodgbgndbaa.B
open Go Go.RowKit Go.Proofs Go.Proofs.YtbhibodgbgndbaaW.PrintWords Go.Proofs.YtbhibodgbgndbaaW.PrintLast Go.Proofs.YtbhibodgbgndbaaW.PrintMore
set_option linter.unusedVariables false
set_option linter.unusedSimpArgs false

section
variable {P : Program} {H : Type} {enc : TypeId × Value → H} {w w1 : World} {base : Nat} {spare : Nat → Bool} {held : Bool}
theorem mapM_get2 {α β : Type} {f : α → Option β} : ∀ {l : List α} {r : List β}, l.mapM f = some r → ∀ (i : Nat) (a : α), l[i]? = some a → ∃ b, f a = some b ∧ r[i]? = some b
  | [], _, _, i, a, h => by simp at h
  | c :: l, r, h, i, a, hi => by
    rw [List.mapM_cons] at h
    obtain ⟨b, h1, h2⟩ := Option.bind_eq_some_iff.1 h
    obtain ⟨bs, h3, h4⟩ := Option.bind_eq_some_iff.1 h2
    cases h4
    cases i with
    | zero => simp at hi; subst hi; exact ⟨b, h1, rfl⟩
    | succ i => exact mapM_get2 h3 i a (by simpa using hi)
theorem ids_weight (u31 : P.underlying 31 = some (.slice 29)) (b29 : P.bytesOf 29 = 32) {fuel : Nat} {A : Option Addr} {n C : Nat} {x : DataW H × List MemPlace} (h : DataW.trod enc P w base spare held fuel 31 [.slice A n C] = some x) : n = 0 ∨ ∃ k ∈ x.1.weights P 31, n * 32 ≤ k := by
  rcases Go.Deep.open_slice u31 h with ⟨hcs, _⟩ | ⟨a, len, cap, m, q, D, Pl, hcs, _, _, _, _, rfl, _⟩
  · simp at hcs; exact .inl hcs.2.1
  · simp at hcs
    obtain ⟨_, rfl, _⟩ := hcs
    refine .inr ⟨(((List.range n).map D).length + ((List.range (m - n)).map fun j => D (n + j)).length) * P.bytesOf 29, ?_, ?_⟩
    · show _ ∈ (DataW.slice _ _).weights P 31
      unfold DataW.weights
      rw [u31]
      exact List.mem_cons_self
    · rw [b29]
      simp only [List.length_map, List.length_range]
      omega
theorem open_opv (u29 : P.underlying 29 = some (.array 32 5)) (u5 : P.underlying 5 = some (.int .u8)) (c29 : P.cellsOf 29 = 32) (c5 : P.cellsOf 5 = 1) (u31 : P.underlying 31 = some (.slice 29))
    {fs : Array Field} (u33 : P.underlying 33 = some (.struct fs)) (hfs : fs.toList.map (fun f => (f.type, f.offset)) = [(3, 0), (29, 1), (3, 33), (3, 34), (31, 35)]) (hft : fs.toList.map (·.type) = [3, 29, 3, 3, 31]) (u3 : P.underlying 3 = some (.int .i64)) (c3 : P.cellsOf 3 = 1) (c31 : P.cellsOf 31 = 1) (c33 : P.cellsOf 33 = 36) (b29 : P.bytesOf 29 = 32)
    {fuel : Nat} {ad : Addr} {cs : List Value} {x : DataW H × List MemPlace} (hcell : ∀ i, i < 36 → w1.cell? (ad.add i) = cs[i]?) (hw1 : ∀ (a : Addr) (v : Value), w.cell? a = some v → w1.cell? a = some v) (h : DataW.trod enc P w base spare held fuel 33 cs = some x)
    (hsz : ∀ k ∈ x.1.weights P 33, k ≤ reachBytes) : ∃ o, OpAt w1 ad o ∧ o.ids.length * 32 ≤ reachBytes := by
  cases fuel with
  | zero => simp [DataW.trod] at h
  | succ n =>
    unfold DataW.trod at h
    rw [u33] at h
    simp only [c33] at h
    by_cases hl : cs.length = 36
    · rw [if_pos hl] at h
      obtain ⟨r, hr, hx⟩ := Option.map_eq_some_iff.1 h
      have fld : ∀ (i : Nat) (t o : Nat), (fs.toList.map (fun f => (f.type, f.offset)))[i]? = some (t, o) → ∃ b, DataW.trod enc P w base spare held n t ((cs.drop o).take (P.cellsOf t)) = some b ∧ r[i]? = some b := fun i t o hi => by
        rw [List.getElem?_map] at hi
        obtain ⟨f, hf, e⟩ := Option.map_eq_some_iff.1 hi
        cases e
        exact mapM_get2 hr i f hf
      rw [hfs] at fld
      obtain ⟨b0, g0, _⟩ := fld 0 3 0 rfl
      obtain ⟨b1, g1, _⟩ := fld 1 29 1 rfl
      obtain ⟨b2, g2, _⟩ := fld 2 3 33 rfl
      obtain ⟨b3, g3, _⟩ := fld 3 3 34 rfl
      obtain ⟨b4, g4, r4⟩ := fld 4 31 35 rfl
      rw [c3] at g0 g2 g3
      rw [c29] at g1
      rw [c31] at g4
      obtain ⟨z0, e0, w0⟩ := open_int1 u3 (by simp [hl]) g0
      obtain ⟨z1, e1, w1'⟩ := open_id u29 u5 c29 c5 g1
      obtain ⟨z2, e2, w2⟩ := open_int1 u3 (by simp [hl]) g2
      obtain ⟨z3, e3, w3⟩ := open_int1 u3 (by simp [hl]) g3
      obtain ⟨A, C, l, e4, hlc, hcm, hA, hid, hcl⟩ := open_ids u29 u5 c29 c5 u31 g4
      have one : ∀ (k : Nat) (v : Value), (cs.drop k).take 1 = [v] → cs[k]? = some v := fun k v h => by
        have := congrArg (fun l => l[0]?) h
        simpa using this
      have a0 : ∀ k, k ≠ 0 → ad.add k = ⟨ad.block, ad.off + k, none⟩ := fun k hk => by unfold Addr.add; rw [if_neg hk]
      have a00 : ad.add 0 = ad := by unfold Addr.add; rw [if_pos rfl]
      refine ⟨⟨z0, z1, z2, z3, l⟩, ⟨?_, w1', fun j v hv => ?_, ?_, ?_, ⟨w0, w2, w3⟩, hid, Nat.le_trans hlc hcm, A, C, ?_, hlc, hA, fun i x hi => ?_⟩, ?_⟩
      · have := hcell 0 (by omega)
        rw [a00] at this
        rw [this]; exact one 0 _ e0
      · have hj := (List.getElem?_eq_some_iff.1 hv).1
        rw [List.length_map, w1'.1] at hj
        have := hcell (1 + j) (by omega)
        rw [a0 _ (by omega), ← Nat.add_assoc] at this
        rw [this]
        rw [← e1, List.getElem?_take_of_lt (by omega), List.getElem?_drop] at hv
        exact hv
      · have := hcell 33 (by omega)
        rw [a0 _ (by omega)] at this
        rw [this]; exact one 33 _ e2
      · have := hcell 34 (by omega)
        rw [a0 _ (by omega)] at this
        rw [this]; exact one 34 _ e3
      · have := hcell 35 (by omega)
        rw [a0 _ (by omega)] at this
        rw [this]; exact one 35 _ e4
      · obtain ⟨a, e, k⟩ := hcl i x hi
        exact ⟨a, e, fun j u hu => hw1 _ _ (k j u hu)⟩
      · show l.length * 32 ≤ reachBytes
        rw [e4] at g4
        rcases ids_weight u31 b29 g4 with h0 | ⟨k, hk, hle⟩
        · rw [h0]; exact Nat.zero_le _
        · refine Nat.le_trans hle (hsz k ?_)
          rw [← hx]
          show k ∈ (DataW.agg _).weights P 33
          unfold DataW.weights
          rw [u33]
          show k ∈ DataW.weightsEach P (fs.toList.map (·.type)) _
          rw [hft]
          refine DataW.weights_mem_each (j := 4) (t := 31) (d := b4.1) rfl ?_ k hk
          rw [List.getElem?_map, r4]; rfl
    · rw [if_neg hl] at h; simp at h
end
end Go.Proofs.Ytbhibodgbgndbaa.B
