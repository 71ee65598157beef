/- append([]byte{}, b...) in a region that draws its order. No condition. -/
import Derived.Test.YtpjiidcnbceffaaT7
import Derived.Deep.RegionHeld3
import Derived.Deep.AppendLies
namespace Go.Proofs.Ytpjiidcnbceffaa.UA
open Go Go.RowKit Go.Shelf Go.Proofs Go.Proofs.YtpjiidcnbceffaaW.PrintWords Go.Proofs.YtpjiidcnbceffaaW.PrintLast Go.Proofs.YtpjiidcnbceffaaW.PrintMore
set_option linter.unusedVariables false
set_option linter.unusedSimpArgs false

theorem infoU : (Try.prog.info? 5).map (fun i => (i.zero, i.size, i.bytes)) = some (some (.int .u8 0), 1, 1) := by kernel_rfl
theorem run_append_zero (w : World) (ty : TypeId) (b : Addr) (k : Nat) (A : Option Addr) (c : Nat) :
    (Builtin.append_ #[38, 38] ty #[.slice (some b) 0 k, .slice A 0 c]).run Try.prog w = .ok (.slice (some b) 0 k) w := by
  obtain ⟨i0, hi, hz0, hz1, hz2⟩ := info_parts infoU
  cases A <;> simp [Builtin.append_, run_underlying Try.underlying38, sizeOf, typeInfo, hi, Builtin.lenOf, Builtin.firstCells, loadCells, loadCellsFrom, storeCells]
/-- What the appended slice is. -/
def NewBytes (base m : Nat) (zs : List Int) (v : Value) (w w' : World) : Prop :=
  ∃ (A : Option Addr) (c : Nat), v = .slice A m c ∧ m ≤ c ∧ Kd.C (Kd.int .u8) w' A m (zs.take m) ∧ (∀ ad, A = some ad → base ≤ ad.block) ∧ Below base w w'
theorem append_new (w : World) (ty : TypeId) (base bk m c : Nat) (A : Option Addr) (zs : List Int) (hA : A = none → m = 0) (hm : m ≤ zs.length) (hmx : m ≤ 1000)
    (hb : w.heap[bk]? = some (.cells #[] 5 (0, 0))) (hbk : base ≤ bk) (hx : ∀ ad, A = some ad → ∀ j, j < m → w.cell? (ad.add j) = some (.int .u8 (zs.getD j 0))) :
    ∃ v w', (Builtin.append_ #[38, 38] ty #[.slice (some ⟨bk, 0, none⟩) 0 0, .slice A m c]).run Try.prog w = .ok v w' ∧ NewBytes base m zs v w w' := by
  by_cases hm0 : m = 0
  · subst hm0
    refine ⟨_, _, run_append_zero w ty _ 0 A c, _, _, rfl, Nat.le_refl _, ?_, fun ad h => by cases h; exact hbk, Below.refl _ _⟩
    exact Kd.C_of_reads (d := (0 : Int)) (h1 := fun _ => rfl) ⟨by simp, by omega, fun h => by omega⟩
  · obtain ⟨ad, rfl⟩ : ∃ ad, A = some ad := by
      cases A with
      | none => exact absurd (hA rfl) hm0
      | some ad => exact ⟨ad, rfl⟩
    obtain ⟨i0, hi, hz0, hz1, hz2⟩ := info_parts infoU
    have hlt : bk < w.heap.size := (Array.getElem?_eq_some_iff.1 hb).1
    have hown : w.ownsRow base 5 1 (.slice (some ⟨bk, 0, none⟩) 0 0) 0 [] := ⟨rfl, .inr ⟨bk, 0, #[], rfl, hbk, hb, Nat.le_refl _, Nat.zero_le _, rfl, rfl⟩⟩
    obtain ⟨v', w', hr, h2, h3, h4, h5⟩ := run_append_own_at (P := Try.prog) w base 38 ty 5 i0 (.int .u8 0) 1 1 Try.underlying38 hi hz0 hz1 hz2 rfl (by decide) _ 0 [] hown ad m c ((zs.take m).map (Value.int .u8)) (by simp; omega)
      (fun j u hu => by
        rw [List.getElem?_map] at hu
        obtain ⟨z, hz, rfl⟩ := Option.map_eq_some_iff.1 hu
        obtain ⟨hj, hz⟩ := List.getElem?_eq_some_iff.1 hz
        simp at hj
        rw [hx ad rfl j (by omega), ← hz]
        simp [List.getD_eq_getElem?_getD]
        rw [List.getElem?_eq_getElem (by omega)]; simp) (fun u hu => by obtain ⟨z, _, rfl⟩ := List.mem_map.1 hu; rfl) (by simp [maxLen]; omega) (by omega) (by omega)
    refine ⟨v', w', hr, ?_⟩
    rw [Nat.zero_add, List.nil_append] at h2
    obtain ⟨g, cap, cur, rfl, hg, hgb, hcap, _, _, _⟩ := (h2.2.resolve_left (fun h => hm0 h.2))
    refine ⟨_, _, rfl, hcap, ?_, fun ad h => by cases h; exact hg, ?_⟩
    · have hC := (Kd.R_of_own (enc := Value.int .u8) (h1 := fun _ => rfl) (ok := fun _ => True) (xs := zs.take m) (by rw [List.length_take, Nat.min_eq_left hm]; exact h2) (fun _ _ => trivial))
      have h8 := (Kd.R_reads' (n := m) (by simpa using hC)).2.2
      rw [List.length_take, Nat.min_eq_left hm] at h8
      exact h8
    · exact (Below.refl base w).grown h3 (by omega) (fun k hk => by simp [Value.ownBlock] at hk; omega)
theorem step_append_new {ops : Array Oper} {o : Oper} {a : Act} {K : Act → World → Prop} {Q : Exit → Act → World → Prop} {E : Prop} {w : World} (hgd : o.guard = none) (s x : Operand)
    (ho : o.op = .call { callee := .builtin .append, args := #[s, x], argTypes := #[38, 38] })
    (base bk m c : Nat) (A : Option Addr) (zs : List Int) (hs : a.eval s = .slice (some ⟨bk, 0, none⟩) 0 0) (hxs : a.eval x = .slice A m c) (hA : A = none → m = 0) (hm : m ≤ zs.length) (hmx : m ≤ 1000)
    (hb : w.heap[bk]? = some (.cells #[] 5 (0, 0))) (hbk : base ≤ bk) (hx : ∀ ad, A = some ad → ∀ j, j < m → w.cell? (ad.add j) = some (.int .u8 (zs.getD j 0)))
    (h : ∀ v w', NewBytes base m zs v w w' → K (a.put o.dst v) w') :
    if Region.wanted o (yielded ops a.tmps) = true then Oper.wp Try.prog o a w K Q else E := by
  have hw : Region.wanted o (yielded ops a.tmps) = true := by simp [Region.wanted, hgd]
  rw [if_pos hw]
  obtain ⟨v, w', hr, hn⟩ := append_new w o.type base bk m c A zs hA hm hmx hb hbk hx
  unfold Oper.wp execOp
  simp only [ho, resolve, invoke, builtin, Sem.run_bind, Sem.run_pure, Result.andThen_ok, List.map_toArray, List.map_cons, List.map_nil, hs, hxs, hr]
  exact h v w' hn
end Go.Proofs.Ytpjiidcnbceffaa.UA
