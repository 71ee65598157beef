/- The operations that a law is given ([]Op), read out of memory. No condition. -/
import Derived.Test.YtbhibodgbgndbaaT
import Derived.Deep.Slices
namespace Go.Proofs.Ytbhibodgbgndbaa.B
open Go Go.RowKit Go.Proofs Go.Proofs.YtbhibodgbgndbaaW.PrintWords Go.Proofs.YtbhibodgbgndbaaW.PrintLast Go.Proofs.YtbhibodgbgndbaaW.PrintMore
set_option linter.unusedVariables false
set_option linter.unusedSimpArgs false

structure OpV where
  kind : Int
  id : List Int
  now : Int
  most : Int
  ids : List (List Int)
instance : Inhabited OpV := ⟨⟨0, [], 0, 0, []⟩⟩
structure OpAt (W : World) (ad : Addr) (o : OpV) : Prop where
  kind : W.cell? ad = some (.int .i64 o.kind)
  idok : Idok o.id
  id : W.rangeAt ad.block (ad.off + 1) (o.id.map (Value.int .u8))
  now : W.cell? ⟨ad.block, ad.off + 33, none⟩ = some (.int .i64 o.now)
  most : W.cell? ⟨ad.block, ad.off + 34, none⟩ = some (.int .i64 o.most)
  wfk : (Lit.int .i64 o.kind).wf = true ∧ (Lit.int .i64 o.now).wf = true ∧ (Lit.int .i64 o.most).wf = true
  idsok : ∀ x ∈ o.ids, Idok x
  idsn : o.ids.length ≤ maxLen
  ids : ∃ A C, W.cell? ⟨ad.block, ad.off + 35, none⟩ = some (.slice A o.ids.length C) ∧ o.ids.length ≤ C ∧ (A = none → C = 0) ∧ ∀ (i : Nat) (x : List Int), o.ids[i]? = some x → ∃ a, A = some a ∧ ∀ j u, (x.map (Value.int .u8))[j]? = some u → W.cell? (a.add (i * 32 + j)) = some u
def OpsAt (W : World) (A : Option Addr) (l : List OpV) : Prop := ∀ i o, l[i]? = some o → ∃ a, A = some a ∧ OpAt W (a.add (i * 36)) o

section
variable {P : Program} {H : Type} {enc : TypeId × Value → H} {w : World} {base : Nat} {spare : Nat → Bool} {held : Bool}
theorem mapM_get {α β : Type} {f : α → Option β} : ∀ {l : List α} {r : List β}, l.mapM f = some r → ∀ (i : Nat) (a : α), l[i]? = some a → ∃ b, f a = some b
  | [], _, _, i, a, h => by simp at h
  | c :: l, r, h, i, a, hi => by
    rw [List.mapM_cons] at h
    obtain ⟨b, h1, h2⟩ := Option.bind_eq_some_iff.1 h
    obtain ⟨bs, h3, h4⟩ := Option.bind_eq_some_iff.1 h2
    cases i with
    | zero => simp at hi; subst hi; exact ⟨b, h1⟩
    | succ i => exact mapM_get h3 i a (by simpa using hi)
theorem open_int1 {t : TypeId} {k : IntKind} {fuel : Nat} {cs : List Value} {x : DataW H × List MemPlace} (ht : P.underlying t = some (.int k)) (hc : cs.length = 1) (h : DataW.trod enc P w base spare held fuel t cs = some x) :
    ∃ z, cs = [.int k z] ∧ (Lit.int k z).wf = true := by
  cases fuel with
  | zero => simp [DataW.trod] at h
  | succ n =>
    match cs, hc with
    | [v], _ =>
      unfold DataW.trod at h
      rw [ht] at h
      cases v <;> simp at h
      obtain ⟨⟨rfl, h1⟩, _⟩ := h
      exact ⟨_, rfl, h1⟩
theorem open_id (u29 : P.underlying 29 = some (.array 32 5)) (u5 : P.underlying 5 = some (.int .u8)) (c29 : P.cellsOf 29 = 32) (c5 : P.cellsOf 5 = 1) {fuel : Nat} {cs : List Value} {x : DataW H × List MemPlace} (h : DataW.trod enc P w base spare held fuel 29 cs = some x) : ∃ z : List Int, cs = z.map (Value.int .u8) ∧ Idok z := by
  cases fuel with
  | zero => simp [DataW.trod] at h
  | succ n =>
    unfold DataW.trod at h
    rw [u29] at h
    simp only [c29, c5] at h
    by_cases hl : cs.length = 32
    · rw [if_pos hl] at h
      obtain ⟨r, hr, _⟩ := Option.map_eq_some_iff.1 h
      have hz : ∀ i, i < 32 → ∃ z : Int, cs[i]? = some (.int .u8 z) ∧ (Lit.int .u8 z).wf = true := fun i hi => by
        obtain ⟨b, hb⟩ := mapM_get hr i i (by simp [hi])
        have e : (cs.drop (i * 1)).take 1 = [cs[i]'(by omega)] := by
          rw [Nat.mul_one, List.drop_eq_getElem_cons (by omega), List.take_succ_cons, List.take_zero]
        rw [e] at hb
        obtain ⟨z, h1, h2⟩ := open_int1 u5 rfl hb
        exact ⟨z, by rw [List.getElem?_eq_getElem (by omega)]; simpa using h1, h2⟩
      obtain ⟨f, hf⟩ := Go.Deep.choose_lt hz
      refine ⟨(List.range 32).map f, ?_, by simp, fun z hz => ?_⟩
      · apply List.ext_getElem?
        intro i
        by_cases hi : i < 32
        · rw [(hf i hi).1]; simp [hi]
        · rw [List.getElem?_eq_none (by omega), List.getElem?_eq_none (by simp; omega)]
      · obtain ⟨i, hi, rfl⟩ := List.mem_map.1 hz
        exact (hf i (List.mem_range.1 hi)).2
    · rw [if_neg hl] at h; simp at h
theorem open_ids (u29 : P.underlying 29 = some (.array 32 5)) (u5 : P.underlying 5 = some (.int .u8)) (c29 : P.cellsOf 29 = 32) (c5 : P.cellsOf 5 = 1) (u31 : P.underlying 31 = some (.slice 29)) {fuel : Nat} {cs : List Value} {x : DataW H × List MemPlace} (h : DataW.trod enc P w base spare held fuel 31 cs = some x) : ∃ (A : Option Addr) (C : Nat) (l : List (List Int)), cs = [.slice A l.length C] ∧ l.length ≤ C ∧ C ≤ maxLen ∧ (A = none → C = 0) ∧ (∀ x ∈ l, Idok x) ∧
    ∀ (i : Nat) (x : List Int), l[i]? = some x → ∃ a, A = some a ∧ ∀ j u, (x.map (Value.int .u8))[j]? = some u → w.cell? (a.add (i * 32 + j)) = some u := by
  rcases Go.Deep.open_slice u31 h with ⟨rfl, _⟩ | ⟨a, len, cap, m, n, D, Pl, rfl, hb, hl, hm, hmm, _, hx⟩
  · exact ⟨none, 0, [], rfl, Nat.le_refl _, Nat.zero_le _, fun _ => rfl, by simp, by simp⟩
  · have hle : len ≤ m := by rw [hmm]; split <;> omega
    obtain ⟨f, hf⟩ := Go.Deep.choose_lt (n := len) (p := fun i (z : List Int) => Idok z ∧ w.cells? base (a.add (i * 32)) 32 = some (z.map (Value.int .u8))) (fun i hi => by
      obtain ⟨cs', h1, h2⟩ := hx i (by omega)
      obtain ⟨z, rfl, hz⟩ := open_id u29 u5 c29 c5 h2
      exact ⟨z, hz, by rw [c29] at h1; exact h1⟩)
    refine ⟨some a, cap, (List.range len).map f, by simp, by simpa using hl, hm, by simp, fun x hx => ?_, fun i x hi => ⟨a, rfl, fun j u hu => ?_⟩⟩
    · obtain ⟨i, hi, rfl⟩ := List.mem_map.1 hx
      exact (hf i (List.mem_range.1 hi)).1
    · have hil := (List.getElem?_eq_some_iff.1 hi).1
      simp at hil
      have hxe : f i = x := by simpa [hil] using hi
      subst hxe
      obtain ⟨_, h2, h3⟩ := World.cells?_some (hf i hil).2
      have hj := (List.getElem?_eq_some_iff.1 hu).1
      have := h3 j (by omega)
      rw [Go.Deep.add_add] at this
      rw [this]; exact hu
theorem open_op (u29 : P.underlying 29 = some (.array 32 5)) (u5 : P.underlying 5 = some (.int .u8)) (c29 : P.cellsOf 29 = 32) (c5 : P.cellsOf 5 = 1) (u31 : P.underlying 31 = some (.slice 29)) {fs : Array Field} (u33 : P.underlying 33 = some (.struct fs)) (hfs : fs.toList.map (fun f => (f.type, f.offset)) = [(3, 0), (29, 1), (3, 33), (3, 34), (31, 35)]) (u3 : P.underlying 3 = some (.int .i64)) (c3 : P.cellsOf 3 = 1) (c31 : P.cellsOf 31 = 1) (c33 : P.cellsOf 33 = 36) {fuel : Nat} {ad : Addr} {cs : List Value} {x : DataW H × List MemPlace} (hc : w.cells? base ad 36 = some cs) (h : DataW.trod enc P w base spare held fuel 33 cs = some x) : ∃ o, OpAt w ad o := by
  obtain ⟨_, hl, hcell⟩ := World.cells?_some hc
  cases fuel with
  | zero => simp [DataW.trod] at h
  | succ n =>
    unfold DataW.trod at h
    rw [u33] at h
    simp only [c33] at h
    rw [if_pos hl] at h
    obtain ⟨r, hr, _⟩ := Option.map_eq_some_iff.1 h
    have fld : ∀ (i : Nat) (t o : Nat), (fs.toList.map (fun f => (f.type, f.offset)))[i]? = some (t, o) → ∃ b, DataW.trod enc P w base spare held n t ((cs.drop o).take (P.cellsOf t)) = some b := fun i t o hi => by
      rw [List.getElem?_map] at hi
      obtain ⟨f, hf, e⟩ := Option.map_eq_some_iff.1 hi
      cases e
      exact mapM_get hr i f hf
    rw [hfs] at fld
    obtain ⟨b0, g0⟩ := fld 0 3 0 rfl
    obtain ⟨b1, g1⟩ := fld 1 29 1 rfl
    obtain ⟨b2, g2⟩ := fld 2 3 33 rfl
    obtain ⟨b3, g3⟩ := fld 3 3 34 rfl
    obtain ⟨b4, g4⟩ := fld 4 31 35 rfl
    rw [c3] at g0 g2 g3
    rw [c29] at g1
    rw [c31] at g4
    obtain ⟨z0, e0, w0⟩ := open_int1 u3 (by simp [hl]) g0
    obtain ⟨z1, e1, w1⟩ := open_id u29 u5 c29 c5 g1
    obtain ⟨z2, e2, w2⟩ := open_int1 u3 (by simp [hl]) g2
    obtain ⟨z3, e3, w3⟩ := open_int1 u3 (by simp [hl]) g3
    obtain ⟨A, C, l, e4, hlc, hcm, hA, hid, hcl⟩ := open_ids u29 u5 c29 c5 u31 g4
    have one : ∀ (k : Nat) (v : Value), (cs.drop k).take 1 = [v] → cs[k]? = some v := fun k v h => by
      have := congrArg (fun l => l[0]?) h
      simpa using this
    have a0 : ∀ k, k ≠ 0 → ad.add k = ⟨ad.block, ad.off + k, none⟩ := fun k hk => by unfold Addr.add; rw [if_neg hk]
    have a00 : ad.add 0 = ad := by unfold Addr.add; rw [if_pos rfl]
    refine ⟨⟨z0, z1, z2, z3, l⟩, ?_, w1, fun j v hv => ?_, ?_, ?_, ⟨w0, w2, w3⟩, hid, Nat.le_trans hlc hcm, A, C, ?_, hlc, hA, hcl⟩
    · have := hcell 0 (by omega)
      rw [a00] at this
      rw [this]; exact one 0 _ e0
    · have hj := (List.getElem?_eq_some_iff.1 hv).1
      rw [List.length_map, w1.1] at hj
      have := hcell (1 + j) (by omega)
      rw [a0 _ (by omega), ← Nat.add_assoc] at this
      rw [this]
      rw [← e1, List.getElem?_take_of_lt (by omega), List.getElem?_drop] at hv
      exact hv
    · have := hcell 33 (by omega)
      rw [a0 _ (by omega)] at this
      rw [this]; exact one 33 _ e2
    · have := hcell 34 (by omega)
      rw [a0 _ (by omega)] at this
      rw [this]; exact one 34 _ e3
    · have := hcell 35 (by omega)
      rw [a0 _ (by omega)] at this
      rw [this]; exact one 35 _ e4
theorem cells5' : Try.prog.cellsOf 5 = 1 := by kernel_rfl
theorem cells29 : Try.prog.cellsOf 29 = 32 := by kernel_rfl
theorem cells33 : Try.prog.cellsOf 33 = 36 := by kernel_rfl
theorem cells3 : Try.prog.cellsOf 3 = 1 := by kernel_rfl
theorem cells31 : Try.prog.cellsOf 31 = 1 := by kernel_rfl
/-- The argument of type []Op, opened. -/
theorem open_ops {fuel : Nat} {cs : List Value} {x : DataW H × List MemPlace} (h : DataW.trod enc Try.prog w base spare held fuel 22 cs = some x) : ∃ (A : Option Addr) (C : Nat) (l : List OpV), cs = [.slice A l.length C] ∧ l.length ≤ maxLen ∧ OpsAt w A l := by
  rcases Go.Deep.open_slice Try.underlying22 h with ⟨rfl, _⟩ | ⟨a, len, cap, m, n, D, Pl, rfl, hb, hl, hm, hmm, _, hx⟩
  · exact ⟨none, 0, [], rfl, Nat.zero_le _, fun i o hi => by simp at hi⟩
  · have hle : len ≤ m := by rw [hmm]; split <;> omega
    obtain ⟨f, hf⟩ := Go.Deep.choose_lt (n := len) (p := fun i (o : OpV) => OpAt w (a.add (i * 36)) o) (fun i hi => by
      obtain ⟨cs', h1, h2⟩ := hx i (by omega)
      rw [cells33] at h1
      exact open_op Try.underlying29 Try.underlying5 cells29 cells5' Try.underlying31 Try.underlying33 (by kernel_rfl) Try.underlying3 cells3 cells31 cells33 h1 h2)
    refine ⟨some a, cap, (List.range len).map f, by simp, by simp; omega, fun i o hi => ⟨a, rfl, ?_⟩⟩
    have hil := (List.getElem?_eq_some_iff.1 hi).1
    simp at hil
    have hxe : f i = o := by simpa [hil] using hi
    subst hxe
    exact hf i hil
end
theorem OpAt.below {B : Nat} {w w' : World} {ad : Addr} {o : OpV} (h : OpAt w ad o) (hb : Below w.heap.size w w') : OpAt w' ad o := by
  have c : ∀ {a : Addr} {v : Value}, w.cell? a = some v → w'.cell? a = some v := fun h0 => (hb.cell (World.block_lt_of_cell? _ _ h0)).trans h0
  obtain ⟨A, C, h1, h2, h3, h4⟩ := h.ids
  exact ⟨c h.kind, h.idok, fun j v hv => c (h.id j v hv), c h.now, c h.most, h.wfk, h.idsok, h.idsn, A, C, c h1, h2, h3, fun i x hi => by
    obtain ⟨a, e, k⟩ := h4 i x hi
    exact ⟨a, e, fun j u hu => c (k j u hu)⟩⟩
theorem OpsAt.below {w w' : World} {A : Option Addr} {l : List OpV} (h : OpsAt w A l) (hb : Below w.heap.size w w') : OpsAt w' A l := fun i o hi => by
  obtain ⟨a, e, k⟩ := h i o hi
  exact ⟨a, e, k.below (B := 0) hb⟩
end Go.Proofs.Ytbhibodgbgndbaa.B
