/- A map of identities (map[Id]bool, all true) as the list of its keys. No condition. -/
import Derived.Test.YtbhibodgbgndbaaH
namespace Go.Proofs.Ytbhibodgbgndbaa.B
open Go Go.RowKit Go.Proofs Go.Maps Go.MapKept Go.ChangeMaps Go.WideShapes Go.Proofs.YtbhibodgbgndbaaW.PrintWords Go.Proofs.YtbhibodgbgndbaaW.PrintLast Go.Proofs.YtbhibodgbgndbaaW.PrintMore
set_option linter.unusedVariables false
set_option linter.unusedSimpArgs false

/-- An identity: 32 bytes. -/
def Idok (x : List Int) : Prop := x.length = 32 ∧ ∀ z ∈ x, (Lit.int .u8 z).wf = true
open Classical in
noncomputable def kl (x : List Int) : Lit := if h : ∃ l, keyOf Try.prog 30 (idV x) = some l then h.choose else .bool false
theorem kl_key {x : List Int} (h : Idok x) : keyOf Try.prog 30 (idV x) = some (kl x) := by
  have he := key_of x h.1 h.2
  unfold kl
  rw [dif_pos he]
  exact he.choose_spec
theorem kl_inj {x y : List Int} (hx : Idok x) (hy : Idok y) : kl x = kl y ↔ x = y := ⟨fun e => by
    have h1 := kl_key hx
    have h2 := kl_key hy
    rw [← e] at h2
    have h3 := keyed30.inj h1 h2
    have hi : Function.Injective (Value.int .u8) := fun a b h => by cases h; rfl
    have h4 : x.map (Value.int .u8) = y.map (Value.int .u8) := by
      have h5 : (idV x).cells.toList = (idV y).cells.toList := by rw [h3]
      exact h5
    exact (List.map_inj_right hi).1 h4, fun e => by rw [e]⟩
theorem kl_is {x : List Int} (hx : Idok x) : WideAt.IsKeyLit (kl x) := keyed30.key (kl_key hx)
theorem zero4 (w : World) : (zeroValue 4).run Try.prog w = .ok (.bool false) w := by
  have h : (Try.prog.info? 4).bind (·.zero) = some (.bool false) := by kernel_rfl
  obtain ⟨i, h1, h2⟩ := Option.bind_eq_some_iff.1 h
  simp [zeroValue, typeInfo, h1, h2]
noncomputable abbrev RB : Value → Option (DataW Unit × List MemPlace) := plainElem Try.prog 4
theorem rb (x : Bool) : RB (.bool x) = some (.lit (.bool x), []) := plainElem_bool Try.underlying4 x
theorem rb_inv {v : Value} {b : Bool} {ps : List MemPlace} (h : plainElem (H := Unit) Try.prog 4 v = some (.lit (.bool b), ps)) : v = .bool b := by
  have hu := Try.underlying4
  revert h hu
  generalize Try.prog = P
  intro h hu
  unfold plainElem at h
  rw [hu] at h
  cases v <;> simp at h
  rw [h.1]

/-- The map's block holds these identities, each with true. -/
structure OutAt (w : World) (gm : Nat) (o : List (List Int)) : Prop where
  nodup : o.Nodup
  idok : ∀ x ∈ o, Idok x
  own : ∃ D : DataW Unit, w.ownsMap Try.prog 30 RB gm o.length D ∧ Maps.size D = o.length ∧ (∀ x, Idok x → Maps.has D (kl x) = decide (x ∈ o)) ∧ ∀ x ∈ o, ∀ z, D.atKey (kl x) z = .lit (.bool true)
theorem tight {w : World} {gm n : Nat} {D : DataW Unit} (h : w.ownsMap Try.prog 30 RB gm n D) : w.ownsMap Try.prog 30 RB gm (Maps.size D) D := by
  obtain ⟨es, clock, hb, F, hs, rfl⟩ := h
  exact ⟨es, clock, hb, F, by simp [Maps.size, length_sorted], rfl⟩
theorem OutAt.kept {w w' : World} {gm : Nat} {o : List (List Int)} (h : OutAt w gm o) (hb : w'.heap[gm]? = w.heap[gm]?) : OutAt w' gm o := by
  obtain ⟨D, ⟨es, clock, h0, r⟩, h2⟩ := h.own
  exact ⟨h.nodup, h.idok, D, ⟨es, clock, hb.trans h0, r⟩, h2⟩
theorem OutAt.lt {w : World} {gm : Nat} {o : List (List Int)} (h : OutAt w gm o) : gm < w.heap.size := by
  obtain ⟨D, h1, _⟩ := h.own; exact h1.lt
theorem OutAt.made (w : World) : OutAt (w.alloc (.map #[] 0)) w.heap.size [] := ⟨List.nodup_nil, by simp, .map [], World.ownsMap_made _ _ _ _, rfl, fun x _ => by simp [Maps.has], by simp⟩
theorem OutAt.look {w : World} {gm : Nat} {o : List (List Int)} (h : OutAt w gm o) {x : List Int} (hx : Idok x) : (Instr.lookup 78 (.map (some gm)) (idV x) false).run Try.prog w = .ok (.bool (decide (x ∈ o))) w := by
  obtain ⟨D, h1, h2, h3, h4⟩ := h.own
  obtain ⟨v, ps, hr, hv⟩ := h1.lookup keyed30 Try.underlying78 (zero4 w) (rb false) (kl_key hx)
  rw [hr]
  by_cases hm : x ∈ o
  · rw [h4 x hm] at hv
    rw [rb_inv hv, decide_eq_true hm]
  · have := h3 x hx
    rw [decide_eq_false hm] at this
    have e : D.atKey (kl x) (.lit (.bool false)) = .lit (.bool false) := atKey_of_not_has this _
    rw [e] at hv
    rw [rb_inv hv, decide_eq_false hm]
theorem OutAt.len {w : World} {gm : Nat} {o : List (List Int)} (h : OutAt w gm o) (ty : TypeId) : (Builtin.len_ #[78] ty #[.map (some gm)]).run Try.prog w = .ok (.int .i64 (o.length : Int)) w := by
  obtain ⟨D, h1, h2, _⟩ := h.own
  rw [h1.len Try.underlying78, h2]
/-- The list behind 'm[x] = true'. -/
def putO (x : List Int) (o : List (List Int)) : List (List Int) := if x ∈ o then o else x :: o
theorem OutAt.put {w : World} {gm : Nat} {o : List (List Int)} (h : OutAt w gm o) (hn : o.length ≤ 1000000) {x : List Int} (hx : Idok x) :
    ∃ w', (Instr.mapUpdate 78 (.map (some gm)) (idV x) (.bool true)).run Try.prog w = .ok () w' ∧ OutAt w' gm (putO x o) ∧ w.grownBy w' (some gm) := by
  obtain ⟨D, h1, h2, h3, h4⟩ := h.own
  obtain ⟨w', hr, h5, h6⟩ := h1.update keyed30 Try.underlying78 (by simp [maxLen]; omega) (kl_key hx) (rb true)
  refine ⟨w', hr, ?_, h6⟩
  have hsz := Maps.size_put (h1.tidy keyed30) (k := kl x) (.lit (.bool true))
  have hD := h1.isMap
  unfold putO
  by_cases hm : x ∈ o
  · rw [if_pos hm]
    rw [h3 x hx, decide_eq_true hm, if_pos rfl] at hsz
    refine ⟨h.nodup, h.idok, D.put (kl x) (.lit (.bool true)), ?_, hsz.trans h2, fun y hy => ?_, fun y hy z => ?_⟩
    · have := tight h5
      rw [hsz, h2] at this; exact this
    · by_cases he : y = x
      · subst he; rw [has_put_same hD (kl_is hx), decide_eq_true hm]
      · rw [has_put_other (fun e => he ((kl_inj hy hx).1 e)), h3 y hy]
    · by_cases he : y = x
      · subst he; exact atKey_put_same hD (kl_is hx) _ _
      · rw [atKey_put_other (fun e => he ((kl_inj (h.idok y hy) hx).1 e))]; exact h4 y hy z
  · rw [if_neg hm]
    rw [h3 x hx, decide_eq_false hm] at hsz
    simp only [Bool.false_eq_true, if_false] at hsz
    refine ⟨List.nodup_cons.2 ⟨hm, h.nodup⟩, fun y hy => ?_, D.put (kl x) (.lit (.bool true)), ?_, ?_, fun y hy => ?_, fun y hy z => ?_⟩
    · rcases List.mem_cons.1 hy with rfl | hy
      · exact hx
      · exact h.idok y hy
    · have := tight h5
      rw [hsz, h2] at this; exact this
    · rw [hsz, h2]; rfl
    · by_cases he : y = x
      · subst he; rw [has_put_same hD (kl_is hx)]; simp
      · rw [has_put_other (fun e => he ((kl_inj hy hx).1 e)), h3 y hy]; simp [he]
    · by_cases he : y = x
      · subst he; exact atKey_put_same hD (kl_is hx) _ _
      · have hy' : y ∈ o := by simpa [he] using hy
        rw [atKey_put_other (fun e => he ((kl_inj (h.idok y hy') hx).1 e))]; exact h4 y hy' z
theorem OutAt.del {w : World} {gm : Nat} {o : List (List Int)} (h : OutAt w gm o) {x : List Int} (hx : Idok x) (ty : TypeId) :
    ∃ w', (Builtin.delete_ #[78, 30] ty #[.map (some gm), idV x]).run Try.prog w = .ok (.tuple #[]) w' ∧ OutAt w' gm (o.erase x) ∧ w.grownBy w' (some gm) := by
  obtain ⟨D, h1, h2, h3, h4⟩ := h.own
  obtain ⟨w', hr, h5, h6⟩ := h1.drop keyed30 Try.underlying78 (kl_key hx) ty
  refine ⟨w', hr, ?_, h6.grown⟩
  have hsz := Maps.size_del (h1.tidy keyed30) (k := kl x)
  rw [h3 x hx, h2] at hsz
  have hs2 : Maps.size (D.del (kl x)) = (o.erase x).length := by
    rw [List.length_erase]
    by_cases hm : x ∈ o
    · rw [decide_eq_true hm] at hsz; simp at hsz
      rw [if_pos hm]; omega
    · rw [decide_eq_false hm] at hsz; simp at hsz
      rw [if_neg hm]; omega
  refine ⟨h.nodup.erase x, fun y hy => h.idok y (List.mem_of_mem_erase hy), D.del (kl x), ?_, hs2, fun y hy => ?_, fun y hy z => ?_⟩
  · have := tight h5
    rw [hs2] at this; exact this
  · by_cases he : y = x
    · subst he; rw [has_del_same]; simp [h.nodup.mem_erase_iff]
    · rw [has_del_other (fun e => he ((kl_inj hy hx).1 e)), h3 y hy]; simp [h.nodup.mem_erase_iff, he]
  · have := h.nodup.mem_erase_iff.1 hy
    rw [atKey_del_other (fun e => this.1 ((kl_inj (h.idok y this.2) hx).1 e))]; exact h4 y this.2 z
theorem OutAt.clr {w : World} {gm : Nat} {o : List (List Int)} (h : OutAt w gm o) (ty : TypeId) :
    ∃ w', (Builtin.clear_ #[78] ty #[.map (some gm)]).run Try.prog w = .ok (.tuple #[]) w' ∧ OutAt w' gm [] ∧ w.grownBy w' (some gm) := by
  obtain ⟨D, ⟨es, clock, hb, F, hs, rfl⟩, _⟩ := h.own
  refine ⟨setBlock w gm (.map #[] clock), ?_, ⟨List.nodup_nil, by simp, .map [], ⟨#[], clock, heap_setBlock_same hb _, ⟨by simp, stamped_empty clock, by simp⟩, Nat.le_refl _, rfl⟩, rfl, fun x _ => by simp [Maps.has], by simp⟩, ⟨rfl, rfl, rfl, by simp [setBlock], fun i _ hi => heap_setBlock_other hb _ (fun e => hi (by rw [e]))⟩⟩
  have hlt : gm < w.heap.size := (Array.getElem?_eq_some_iff.1 hb).1
  simp [Builtin.clear_, run_underlying Try.underlying78, MapKept.run_getObj_map hb, MapKept.run_setObj_map _ hb, Result.andThen, setBlock]
end Go.Proofs.Ytbhibodgbgndbaa.B
