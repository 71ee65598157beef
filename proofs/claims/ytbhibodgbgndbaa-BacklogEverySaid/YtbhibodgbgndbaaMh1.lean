/- Texts of this seat, joined: Ev Ew Ex Ez. No condition but those that each part names. -/
import Derived.Test.YtbhibodgbgndbaaMg9
/- The schedule of the law Every, plainly. No condition. -/
namespace Go.Proofs.Ytbhibodgbgndbaa.B
open Go Go.RowKit Go.Proofs
set_option linter.unusedVariables false
set_option linter.unusedSimpArgs false

/-- The identity of article k. -/
def idK (k : Nat) : List Int := idN ((k : Int) + 1)
theorem idK_inj {j k : Nat} (h : idK j = idK k) : j = k := by
  unfold idK idN at h; simp at h; omega
theorem idK_nz (k : Nat) : idK k ≠ zeroId := by
  unfold idK idN zeroId
  intro h
  have h2 := congrArg (fun l => l[0]?) h
  simp at h2
  omega
/-- A scan: what it adds, when it looks at all, when it stops. -/
theorem scanG_spec (cap now : Int) : ∀ (xs : List (List Int)) (es : List Ent) (n : Int),
    (∃ add : List Ent, (scanG cap now xs es n).1 = es ++ add ∧ ∀ e ∈ add, e.1 ∈ xs ∧ e.2.1 = now) ∧
    ((scanG cap now xs es n).2.2 = true → ∀ x ∈ xs, x = zeroId ∨ x ∈ (scanG cap now xs es n).1.map (·.1)) ∧
    ((scanG cap now xs es n).2.2 = false → cap ≤ ((scanG cap now xs es n).1.length : Int)) ∧
    ((es.map (·.1)).Nodup → ((scanG cap now xs es n).1.map (·.1)).Nodup)
  | [], es, n => by
    refine ⟨⟨[], by simp [scanG], by simp⟩, by simp, by simp [scanG], by simp [scanG]⟩
  | x :: xs, es, n => by
    rw [scanG]
    by_cases h1 : x = zeroId ∨ x ∈ es.map (·.1)
    · rw [if_pos h1]
      obtain ⟨⟨add, a1, a2⟩, b, c, d⟩ := scanG_spec cap now xs es n
      refine ⟨⟨add, a1, fun e he => ⟨List.mem_cons_of_mem _ (a2 e he).1, (a2 e he).2⟩⟩, fun h y hy => ?_, c, d⟩
      rcases List.mem_cons.1 hy with rfl | hy
      · rcases h1 with h1 | h1
        · exact .inl h1
        · refine .inr ?_
          rw [a1, List.map_append, List.mem_append]; exact .inl h1
      · exact b h y hy
    · rw [if_neg h1]
      by_cases h2 : cap ≤ (es.length : Int)
      · rw [if_pos h2]
        exact ⟨⟨[], by simp, by simp⟩, by simp, fun _ => h2, id⟩
      · rw [if_neg h2]
        obtain ⟨⟨add, a1, a2⟩, b, c, d⟩ := scanG_spec cap now xs (es ++ [(x, now, 0)]) (n + 1)
        refine ⟨⟨(x, now, 0) :: add, by rw [a1]; simp, fun e he => ?_⟩, fun h y hy => ?_, c, fun hn => d ?_⟩
        · rcases List.mem_cons.1 he with rfl | he
          · exact ⟨by simp, rfl⟩
          · exact ⟨List.mem_cons_of_mem _ (a2 e he).1, (a2 e he).2⟩
        · rcases List.mem_cons.1 hy with rfl | hy
          · refine .inr ?_
            rw [a1]; simp
          · exact b h y hy
        · rw [List.map_append]
          refine List.nodup_append.2 ⟨hn, by simp, ?_⟩
          rintro a ha b hb rfl
          simp at hb; subst hb
          exact h1 (.inr ha)
/-- What the schedule keeps: n articles, bit k: is article k put off once? off k: how often it was offered; D2: when what was put off is due at the latest. -/
structure E0 (n : Nat) (bit off : Nat → Nat) (now D2 : Int) (s : St) : Prop where
  out : s.out = []
  wait : s.wait = 4
  ent : ∀ e ∈ s.es, ∃ k, k < n ∧ e.1 = idK k ∧ ((off k = 0 ∧ e.2.1 ≤ now) ∨ (off k = 1 ∧ bit k = 1 ∧ e.2.1 ≤ D2))
  ids : ∀ k, k < n → off k = 1 + bit k ∨ idK k ∈ s.es.map (·.1) ∨ (off k = 0 ∧ s.missed = true)
  nod : (s.es.map (·.1)).Nodup
  le : ∀ k, k < n → off k ≤ 1 + bit k
theorem E0.mono {n : Nat} {bit off : Nat → Nat} {now now' D2 D2' : Int} {s : St} (h : E0 n bit off now D2 s) (h1 : now ≤ now') (h2 : D2 ≤ D2') : E0 n bit off now' D2' s :=
  ⟨h.out, h.wait, fun e he => by
    obtain ⟨k, k1, k2, k3⟩ := h.ent e he
    exact ⟨k, k1, k2, k3.imp (fun h => ⟨h.1, by omega⟩) (fun h => ⟨h.1, h.2.1, by omega⟩)⟩, h.ids, h.nod, h.le⟩
/-- What was not offered yet. -/
def restL (n : Nat) (off : Nat → Nat) : List (List Int) := ((List.range n).filter fun k => decide (off k = 0)).map idK
theorem mem_rest {n : Nat} {off : Nat → Nat} {x : List Int} : x ∈ restL n off ↔ ∃ k, k < n ∧ off k = 0 ∧ x = idK k := by
  unfold restL
  simp only [List.mem_map, List.mem_filter, List.mem_range, decide_eq_true_eq]
  exact ⟨fun ⟨k, h, e⟩ => ⟨k, h.1, h.2, e.symm⟩, fun ⟨k, h1, h2, e⟩ => ⟨k, ⟨h1, h2⟩, e.symm⟩⟩
theorem E0.scan {n : Nat} {bit off : Nat → Nat} {now D2 : Int} {s : St} (h : E0 n bit off now D2 s) (hc : 1 ≤ s.cap) (hm : minB now = true) :
    E0 n bit off now D2 (scanS s (restL n off) now).1 ∧ ((scanS s (restL n off) now).1.missed = true → (scanS s (restL n off) now).1.es ≠ []) := by
  unfold scanS
  rw [if_neg (by rw [hm]; decide)]
  obtain ⟨⟨add, a1, a2⟩, b, c, d⟩ := scanG_spec s.cap now (restL n off) s.es 0
  refine ⟨⟨h.out, h.wait, fun e he => ?_, fun k hk => ?_, d h.nod, h.le⟩, fun hmi => ?_⟩
  · have he' : e ∈ (scanG s.cap now (restL n off) s.es 0).1 := he
    rw [a1] at he'
    rcases List.mem_append.1 he' with he' | he'
    · exact h.ent e he'
    · obtain ⟨k, k1, k2, k3⟩ := mem_rest.1 (a2 e he').1
      exact ⟨k, k1, k3, .inl ⟨k2, by rw [(a2 e he').2]; exact Int.le_refl _⟩⟩
  · rcases h.ids k hk with h1 | h1 | h1
    · exact .inl h1
    · refine .inr (.inl ?_)
      show idK k ∈ (scanG s.cap now (restL n off) s.es 0).1.map (·.1)
      rw [a1, List.map_append, List.mem_append]; exact .inl h1
    · cases hq : (scanG s.cap now (restL n off) s.es 0).2.2 with
      | true =>
        rcases b hq (idK k) (mem_rest.2 ⟨k, hk, h1.1, rfl⟩) with h2 | h2
        · exact absurd h2 (idK_nz k)
        · exact .inr (.inl h2)
      | false => exact .inr (.inr ⟨h1.1, rfl⟩)
  · have hq : (scanG s.cap now (restL n off) s.es 0).2.2 = false := by simpa using hmi
    have := c hq
    intro h0
    have h0' : (scanG s.cap now (restL n off) s.es 0).1 = [] := h0
    rw [h0'] at this
    simp at this
    omega
/-- The offers' sum. -/
def tot (n : Nat) (off : Nat → Nat) : Nat := ((List.range n).map off).sum
theorem tot_le {off off' : Nat → Nat} : ∀ n, (∀ k, k < n → off k ≤ off' k) → tot n off ≤ tot n off'
  | 0, _ => by simp [tot]
  | n + 1, h => by
    have ih := tot_le n (fun k hk => h k (by omega))
    have := h n (by omega)
    simp only [tot, List.range_succ, List.map_append, List.map_cons, List.map_nil, List.sum_append, List.sum_cons, List.sum_nil] at ih ⊢
    omega
theorem tot_lt {off off' : Nat → Nat} : ∀ n, (∀ k, k < n → off k ≤ off' k) → (∃ k, k < n ∧ off k < off' k) → tot n off < tot n off'
  | 0, _, ⟨k, hk, _⟩ => by omega
  | n + 1, h, ⟨k, hk, hlt⟩ => by
    have hn := h n (by omega)
    by_cases hkn : k = n
    · subst hkn
      have ih := tot_le k (fun j hj => h j (by omega))
      simp only [tot, List.range_succ, List.map_append, List.map_cons, List.map_nil, List.sum_append, List.sum_cons, List.sum_nil] at ih ⊢
      omega
    · have ih := tot_lt n (fun j hj => h j (by omega)) ⟨k, by omega, hlt⟩
      simp only [tot, List.range_succ, List.map_append, List.map_cons, List.map_nil, List.sum_append, List.sum_cons, List.sum_nil] at ih ⊢
      omega
theorem tot_eq {off off' : Nat → Nat} (n : Nat) (h : ∀ k, k < n → off k ≤ off' k) (he : tot n off = tot n off') : ∀ k, k < n → off k = off' k := fun k hk => by
  by_cases hq : off k = off' k
  · exact hq
  · have := tot_lt n h ⟨k, hk, by have := h k hk; omega⟩
    omega
def bump (off : Nat → Nat) (k : Nat) : Nat → Nat := fun j => if j = k then off k + 1 else off j
theorem tot_bump (off : Nat → Nat) (k : Nat) : ∀ n, tot n (bump off k) = tot n off + if k < n then 1 else 0
  | 0 => by simp [tot]
  | n + 1 => by
    have ih := tot_bump off k n
    simp only [tot, List.range_succ, List.map_append, List.map_cons, List.map_nil, List.sum_append, List.sum_cons, List.sum_nil] at ih ⊢
    rw [ih]
    unfold bump
    by_cases h1 : n = k
    · subst h1; simp; omega
    · rw [if_neg h1]
      by_cases h2 : k < n
      · rw [if_pos h2, if_pos (by omega)]; omega
      · rw [if_neg h2, if_neg (show ¬ k < n + 1 by omega)]; simp only [Nat.add_zero]
theorem tot_need (n : Nat) (bit : Nat → Nat) (hb : ∀ k, bit k ≤ 1) : tot n (fun k => 1 + bit k) ≤ 2 * n := by
  induction n with
  | zero => simp [tot]
  | succ n ih =>
    have := hb n
    simp only [tot, List.range_succ, List.map_append, List.map_cons, List.map_nil, List.sum_append, List.sum_cons, List.sum_nil] at ih ⊢
    omega
/-- Cutting an entry out. -/
theorem cut_spec {es : List Ent} {x : List Int} (hn : (es.map (·.1)).Nodup) (hx : x ∈ es.map (·.1)) :
    (∀ e ∈ es.eraseIdx (idxOf es x).toNat, e ∈ es ∧ e.1 ≠ x) ∧ (∀ y, y ∈ es.map (·.1) → y ≠ x → y ∈ (es.eraseIdx (idxOf es x).toNat).map (·.1)) ∧ ((es.eraseIdx (idxOf es x).toNat).map (·.1)).Nodup ∧ x ∉ (es.eraseIdx (idxOf es x).toNat).map (·.1) := by
  obtain ⟨i, e, h1, h2, h3⟩ := idx_some x es 0 hx
  have h4 : (idxOf es x).toNat = i := by unfold idxOf; rw [h1]; simp
  rw [h4]
  obtain ⟨hi, hie⟩ := List.getElem?_eq_some_iff.1 h2
  have hm : (es.eraseIdx i).map (·.1) = (es.map (·.1)).eraseIdx i := by simp [List.eraseIdx_eq_take_drop_succ]
  have hxi : (es.map (·.1))[i]'(by simpa using hi) = x := by simp [hie, h3]
  have hno : x ∉ (es.eraseIdx i).map (·.1) := fun hxm => by
    rw [hm] at hxm
    obtain ⟨j, hj, hji, hjx⟩ := List.mem_eraseIdx_iff_getElem.1 hxm
    exact hji ((List.getElem_inj hn).1 (hjx.trans hxi.symm))
  refine ⟨fun e he => ⟨List.mem_of_mem_eraseIdx he, fun hq => hno (List.mem_map.2 ⟨e, he, hq⟩)⟩, fun y hy hyx => ?_, ?_, hno⟩
  · rw [hm]
    obtain ⟨j, hj, hjy⟩ := List.getElem_of_mem hy
    refine List.mem_eraseIdx_iff_getElem.2 ⟨j, hj, fun e => hyx ?_, hjy⟩
    subst e
    rw [← hjy]; exact hxi
  · rw [hm]; exact hn.sublist (List.eraseIdx_sublist _ _)
section
variable {n : Nat} {bit off : Nat → Nat} {now : Int} {s : St} {k : Nat}
theorem E0.off1 (h : E0 n bit off now (now + 4) s) (hin : idK k ∈ s.es.map (·.1)) : off k = 0 ∨ (off k = 1 ∧ bit k = 1) := by
  obtain ⟨e, he, hek⟩ := List.mem_map.1 hin
  obtain ⟨j, j1, j2, j3⟩ := h.ent e he
  have : j = k := idK_inj (j2.symm.trans hek)
  subst this
  exact j3.imp (fun h => h.1) (fun h => ⟨h.1, h.2.1⟩)
theorem E0.offer (h : E0 n bit off now (now + 4) s) (hin : idK k ∈ s.es.map (·.1)) : offS s (idK k) = ({ s with out := [idK k] }, 0) := by
  unfold offS findS
  rw [if_pos hin, h.out, if_pos (by simp)]
  simp [putO]
theorem E0.answer (h : E0 n bit off now (now + 4) s) (hb : ∀ k, bit k ≤ 1) (hk : k < n) (hin : idK k ∈ s.es.map (·.1)) (hno : ¬ (bit k = 1 ∧ off k + 1 = 1)) :
    (ansS { s with out := [idK k] } (idK k)).2 = 0 ∧ E0 n bit (bump off k) now (now + 4) (ansS { s with out := [idK k] } (idK k)).1 ∧ (ansS { s with out := [idK k] } (idK k)).1.missed = s.missed ∧
      ∀ j, j ≠ k → idK j ∈ s.es.map (·.1) → idK j ∈ (ansS { s with out := [idK k] } (idK k)).1.es.map (·.1) := by
  have hoff := h.off1 hin
  have hbk := hb k
  have e : ansS { s with out := [idK k] } (idK k) = ({ s with es := s.es.eraseIdx (idxOf s.es (idK k)).toNat, out := [] }, 0) := by
    unfold ansS findS
    rw [if_pos (show idK k ∈ ({ s with out := [idK k] } : St).es.map (·.1) from hin), if_pos (by simp)]
    simp [cutE]
  rw [e]
  obtain ⟨c1, c2, c3, c4⟩ := cut_spec h.nod hin
  refine ⟨rfl, ⟨rfl, h.wait, fun e he => ?_, fun j hj => ?_, c3, fun j hj => ?_⟩, rfl, fun j hj hji => c2 _ hji (fun e => hj (idK_inj e))⟩
  · obtain ⟨d1, d2⟩ := c1 e he
    obtain ⟨j, j1, j2, j3⟩ := h.ent e d1
    have hjk : j ≠ k := fun hq => d2 (by rw [j2, hq])
    refine ⟨j, j1, j2, ?_⟩
    unfold bump
    rw [if_neg hjk]; exact j3
  · by_cases hjk : j = k
    · subst hjk
      refine .inl ?_
      unfold bump
      rw [if_pos rfl]
      rcases hoff with h0 | ⟨h0, h1⟩
      · have : bit j ≠ 1 := fun hq => hno ⟨hq, by omega⟩
        omega
      · omega
    · unfold bump
      rw [if_neg hjk]
      rcases h.ids j hj with h1 | h1 | h1
      · exact .inl h1
      · exact .inr (.inl (c2 _ h1 (fun e => hjk (idK_inj e))))
      · exact .inr (.inr h1)
  · unfold bump
    have := h.le j hj
    by_cases hjk : j = k
    · subst hjk
      rw [if_pos rfl]
      rcases hoff with h0 | ⟨h0, h1⟩ <;> omega
    · rw [if_neg hjk]; exact this
theorem E0.later (h : E0 n bit off now (now + 4) s) (hk : k < n) (hin : idK k ∈ s.es.map (·.1)) (hyes : bit k = 1 ∧ off k + 1 = 1) (hm1 : minB now = true) (hm2 : minB (now + 4) = true) :
    (latS { s with out := [idK k] } (idK k) now).2 = 0 ∧ E0 n bit (bump off k) now (now + 4) (latS { s with out := [idK k] } (idK k) now).1 ∧ (latS { s with out := [idK k] } (idK k) now).1.missed = s.missed ∧
      ∀ j, j ≠ k → idK j ∈ s.es.map (·.1) → idK j ∈ (latS { s with out := [idK k] } (idK k) now).1.es.map (·.1) := by
  have hw := h.wait
  have e : ∃ t, latS { s with out := [idK k] } (idK k) now = ({ s with es := s.es.eraseIdx (idxOf s.es (idK k)).toNat ++ [(idK k, now + 4, t)], out := [] }, 0) := by
    unfold latS findS
    rw [if_neg (by show ¬ (minB now = false ∨ minB (now + s.wait) = false); rw [hw, hm1, hm2]; simp), if_pos (show idK k ∈ ({ s with out := [idK k] } : St).es.map (·.1) from hin), if_pos (by simp)]
    simp only [cutE, hw, List.erase_cons_head]
    exact ⟨_, rfl⟩
  obtain ⟨t, e⟩ := e
  rw [e]
  obtain ⟨c1, c2, c3, c4⟩ := cut_spec h.nod hin
  refine ⟨rfl, ⟨rfl, h.wait, fun e he => ?_, fun j hj => ?_, ?_, fun j hj => ?_⟩, rfl, fun j hj hji => ?_⟩
  · rcases List.mem_append.1 he with he | he
    · obtain ⟨d1, d2⟩ := c1 e he
      obtain ⟨j, j1, j2, j3⟩ := h.ent e d1
      have hjk : j ≠ k := fun hq => d2 (by rw [j2, hq])
      refine ⟨j, j1, j2, ?_⟩
      unfold bump
      rw [if_neg hjk]; exact j3
    · simp at he; subst he
      refine ⟨k, hk, rfl, .inr ⟨?_, hyes.1, Int.le_refl _⟩⟩
      unfold bump
      rw [if_pos rfl]; exact hyes.2
  · by_cases hjk : j = k
    · subst hjk
      exact .inr (.inl (by simp))
    · unfold bump
      rw [if_neg hjk]
      rcases h.ids j hj with h1 | h1 | h1
      · exact .inl h1
      · refine .inr (.inl ?_)
        show idK j ∈ (_ ++ _ : List Ent).map (·.1)
        rw [List.map_append, List.mem_append]
        exact .inl (c2 _ h1 (fun e => hjk (idK_inj e)))
      · exact .inr (.inr h1)
  · show ((_ ++ _ : List Ent).map (·.1)).Nodup
    rw [List.map_append]
    refine List.nodup_append.2 ⟨c3, by simp, ?_⟩
    rintro a ha b hb rfl
    simp at hb; subst hb
    exact c4 ha
  · unfold bump
    by_cases hjk : j = k
    · subst hjk
      rw [if_pos rfl]; omega
    · rw [if_neg hjk]; exact h.le j hj
  · show idK j ∈ (_ ++ _ : List Ent).map (·.1)
    rw [List.map_append, List.mem_append]
    exact .inl (c2 _ hji (fun e => hj (idK_inj e)))
end
/-- What is due is offered. -/
theorem next_sub (now most : Int) : ∀ (es : List Ent) (acc : List (List Int)), (es.map (·.1)).Nodup → acc.Nodup → (∀ x ∈ acc, x ∉ es.map (·.1)) → (nextG [] now most es acc).Nodup ∧ ∀ x ∈ nextG [] now most es acc, x ∈ acc ∨ x ∈ es.map (·.1)
  | [], acc, _, h, _ => ⟨h, fun x hx => .inl hx⟩
  | e :: es, acc, hn, ha, hd => by
    have hn' := (List.nodup_cons.1 hn)
    unfold nextG
    split
    · exact ⟨ha, fun x hx => .inl hx⟩
    split
    · obtain ⟨i1, i2⟩ := next_sub now most es (acc ++ [e.1]) hn'.2 (List.nodup_append.2 ⟨ha, by simp, by
        rintro a ha' b hb rfl
        simp at hb; subst hb
        exact hd _ ha' (by simp)⟩) (fun x hx => by
          rcases List.mem_append.1 hx with hx | hx
          · exact fun h => hd x hx (by rw [List.map_cons]; exact List.mem_cons_of_mem _ h)
          · simp at hx; subst hx; exact hn'.1)
      refine ⟨i1, fun x hx => ?_⟩
      rcases i2 x hx with h | h
      · rcases List.mem_append.1 h with h | h
        · exact .inl h
        · simp at h; subst h; exact .inr (by simp)
      · exact .inr (by rw [List.map_cons]; exact List.mem_cons_of_mem _ h)
    · obtain ⟨i1, i2⟩ := next_sub now most es acc hn'.2 ha (fun x hx h => hd x hx (by rw [List.map_cons]; exact List.mem_cons_of_mem _ h))
      exact ⟨i1, fun x hx => (i2 x hx).imp id (fun h => by rw [List.map_cons]; exact List.mem_cons_of_mem _ h)⟩
theorem next_grow (now most : Int) : ∀ (es : List Ent) (acc : List (List Int)), acc.length ≤ (nextG [] now most es acc).length
  | [], acc => Nat.le_refl _
  | e :: es, acc => by
    unfold nextG
    split
    · exact Nat.le_refl _
    split
    · have := next_grow now most es (acc ++ [e.1])
      simp at this; omega
    · exact next_grow now most es acc
theorem next_ne (now : Int) (es : List Ent) (h : es ≠ []) (hd : ∀ e ∈ es, e.2.1 ≤ now) : nextG [] now 3 es [] ≠ [] := by
  cases es with
  | nil => exact absurd rfl h
  | cons e es =>
    unfold nextG
    rw [if_neg (by simp), if_pos ⟨hd e (by simp), by simp⟩]
    have := next_grow now 3 es ([] ++ [e.1])
    intro h0
    rw [h0] at this
    simp at this
/-- What stands at the head of a minute; T: the last minute in which something was offered. -/
structure Ev (n : Nat) (bit off : Nat → Nat) (now T : Int) (s : St) : Prop where
  e : E0 n bit off now (T + 4) s
  t1 : T < now
  t2 : now ≤ T + 4 ∨ tot n off = tot n (fun k => 1 + bit k)
  t3 : T ≤ 4 * (tot n off : Int) - 4
  mi : s.missed = true → tot n off ≠ tot n (fun k => 1 + bit k) ∨ T = now - 1
theorem E0.few {n : Nat} {bit off : Nat → Nat} {now D2 : Int} {s : St} (h : E0 n bit off now D2 s) (hs : s.es ≠ []) : tot n off ≠ tot n (fun k => 1 + bit k) := by
  intro he
  cases hes : s.es with
  | nil => exact hs hes
  | cons e es =>
    obtain ⟨k, k1, k2, k3⟩ := h.ent e (by rw [hes]; simp)
    have := tot_eq n h.le he k k1
    rcases k3 with h3 | h3
    · omega
    · omega
theorem E0.some {n : Nat} {bit off : Nat → Nat} {now D2 : Int} {s : St} (h : E0 n bit off now D2 s) (hm : s.missed = true → s.es ≠ []) (ht : tot n off ≠ tot n (fun k => 1 + bit k)) : s.es ≠ [] := by
  intro hs
  apply ht
  have : ∀ k, k < n → off k = 1 + bit k := fun k hk => by
    rcases h.ids k hk with h1 | h1 | h1
    · exact h1
    · rw [hs] at h1; simp at h1
    · exact absurd hs (hm h1.2)
  unfold tot
  congr 1
  exact List.map_congr_left fun k hk => this k (List.mem_range.1 hk)
/-- The minute's end. -/
theorem Ev.none {n : Nat} {bit off : Nat → Nat} {now T : Int} {s : St} (h : E0 n bit off now (T + 4) s) (hm : s.missed = true → s.es ≠ []) (t1 : T < now) (t2 : now ≤ T + 4 ∨ tot n off = tot n (fun k => 1 + bit k)) (t3 : T ≤ 4 * (tot n off : Int) - 4)
    (hL : nextG [] now 3 s.es [] = []) : Ev n bit off (now + 1) T s := by
  refine ⟨h.mono (by omega) (Int.le_refl _), by omega, ?_, t3, fun hmi => .inl (h.few (hm hmi))⟩
  by_cases ht : tot n off = tot n (fun k => 1 + bit k)
  · exact .inr ht
  · refine .inl ?_
    rcases t2 with t2 | t2
    · by_cases hq : now = T + 4
      · exfalso
        refine next_ne now s.es (h.some hm ht) (fun e he => ?_) hL
        obtain ⟨k, _, _, k3⟩ := h.ent e he
        rcases k3 with k3 | k3
        · exact k3.2
        · omega
      · omega
    · exact absurd t2 ht
theorem Ev.some {n : Nat} {bit off off' : Nat → Nat} {now T : Int} {s s' : St} (h : E0 n bit off now (T + 4) s) (t2 : now ≤ T + 4 ∨ tot n off = tot n (fun k => 1 + bit k)) (t3 : T ≤ 4 * (tot n off : Int) - 4)
    (hs : s.es ≠ []) (h' : E0 n bit off' now (now + 4) s') (hlt : tot n off < tot n off') : Ev n bit off' (now + 1) now s' := by
  have hne := h.few hs
  refine ⟨h'.mono (by omega) (Int.le_refl _), by omega, .inl (by omega), ?_, fun _ => .inr (by omega)⟩
  rcases t2 with t2 | t2
  · omega
  · exact absurd t2 hne
/-- At the end all is done. -/
theorem Ev.fin {n : Nat} {bit off : Nat → Nat} {T : Int} {s : St} (h : Ev n bit off 500 T s) (hb : ∀ k, bit k ≤ 1) (hn : n ≤ 39) : (∀ k, k < n → off k = 1 + bit k) ∧ s.es = [] ∧ s.missed = false := by
  have h1 := tot_need n bit hb
  have h2 := tot_le n h.e.le
  have h3 := h.t3
  have ht : tot n off = tot n (fun k => 1 + bit k) := by
    rcases h.t2 with t2 | t2
    · omega
    · exact t2
  refine ⟨tot_eq n h.e.le ht, ?_, ?_⟩
  · apply Classical.byContradiction
    intro hs
    exact h.e.few hs ht
  · cases hm : s.missed with
    | false => rfl
    | true =>
      rcases h.mi hm with h4 | h4
      · exact absurd ht h4
      · omega
end Go.Proofs.Ytbhibodgbgndbaa.B
/- What the law Every keeps in memory. No condition. -/
namespace Go.Proofs.Ytbhibodgbgndbaa.B
open Go Go.RowKit Go.Proofs Go.Proofs.YtbhibodgbgndbaaW.PrintWords Go.Proofs.YtbhibodgbgndbaaW.PrintLast Go.Proofs.YtbhibodgbgndbaaW.PrintMore
set_option linter.unusedVariables false
set_option linter.unusedSimpArgs false
set_option maxRecDepth 100000
set_option maxHeartbeats 16000000

/-- Adding the articles: what stands behind i of them. -/
structure Ad (i : Nat) (s : St) : Prop where
  out : s.out = []
  wait : s.wait = 4
  ent : ∀ e ∈ s.es, ∃ k, k < i ∧ e.1 = idK k ∧ e.2.1 = 0
  ids : ∀ k, k < i → idK k ∈ s.es.map (·.1) ∨ s.missed = true
  nod : (s.es.map (·.1)).Nodup
  mi : s.missed = true → s.es ≠ []
theorem Ad.step {i : Nat} {s : St} (h : Ad i s) (hc : 1 ≤ s.cap) : Ad (i + 1) (addS s (idK i) 0).1 := by
  have hno : idK i ∉ s.es.map (·.1) := fun hm => by
    obtain ⟨e, he, hek⟩ := List.mem_map.1 hm
    obtain ⟨k, k1, k2, _⟩ := h.ent e he
    have := idK_inj (k2.symm.trans hek)
    omega
  unfold addS
  rw [if_neg (idK_nz i), if_neg (by decide), if_neg hno]
  by_cases hf : s.cap ≤ (s.es.length : Int)
  · rw [if_pos hf]
    refine ⟨h.out, h.wait, fun e he => ?_, fun k hk => .inr rfl, h.nod, fun _ h0 => ?_⟩
    · obtain ⟨k, k1, k2⟩ := h.ent e he
      exact ⟨k, by omega, k2⟩
    · have h0' : s.es = [] := h0
      rw [h0'] at hf; simp at hf; omega
  · rw [if_neg hf]
    refine ⟨h.out, h.wait, fun e he => ?_, fun k hk => ?_, ?_, fun _ => by simp⟩
    · rcases List.mem_append.1 he with he | he
      · obtain ⟨k, k1, k2⟩ := h.ent e he
        exact ⟨k, by omega, k2⟩
      · simp at he; subst he
        exact ⟨i, by omega, rfl, rfl⟩
    · by_cases hki : k = i
      · subst hki; exact .inl (by simp)
      · rcases h.ids k (by omega) with h1 | h1
        · refine .inl ?_
          show idK k ∈ (_ ++ _ : List Ent).map (·.1)
          rw [List.map_append, List.mem_append]; exact .inl h1
        · exact .inr h1
    · show ((_ ++ _ : List Ent).map (·.1)).Nodup
      rw [List.map_append]
      refine List.nodup_append.2 ⟨h.nod, by simp, ?_⟩
      rintro a ha b hb rfl
      simp at hb; subst hb
      exact hno ha
theorem add_cap (s : St) (x : List Int) (d : Int) : (addS s x d).1.cap = s.cap := by
  unfold addS; repeat' (first | rfl | split)
theorem Ad.ev {n : Nat} {s : St} (h : Ad n s) (bit : Nat → Nat) : Ev n bit (fun _ => 0) 0 (-4) s := by
  have e : E0 n bit (fun _ => 0) 0 ((-4 : Int) + 4) s := ⟨h.out, h.wait, fun e he => by
    obtain ⟨k, k1, k2, k3⟩ := h.ent e he
    exact ⟨k, k1, k2, .inl ⟨rfl, by omega⟩⟩, fun k hk => (h.ids k hk).elim (fun h => .inr (.inl h)) (fun h => .inr (.inr ⟨rfl, h⟩)), h.nod, fun k _ => by omega⟩
  exact ⟨e, by omega, .inl (by omega), by omega, fun hm => .inl (e.few (h.mi hm))⟩

theorem bit_and (a2 : Int) (h0 : 0 ≤ a2) (h1 : a2 ≤ 18446744073709551615) (k : Nat) : bits BinOp.and IntKind.u64 (a2 / 2 ^ k) 1 = ((a2.toNat / 2 ^ k % 2 : Nat) : Int) := by
  obtain ⟨a, rfl⟩ := Int.eq_ofNat_of_zero_le h0
  have e : ((a : Int) / 2 ^ k) = ((a / 2 ^ k : Nat) : Int) := by simp
  have hle : a / 2 ^ k ≤ a := Nat.div_le_self _ _
  rw [e, Int.toNat_natCast]
  generalize a / 2 ^ k = q at hle
  have h := bits_mask .u64 64 (by decide) (fun n hn hn2 => IntWalk.u64_in n ⟨hn, by omega⟩) 1 (by decide) (q : Int) (by omega) (by omega)
  have h2 : ((2 : Int) ^ 1 - 1) = 1 := by decide
  rw [h2] at h
  rw [h]
  omega
theorem ans_cap (s : St) (x : List Int) : (ansS s x).1.cap = s.cap := by
  unfold ansS cutE; repeat' (first | rfl | split)
theorem lat_cap (s : St) (x : List Int) (now : Int) : (latS s x now).1.cap = s.cap := by
  unfold latS cutE; repeat' (first | rfl | split)
/-- The counts' cells. -/
def offC (n : Nat) (off : Nat → Nat) : Array Value := ((List.range n).map fun k => Value.int .i64 (off k : Int)).toArray
theorem info3f : (Try.prog.info? 3).map (fun i => (i.zero, i.size, i.bytes)) = some (some (.int .i64 0), 1, 8) := by kernel_rfl
theorem run_mk (n : Nat) (hn : n ≤ 1000) (W : World) : (Instr.makeSlice 43 (.int .i64 (n : Int)) (.int .i64 (n : Int))).run Try.prog W = .ok (.slice (some ⟨W.heap.size, 0, none⟩) n n) (W.alloc (.cells (offC n (fun _ => 0)) 3)) := by
  obtain ⟨i0, hi, hz0, hz1, hz2⟩ := info_parts info3f
  have h := run_make (P := Try.prog) W 43 3 i0 (.int .i64 0) Try.underlying43 hi hz0 .i64 .i64 (n : Int) (n : Int) (by omega) (by omega) (by rw [hz2]; omega) (by omega)
  rw [h, hz1, Int.toNat_natCast, Nat.mul_one]
  congr 4
  simp only [madeCells, offC]
  apply Array.ext_getElem?
  intro j
  by_cases hj : j < n
  · simp [hj, Value.cells]
    have : j % 1 = 0 := by omega
    simp [this]
  · simp [hj]
/-- What the law keeps in memory. -/
structure EvM (w W : World) (g gm bo n : Nat) (vI : Value) (F : Nat → Prop) (s : St) (off : Nat → Nat) : Prop where
  bl : BL W F g gm s
  typ : Typ W F
  on : On w.heap.size w W F
  offs : W.heap[bo]? = some (.cells (offC n off) 3 (0, 0))
  bo : w.heap.size ≤ bo
  ids : W.ownsRow w.heap.size 30 32 vI n (idsL ((List.range n).map idK))
section
variable {w W W' : World} {g gm bo n : Nat} {vI : Value} {F : Nat → Prop} {s s' : St} {off : Nat → Nat}
theorem EvM.read (h : EvM w W g gm bo n vI F s off) (hb : Below W.heap.size W W') : EvM w W' g gm bo n vI F s off :=
  ⟨h.bl.below hb, fun k hk => by
    obtain ⟨o, ho, hc⟩ := h.typ k hk
    exact ⟨o, (hb.block k (h.bl.lt k hk)).trans ho, hc⟩, h.on.read hb, (hb.block bo (Array.getElem?_eq_some_iff.1 h.offs).1).trans h.offs, h.bo, own_below h.ids hb⟩
theorem EvM.call (h : EvM w W g gm bo n vI F s off) (ha : After F g gm W W' s') : ∃ F', EvM w W' g gm bo n vI F' s' off := by
  have hd : Dp W F W F g gm s := ⟨h.bl, h.typ, fun k hk => .inl hk, .refl _ _⟩
  have h1 := hd.keep ha h.offs (by decide) (by decide)
  have h2 := hd.own ha h.ids (by decide) (by decide)
  obtain ⟨F', hd'⟩ := hd.call ha
  exact ⟨F', hd'.bl, hd'.typ, h.on.step hd'.sub hd'.upd, h1, h.bo, h2⟩
theorem EvM.own (h : EvM w W g gm bo n vI F s off) (ha : After F g gm W W' s') {b k sz : Nat} {e : TypeId} {v : Value} {xs : List Value} (ho : W.ownsRow b e sz v k xs) (h1 : e ≠ 80) (h2 : e ≠ 59) : W'.ownsRow b e sz v k xs :=
  (show Dp W F W F g gm s from ⟨h.bl, h.typ, fun k hk => .inl hk, .refl _ _⟩).own ha ho h1 h2
theorem EvM.cell (h : EvM w W g gm bo n vI F s off) {k : Nat} (hk : k < n) : W.cell? ⟨bo, k, none⟩ = some (.int .i64 (off k : Int)) ∧ W.frozen? ⟨bo, k, none⟩ = false := by
  refine ⟨?_, blk_frozen h.offs k⟩
  rw [cell_of_row W bo k _ 3 (0, 0) h.offs]
  simp [offC, hk]
theorem EvM.row {A : Option Addr} {c : Nat} (h : EvM w W g gm bo n (.slice A n c) F s off) {k : Nat} (hk : k < n) : ∃ g9, A = some ⟨g9, 0, none⟩ ∧ W.rangeAt g9 (k * 32) ((idN ((k : Int) + 1)).map (Value.int .u8)) := by
  have hl : ((List.range n).map idK).length = n := by simp
  have h1 : W.ownsRow w.heap.size 30 32 (.slice A n c) ((List.range n).map idK).length (idsL ((List.range n).map idK)) := by rw [hl]; exact h.ids
  obtain ⟨A', g9, c', e, hA, hE⟩ := ids_of_own (fun x hx => by obtain ⟨k, _, rfl⟩ := List.mem_map.1 hx; exact idN_len _) h1
  have h2 := hA (by rw [hl]; omega)
  simp only [Value.slice.injEq] at e
  exact ⟨g9, e.1.trans h2, hE k (idK k) (by simp [hk])⟩
theorem EvM.store (h : EvM w W g gm bo n vI F s off) {k : Nat} (hk : k < n) : EvM w (W.setCell ⟨bo, k, none⟩ (.int .i64 ((off k : Int) + 1))) g gm bo n vI F s (bump off k) := by
  have hF : ∀ j, F j → j ≠ bo := fun j hj e => h.typ.no (e ▸ h.offs) (by decide) (by decide) hj
  have hI : ∀ j, vI.ownBlock = some j → j ≠ bo := fun j hj e => by
    subst e
    rcases h.ids.2 with ⟨rfl, _⟩ | ⟨g', cap, cur, rfl, _, hg, _⟩
    · simp [Value.ownBlock] at hj
    · simp [Value.ownBlock] at hj; subst hj
      rw [h.offs] at hg; cases hg
  refine ⟨h.bl.kept (fun j hj => Below.heap_setCell _ _ _ _ (hF j hj)), fun j hj => ?_, ⟨h.on.below.setCell (p := ⟨bo, k, none⟩) h.bo _, h.on.own, by simpa [World.setCell] using h.on.size⟩, ?_, h.bo, own_kept h.ids (fun j hj => Below.heap_setCell _ _ _ _ (hI j hj))⟩
  · rw [Below.heap_setCell _ _ _ _ (hF j hj)]; exact h.typ j hj
  · simp only [World.setCell, Array.getElem?_modify, if_pos, h.offs, Option.map_some, Option.some.injEq, Obj.cells.injEq, and_true]
    simp only [offC]
    apply Array.ext_getElem?
    intro j
    simp only [Option.isSome_none, Bool.false_eq_true, if_false, Array.getElem?_setIfInBounds, List.getElem?_toArray, List.getElem?_map, List.size_toArray, List.length_map, List.length_range]
    unfold bump
    by_cases hjk : k = j
    · subst hjk
      simp [hk]
    · rw [if_neg hjk]
      by_cases hj : j < n
      · simp [hj]
        rw [if_neg (fun e => hjk e.symm)]
      · simp [hj]
theorem EvM.storeOwn (h : EvM w W g gm bo n vI F s off) {b m : Nat} {v : Value} {xs : List Value} (ho : W.ownsRow b 30 32 v m xs) (k : Nat) (u : Value) : (W.setCell ⟨bo, k, none⟩ u).ownsRow b 30 32 v m xs := own_kept ho (fun j hj => Below.heap_setCell _ _ _ _ (fun e => by
  have e' : j = bo := e
  subst e'
  rcases ho.2 with ⟨rfl, _⟩ | ⟨g', cap, cur, rfl, _, hg, _⟩
  · simp [Value.ownBlock] at hj
  · simp [Value.ownBlock] at hj; subst hj
    rw [h.offs] at hg; cases hg))
theorem row_of {b : Nat} {A : Option Addr} {c : Nat} {L : List (List Int)} (hok : ∀ y ∈ L, y.length = 32) (ho : W.ownsRow b 30 32 (.slice A L.length c) L.length (idsL L)) {j : Nat} {x : List Int} (hx : L[j]? = some x) : ∃ g8, A = some ⟨g8, 0, none⟩ ∧ W.rangeAt g8 (j * 32) (x.map (Value.int .u8)) := by
  obtain ⟨A', g8, c', e, hA, hE⟩ := ids_of_own hok ho
  simp only [Value.slice.injEq] at e
  have hj := (List.getElem?_eq_some_iff.1 hx).1
  exact ⟨g8, e.1.trans (hA (by omega)), hE j x hx⟩
end
/-- The backlog beside a row of the call's own. -/
structure Bt (w W : World) (g gm : Nat) (F : Nat → Prop) (s : St) : Prop where
  bl : BL W F g gm s
  typ : Typ W F
  on : On w.heap.size w W F
section
variable {w W W' : World} {g gm : Nat} {F : Nat → Prop} {s s' : St}
theorem Bt.read (h : Bt w W g gm F s) (hb : Below W.heap.size W W') : Bt w W' g gm F s :=
  ⟨h.bl.below hb, fun k hk => by
    obtain ⟨o, ho, hc⟩ := h.typ k hk
    exact ⟨o, (hb.block k (h.bl.lt k hk)).trans ho, hc⟩, h.on.read hb⟩
theorem Bt.call (h : Bt w W g gm F s) (ha : After F g gm W W' s') : ∃ F', Bt w W' g gm F' s' := by
  have hd : Dp W F W F g gm s := ⟨h.bl, h.typ, fun k hk => .inl hk, .refl _ _⟩
  obtain ⟨F', hd'⟩ := hd.call ha
  exact ⟨F', hd'.bl, hd'.typ, h.on.step hd'.sub hd'.upd⟩
theorem Bt.own (h : Bt w W g gm F s) (ha : After F g gm W W' s') {b k sz : Nat} {e : TypeId} {v : Value} {xs : List Value} (ho : W.ownsRow b e sz v k xs) (h1 : e ≠ 80) (h2 : e ≠ 59) : W'.ownsRow b e sz v k xs :=
  (show Dp W F W F g gm s from ⟨h.bl, h.typ, fun k hk => .inl hk, .refl _ _⟩).own ha ho h1 h2
/-- Behind an append onto a row of identities. -/
theorem Bt.grow (h : Bt w W g gm F s) {B sz k : Nat} {v : Value} {xs : List Value} {o : Obj} (ho : W.ownsRow B 30 sz v k xs) (hB : w.heap.size ≤ B) (hg : (W.alloc o).grownBy W' v.ownBlock) : Bt w W' g gm F s := by
  have hne : ∀ j, F j → some j ≠ v.ownBlock := fun j hj e => by
    rcases ho.2 with ⟨rfl, _⟩ | ⟨g', cap, cur, rfl, _, hg', _⟩
    · simp [Value.ownBlock] at e
    · simp [Value.ownBlock] at e; subst e
      exact h.typ.no hg' (by decide) (by decide) hj
  have hk : ∀ j, F j → W'.heap[j]? = W.heap[j]? := fun j hj =>
    (hg.block j (by have := h.bl.lt j hj; simp; omega) (hne j hj)).trans (Below.heap_alloc W o j (h.bl.lt j hj))
  refine ⟨h.bl.kept hk, fun j hj => by rw [hk j hj]; exact h.typ j hj, ⟨(below_alloc h.on.below _).grown hg (by have := h.on.size; simp; omega) (fun j hj => Nat.le_trans hB (ho.lt j hj).1), h.on.own, ?_⟩⟩
  have := hg.size
  have := h.on.size
  simp at *
  omega
end
end Go.Proofs.Ytbhibodgbgndbaa.B
/- The law Every, walked. No condition. -/
namespace Go.Proofs.Ytbhibodgbgndbaa.B
open Go Go.RowKit Go.Proofs Go.Proofs.YtbhibodgbgndbaaW.PrintWords Go.Proofs.YtbhibodgbgndbaaW.PrintLast Go.Proofs.YtbhibodgbgndbaaW.PrintMore
set_option linter.unusedVariables false
set_option linter.unusedSimpArgs false
set_option maxRecDepth 100000
set_option maxHeartbeats 16000000
attribute [local go_sem ↓] execOp_ld30

theorem every_law (a0 a1 a2 : Int) (h0 : 0 ≤ a0 ∧ a0 ≤ 255) (h1 : 0 ≤ a1 ∧ a1 ≤ 255) (h2 : 0 ≤ a2 ∧ a2 ≤ 18446744073709551615) (w : World) :
    Calls Try.prog 5 #[.int .u8 a0, .int .u8 a1, .int .u64 a2] w fun e w' => e = .returned (.bool true) ∧ Below w.heap.size w w' := by
  obtain ⟨cap, hcap⟩ : ∃ c : Int, c = 1 + a0 % 8 := ⟨_, rfl⟩
  obtain ⟨n, hn⟩ : ∃ n : Nat, (n : Int) = a1 % 40 := ⟨(a1 % 40).toNat, by omega⟩
  have hc1 : 1 ≤ cap := by omega
  have hc2 : cap ≤ 8 := by omega
  have hn1 : n ≤ 39 := by omega
  obtain ⟨h0a, h0b⟩ := h0
  obtain ⟨h1a, h1b⟩ := h1
  have HC := Aside0.mk (And.intro hcap hn)
  clear hcap hn
  go_enter Try.func5, Try.ntmps5
  go_wp2_with (first
    | (go_at_call 10; refine (known_is _).mono ?_; rintro e_ w0 ⟨rfl, hb0⟩)
    | (go_at_call 12; rw [← HC.out.1]; refine (newS cap 4 hc1 (by omega) (by omega) (by omega) _).mono ?_; rintro e_ w1 ⟨g, gm, rfl, hb1, HB1, hq1, hq2⟩))
  obtain ⟨i0, z0, hi0, hz0, hs0, hb0', hzc0⟩ := info30r
  have HI := Aside0.mk (And.intro hi0 (And.intro hz0 (And.intro hs0 (And.intro hb0' hzc0))))
  have HA0 : ∃ F, Aside0 (Bt w w1 g gm F ⟨cap, 4, false, [], []⟩) := by
    obtain ⟨F, f1, f2, f3⟩ := HB1.typ
    exact ⟨F, ⟨f2, f3, hb0.trans (hb1.mono hb0.size), fun k hk => by
      have := hb0.size
      rcases f1 k hk with rfl | rfl <;> omega, Nat.le_trans hb0.size hb1.size⟩⟩
  obtain ⟨F0, HA0⟩ := HA0
  clear hb0 hb1 HB1 hq1 hq2 hi0 hz0 hs0 hb0' hzc0
  go_loopw [9, 10] (fun p9 p10 wr => ∃ (i : Nat) (F : Nat → Prop) (s : St), p10 = .int .i64 i ∧ Aside0 (i ≤ n ∧ Ad i s ∧ s.cap = cap) ∧ Aside0 (Bt w wr g gm F s) ∧ Aside0 (wr.ownsRow w.heap.size 30 32 p9 ((List.range i).map idK).length (idsL ((List.range i).map idK))))
    (fun _ p10 _ => n - (intOf p10).toNat)
  case atStart => exact ⟨0, F0, _, rfl, ⟨Nat.zero_le _, ⟨rfl, rfl, by simp, by simp, by simp, by simp⟩, rfl⟩, HA0, ⟨World.ownsRow_nil _ _ _ _⟩⟩
  case round =>
    obtain ⟨i, F, s, rfl, HD, HB, HO⟩ := hrel
    clear HA0
    obtain ⟨A9, c9, hv9⟩ := own_slice HO.out
    subst hv9
    have hl9 : ((List.range i).map idK).length = i := by simp
    by_cases hi : i < n
    · have d1 : decide ((i : Int) < a1 % 40) = true := decide_eq_true (by have := HC.out.2; omega)
      have p3 := wrap_i64 ((i : Int) + 1) (by omega) (by omega)
      have p4 : IntKind.wrap .u8 ((i : Int) + 1) = (i : Int) + 1 := by have e8 : IntKind.u8.bits = 8 := rfl; simp [IntKind.wrap, e8]; omega
      have HXL : Aside0 ((idN ((i : Int) + 1)).length = 32) := ⟨idN_len _⟩
      have hsn : (List.range (i + 1)).map idK = (List.range i).map idK ++ [idK i] := by rw [List.range_succ, List.map_append]; rfl
      have HSN := Aside0.mk hsn
      have hok : ∀ x ∈ (List.range (i + 1)).map idK, x.length = 32 := fun x hx => by
        obtain ⟨k, _, rfl⟩ := List.mem_map.1 hx
        exact idN_len _
      have HOK := Aside0.mk hok
      clear hsn hok
      generalize hLL : (List.range i).map idK = LL at HO HSN hl9 ⊢
      have HL9 := Aside0.mk (And.intro hl9 hLL)
      have p5 : (i : Int) < (LL.length : Int) + 1 := by omega
      have p6 : (0 : Int) ≤ (i : Int) := by omega
      have p7 : i < LL.length + 1 := by omega
      clear hl9 hLL
      go_wp2_with (at_builtin; refine wpList_append_lies _ rfl (.tmp 39) (.tmp 44) 40 rfl w.heap.size 30 i0 z0 32 32 Try.underlying40 HI.out.1 HI.out.2.1 HI.out.2.2.1 HI.out.2.2.2.1 HI.out.2.2.2.2 (by omega) _ LL.length (idsL LL) rfl ?qo ⟨wr.heap.size, 0, none⟩ 1 1 ((idN ((i : Int) + 1)).map (Value.int .u8)) rfl ?ql ?qn (id_one _) (by omega) ?q6 ?q3 ?qb _ rfl ?_)
      case qo => exact own_below HO.out (below_alloc (Below.refl _ _) _)
      case ql => rw [List.length_map, HXL.out]
      case qn => exact fun j u hu => World.news_of_block (heap_alloc_new wr (.cells ((idN ((i : Int) + 1)).map (Value.int .u8)).toArray 30)) j u hu
      case q6 => exact m63 (by have := HL9.out.1; omega)
      case q3 => exact m32 (by have := HL9.out.1; omega)
      case qb => have := HB.out.on.size; simp; omega
      intro g' cap1 w3 hown hgrow hat hlt3
      have hown2 : w3.ownsRow w.heap.size 30 32 (.slice (some ⟨g', 0, none⟩) (LL.length + 1) cap1) ((List.range (i + 1)).map idK).length (idsL ((List.range (i + 1)).map idK)) := by
        rw [HSN.out, List.length_append, idsL_append]; exact hown
      have HB3 := Aside0.mk (HB.out.grow HO.out (Nat.le_refl _) hgrow)
      obtain ⟨A3, g3, c3, e3, hA3, hE3⟩ := ids_of_own HOK.out hown2
      have hlr : ((List.range (i + 1)).map idK).length = LL.length + 1 := by rw [HSN.out]; simp
      have e4 : A3 = some ⟨g3, 0, none⟩ := hA3 (by rw [hlr]; omega)
      subst e4
      simp only [Value.slice.injEq] at e3
      obtain rfl : g' = g3 := by simpa using e3.1
      clear e3
      have hld : (ld30 (.pointer (some ⟨g', i * 32, none⟩))).run Try.prog w3 = .ok (.agg ((idN ((i : Int) + 1)).map (Value.int .u8)).toArray) w3 :=
        run_loadAt_mid w3 g' (i * 32) 30 _ _ (hE3 i (idK i) (by simp)) Try.underlying30 rfl (by rw [List.length_map, idN_len]; exact info30)
      have HO3 := Aside0.mk hown2
      have AD := Aside0.mk (show Calls Try.prog 13 #[.pointer (some ⟨g, 0, none⟩), .agg ((idN ((i : Int) + 1)).map (Value.int .u8)).toArray, .int .i64 0] w3 fun e w' => e = .returned (.int .i64 (addS s (idK i) 0).2) ∧ After F g gm w3 w' (addS s (idK i) 0).1 from
        add_is HB3.out.bl (idN_ok _ (by simp [Lit.wf]; have e1 : IntKind.u8.min = 0 := rfl; have e2 : IntKind.u8.max = 255 := rfl; omega)) 0)
      clear hown hown2 hgrow hat hlt3 hA3 hE3
      go_wp2_with (first | (go_at_call 13; refine AD.out.mono ?_; rintro e_ w4 ⟨rfl, ha4⟩; obtain ⟨F4, B4⟩ := HB3.out.call ha4; have HO4 := Aside0.mk (HB3.out.own ha4 HO3.out (by decide) (by decide)); have HB4 := Aside0.mk B4; clear ha4 B4))
      go_roundw
      case rel => exact ⟨i + 1, F4, _, by go_num, ⟨by omega, HD.out.2.1.step (by rw [HD.out.2.2]; exact hc1), (add_cap _ _ _).trans HD.out.2.2⟩, HB4, ⟨hlr ▸ HO4.out⟩⟩
      case measure => simp [intOf]; omega
    · have hin : i = n := by have := HD.out.1; omega
      subst hin
      have d1 : decide ((i : Int) < a1 % 40) = false := decide_eq_false (by have := HC.out.2; omega)
      have HO2 : Aside0 (wr.ownsRow w.heap.size 30 32 (.slice A9 i c9) i (idsL ((List.range i).map idK))) := ⟨by have := HO.out; rwa [hl9] at this⟩
      rw [hl9]
      have hmk := run_mk i (by omega)
      have HEM : Aside0 (EvM w (wr.alloc (.cells (offC i (fun _ => 0)) 3)) g gm wr.heap.size i (.slice A9 i c9) F s (fun _ => 0)) := ⟨by
        have h1 := HB.out.read (below_alloc (Below.refl _ _) (.cells (offC i (fun _ => 0)) 3))
        exact ⟨h1.bl, h1.typ, h1.on, heap_alloc_last wr _, HB.out.on.size, HO2.out.alloc _⟩⟩
      have hbit : ∃ bit : Nat → Nat, (∀ k, bit k = a2.toNat / 2 ^ k % 2) := ⟨_, fun _ => rfl⟩
      obtain ⟨bit, hbit⟩ := hbit
      have HBIT := Aside0.mk (And.intro hbit (show ∀ k, bit k ≤ 1 from fun k => by rw [hbit]; omega))
      have HEV := Aside0.mk (HD.out.2.1.ev bit)
      have HCAP := Aside0.mk HD.out.2.2
      clear hbit hl9 HO HB HD HO2
      go_wp2
      generalize wr.heap.size = bo at HEM ⊢
      go_loopw [12] (fun p12 wr => ∃ (now : Nat) (T : Int) (off : Nat → Nat) (F : Nat → Prop) (s : St), p12 = .int .i64 now ∧ Aside0 (now ≤ 500) ∧ Aside0 (Ev i bit off now T s ∧ s.cap = cap) ∧ Aside0 (EvM w wr g gm bo i (.slice A9 i c9) F s off)) (fun p12 _ => 500 - (intOf p12).toNat)
      case atStart => exact ⟨0, -4, _, F, s, rfl, ⟨by omega⟩, ⟨HEV.out, HCAP.out⟩, HEM⟩
      case round =>
        obtain ⟨now, T, off, F, s, rfl, HN, HE, HM⟩ := hrel
        obtain ⟨wo, rfl⟩ : ∃ wo : World, wo = wr := ⟨_, rfl⟩
        clear HEV HCAP HEM hmk
        by_cases hlt : now < 500
        · have hd : decide ((now : Int) < 500) = true := decide_eq_true (by omega)
          have p3 := wrap_i64 ((now : Int) + 1) (by omega) (by omega)
          have hm1 : minB (now : Int) = true := by simp [minB]; omega
          have hm2 : minB ((now : Int) + 4) = true := by simp [minB]; omega
          have HMI := Aside0.mk (And.intro hm1 hm2)
          clear hm1 hm2
          cases hmi : s.missed with
          | true =>
            have HSM := Aside0.mk hmi
            clear hmi
            go_wp2_with (first | (go_at_call 15; refine (missedS HM.out.bl).mono ?_; rintro e_ w5 ⟨rfl, hq⟩; subst w5; rw [HSM.out]))
            go_loopw [13, 14] (fun p13 p14 wr => ∃ j : Nat, p14 = .int .i64 j ∧ Aside0 (j ≤ i) ∧ Aside0 (Below wo.heap.size wo wr) ∧ Aside0 (wr.ownsRow wo.heap.size 30 32 p13 (restL j off).length (idsL (restL j off))))
              (fun _ p14 _ => i - (intOf p14).toNat)
            case atStart => exact ⟨0, rfl, ⟨Nat.zero_le _⟩, ⟨Below.refl _ _⟩, ⟨World.ownsRow_nil _ _ _ _⟩⟩
            case round =>
              obtain ⟨j, rfl, HJ, HB2, HO2⟩ := hrel
              have HM2 := Aside0.mk (HM.out.read HB2.out)
              obtain ⟨A13, c13, hv13⟩ := own_slice HO2.out
              subst hv13
              by_cases hj : j < i
              · have p4 := wrap_i64 ((j : Int) + 1) (by omega) (by omega)
                have dj : decide ((j : Int) < (i : Int)) = true := decide_eq_true (by omega)
                have p5 : (0 : Int) ≤ (j : Int) := by omega
                have p6 : (j : Int) < (i : Int) := by omega
                obtain ⟨hcj, hfj⟩ := HM2.out.cell hj
                by_cases ho : off j = 0
                · have hor : restL (j + 1) off = restL j off ++ [idK j] := by unfold restL; rw [List.range_succ, List.filter_append]; simp [ho]
                  rw [ho] at hcj
                  have hrl : (restL j off).length ≤ j := by unfold restL; rw [List.length_map]; exact Nat.le_trans (List.length_filter_le _ _) (by simp)
                  obtain ⟨g9, e4, hE9⟩ := HM2.out.row hj
                  subst e4
                  have hld : (ld30 (.pointer (some ⟨g9, j * 32, none⟩))).run Try.prog wr = .ok (.agg ((idN ((j : Int) + 1)).map (Value.int .u8)).toArray) wr :=
                    run_loadAt_mid wr g9 (j * 32) 30 _ _ hE9 Try.underlying30 rfl (by rw [List.length_map, idN_len]; exact info30)
                  have HXL : Aside0 ((idN ((j : Int) + 1)).length = 32) := ⟨idN_len _⟩
                  have HOR := Aside0.mk (And.intro hor hrl)
                  clear hor ho hrl hE9
                  go_wp2_with (at_builtin; refine wpList_append_lies _ rfl (.tmp 72) (.tmp 77) 40 rfl wo.heap.size 30 i0 z0 32 32 Try.underlying40 HI.out.1 HI.out.2.1 HI.out.2.2.1 HI.out.2.2.2.1 HI.out.2.2.2.2 (by omega) _ (restL j off).length (idsL (restL j off)) rfl ?qo ⟨wr.heap.size, 0, none⟩ 1 1 ((idN ((j : Int) + 1)).map (Value.int .u8)) rfl ?ql ?qn (id_one _) (by omega) ?q6 ?q3 ?qb _ rfl ?_)
                  case qo => exact own_below HO2.out (below_alloc (Below.refl _ _) _)
                  case ql => rw [List.length_map, HXL.out]
                  case qn => exact fun q u hu => World.news_of_block (heap_alloc_new wr (.cells ((idN ((j : Int) + 1)).map (Value.int .u8)).toArray 30)) q u hu
                  case q6 => exact m63 (by have := HOR.out.2; omega)
                  case q3 => exact m32 (by have := HOR.out.2; omega)
                  case qb => have h1 := HB2.out.size; simp; omega
                  intro g' cap1 w3 hown hgrow hat hlt3
                  go_wp2
                  go_roundw
                  case rel =>
                    refine ⟨j + 1, by go_num, ⟨by omega⟩, ⟨(below_alloc HB2.out _).grown hgrow (by have h1 := HB2.out.size; simp; omega) (fun q hq => (HO2.out.lt q hq).1)⟩, ⟨?_⟩⟩
                    rw [HOR.out.1, List.length_append, idsL_append]; exact hown
                  case measure => simp [intOf]; omega
                · have hor : restL (j + 1) off = restL j off := by unfold restL; rw [List.range_succ, List.filter_append]; simp [ho]
                  have hoz : ((off j : Int) == 0) = false := by simpa using ho
                  have HOR := Aside0.mk hor
                  clear hor ho
                  go_wp2
                  go_roundw
                  case rel => exact ⟨j + 1, by go_num, ⟨by omega⟩, HB2, ⟨by rw [HOR.out]; exact HO2.out⟩⟩
                  case measure => simp [intOf]; omega
              · have hij : i = j := by have := HJ.out; omega
                subst hij
                have dj : decide ((i : Int) < (i : Int)) = false := decide_eq_false (by omega)
                have HRL : Aside0 ((restL i off).length ≤ 1000000) := ⟨by
                  have h1 : (restL i off).length ≤ i := by unfold restL; rw [List.length_map]; exact Nat.le_trans (List.length_filter_le _ _) (by simp)
                  omega⟩
                obtain ⟨A13', g13, c13', e13, hA13, hE13, cc13, tt13, hb13, ht13, hu13⟩ := ids_blk (k0 := bo) (fun x hx => by obtain ⟨k, _, _, rfl⟩ := mem_rest.1 hx; exact idN_len _) HO2.out ⟨_, 3, HM2.out.offs, by decide, by decide⟩
                cases e13
                have HR := Aside0.mk (And.intro hA13 (And.intro hE13 (And.intro hb13 (And.intro ht13 hu13))))
                clear hA13 hE13 hb13 ht13 hu13
                go_wp2_with (first
                  | (go_at_call 24; refine (values_box _ rfl _).mono ?_; rintro e_ w6 ⟨rfl, hw6⟩; have hb6 : Below wr.heap.size wr w6 := hw6 ▸ below_alloc (Below.refl _ _) _; have hv6 : Boxed w6 wr.heap.size 40 (.slice A13 (restL i off).length c13) := hw6 ▸ Boxed.new wr 40 _; have H6 := Aside0.mk (And.intro (HM2.out.read hb6) (And.intro hb6 hv6)); clear hb6 hw6 hv6)
                  | (go_at_call 23; refine (scan_is H6.out.1.bl (restL i off) (fun x hx => by obtain ⟨k, hk, _, rfl⟩ := mem_rest.1 hx; exact idN_ok _ (by simp [Lit.wf]; have e1 : IntKind.u8.min = 0 := rfl; have e2 : IntKind.u8.max = 255 := rfl; omega)) HRL.out wr.heap.size g13 A13 c13 now H6.out.2.2.cell HR.out.1 (fun q x hq => range_below (HR.out.2.1 q x hq) H6.out.2.1) (by have h1 := (Array.getElem?_eq_some_iff.1 HR.out.2.2.1).1; have h2 := H6.out.2.1.size; omega) (H6.out.1.typ.no ((H6.out.2.1.block g13 (Array.getElem?_eq_some_iff.1 HR.out.2.2.1).1).trans HR.out.2.2.1) HR.out.2.2.2.1 HR.out.2.2.2.2)).mono ?_; rintro e_ w7 ⟨rfl, ha7⟩; obtain ⟨F7, M7⟩ := H6.out.1.call ha7; have MM := Aside0.mk M7; clear ha7 M7))
                have ME := Aside0.mk (show E0 i bit off now (T + 4) (scanS s (restL i off) now).1 ∧ ((scanS s (restL i off) now).1.missed = true → (scanS s (restL i off) now).1.es ≠ []) ∧ (scanS s (restL i off) now).1.cap = cap from by
                  have h1 := HE.out.1.e.scan (by rw [HE.out.2]; exact hc1) HMI.out.1
                  refine ⟨h1.1, h1.2, ?_⟩
                  have h2 : (scanS s (restL i off) now).1.cap = s.cap := by unfold scanS; split <;> rfl
                  exact h2.trans HE.out.2)
                generalize hS : (scanS s (restL i off) now).1 = S at ME MM
                clear hS

                have hnx := next_is MM.out.bl (now : Int) 3
                rw [ME.out.1.out] at hnx
                have HNX := Aside0.mk hnx
                obtain ⟨L, hL⟩ : ∃ L, L = nextG [] (now : Int) 3 S.es [] := ⟨_, rfl⟩
                rw [← hL] at HNX
                have hsub := next_sub (now : Int) 3 S.es [] ME.out.1.nod (by simp) (by simp)
                rw [← hL] at hsub
                have hlen := nextG_ids [] (now : Int) 3 S.es [] MM.out.bl.wf.l32 (by simp)
                rw [← hL] at hlen
                have hlen2 : L.length ≤ 1000000 := by have h1 := hlen.2; have h2 := MM.out.bl.wf.len; simp only [List.length_nil] at h1; omega
                have HL := Aside0.mk (And.intro hL hsub)
                clear hlen
                clear hnx hL hsub
                go_wp2_with (first | (go_at_call 22; refine HNX.out.mono ?_; rintro e_ w8 ⟨v8, rfl, ho8, hb8⟩; obtain ⟨A8, c8, rfl⟩ := own_slice ho8; have MM8 := Aside0.mk (And.intro (MM.out.read hb8) ho8); clear hb8 ho8))
                go_loopw [16] (fun p16 wr => ∃ (j : Nat) (off' : Nat → Nat) (F' : Nat → Prop) (s' : St), p16 = .int .i64 j ∧ Aside0 (j ≤ L.length ∧ tot i off' = tot i off + j ∧ (j = 0 → s' = S ∧ off' = off) ∧ s'.cap = cap) ∧ Aside0 (E0 i bit off' now ((now : Int) + 4) s' ∧ ∀ q x, j ≤ q → L[q]? = some x → x ∈ s'.es.map (·.1)) ∧ Aside0 (EvM w wr g gm bo i (.slice A9 i c9) F' s' off' ∧ wr.ownsRow w7.heap.size 30 32 (.slice A8 L.length c8) L.length (idsL L)))
                  (fun p16 _ => L.length - (intOf p16).toNat)
                case atStart => exact ⟨0, off, F7, S, rfl, ⟨Nat.zero_le _, by omega, fun _ => ⟨rfl, rfl⟩, ME.out.2.2⟩, ⟨ME.out.1.mono (Int.le_refl _) (by have := HE.out.1.t1; omega), fun q x _ hq => by
                  have := HL.out.2.2 x (List.mem_of_getElem? hq)
                  simpa using this⟩, MM8⟩
                case round =>
                  obtain ⟨j, off', F', s', rfl, HJ, HE3, HM3⟩ := hrel
                  clear HNX
                  by_cases hj : j < L.length
                  · obtain ⟨x, hx⟩ : ∃ x, L[j]? = some x := ⟨_, List.getElem?_eq_getElem hj⟩
                    have hin := HE3.out.2 j x (Nat.le_refl _) hx
                    obtain ⟨e9, he9, hex⟩ := List.mem_map.1 hin
                    obtain ⟨k, hk, hke, _⟩ := HE3.out.1.ent e9 he9
                    have hxk : x = idK k := hex.symm.trans hke
                    subst hxk
                    obtain ⟨hck, hfk⟩ := HM3.out.1.cell hk
                    have hok : ∀ y ∈ L, y.length = 32 := fun y hy => by
                      have h1 := HL.out.2.2 y hy
                      simp at h1
                      obtain ⟨d, t, h2⟩ := h1
                      exact MM.out.bl.wf.l32 _ h2
                    obtain ⟨g8, e8, hrow⟩ := row_of hok HM3.out.2 hx
                    subst e8
                    have hld0 : wr.cell? ⟨g8, j * 32, none⟩ = some (.int .u8 ((k : Int) + 1)) := hrow 0 _ rfl
                    have hld : (ld30 (.pointer (some ⟨g8, j * 32, none⟩))).run Try.prog wr = .ok (.agg ((idK k).map (Value.int .u8)).toArray) wr := run_loadAt_mid wr g8 (j * 32) 30 _ _ hrow Try.underlying30 rfl (by rw [List.length_map]; exact (by unfold idK; rw [idN_len]; exact info30))
                    have p4 := wrap_i64 ((j : Int) + 1) (by omega) (by omega)
                    have dj : decide ((j : Int) < (L.length : Int)) = true := decide_eq_true (by omega)
                    have p5 : (0 : Int) ≤ (j : Int) := by omega
                    have p6 : (j : Int) < (L.length : Int) := by omega
                    have p7 : (0 : Int) ≤ (k : Int) := by omega
                    have p8 : (k : Int) < (i : Int) := by omega
                    have M4 := Aside0.mk (And.intro (HM3.out.1.store hk) (HM3.out.1.storeOwn HM3.out.2 k (.int .i64 ((off' k : Int) + 1))))
                    obtain ⟨g8', e8', hrow4⟩ := row_of hok M4.out.2 hx
                    have e8'' : g8' = g8 := by simpa using e8'.symm
                    subst e8''
                    have hld4 : (ld30 (.pointer (some ⟨g8', j * 32, none⟩))).run Try.prog (wr.setCell ⟨bo, k, none⟩ (.int .i64 ((off' k : Int) + 1))) = .ok (.agg ((idK k).map (Value.int .u8)).toArray) (wr.setCell ⟨bo, k, none⟩ (.int .i64 ((off' k : Int) + 1))) := run_loadAt_mid _ g8' (j * 32) 30 _ _ hrow4 Try.underlying30 rfl (by rw [List.length_map]; exact (by unfold idK; rw [idN_len]; exact info30))
                    have hidk : Idok (idK k) := idN_ok _ (by simp [Lit.wf]; have e1 : IntKind.u8.min = 0 := rfl; have e2 : IntKind.u8.max = 255 := rfl; omega)
                    have OF := Aside0.mk (show Calls Try.prog 18 #[.pointer (some ⟨g, 0, none⟩), .agg ((idK k).map (Value.int .u8)).toArray] (wr.setCell ⟨bo, k, none⟩ (.int .i64 ((off' k : Int) + 1))) fun e w' => e = .returned (.int .i64 0) ∧ After F' g gm (wr.setCell ⟨bo, k, none⟩ (.int .i64 ((off' k : Int) + 1))) w' { s' with out := [idK k] } from by
                      have := offered_is M4.out.1.bl hidk
                      rw [HE3.out.1.offer hin] at this
                      exact this)
                    have HX := Aside0.mk (And.intro hx (And.intro hin (And.intro hok hidk)))
                    clear hld hrow hrow4 e8' he9 hke hex hidk hok hin hx
                    have hand := bit_and a2 h2.1 h2.2 k
                    rw [← HBIT.out.1 k] at hand
                    have HND := Aside0.mk hand
                    clear hand
                    have hbk : bump off' k k = off' k + 1 := by unfold bump; rw [if_pos rfl]
                    have HBK := Aside0.mk hbk
                    clear hbk
                    by_cases hyes : bit k = 1 ∧ off' k + 1 = 1
                    · have hand := HND.out
                      have hb1 : bits BinOp.and IntKind.u64 (a2 / 2 ^ k) 1 = 1 := by rw [hand, hyes.1]; rfl
                      have hb2 : ((bump off' k k : Int) == 1) = true := by rw [HBK.out, hyes.2]; rfl
                      have HY := Aside0.mk hyes
                      have HLT := Aside0.mk (HE3.out.1.later hk HX.out.2.1 hyes HMI.out.1 HMI.out.2)
                      clear hand hyes
                      go_wp2_with (first
                        | (go_at_call 18; refine OF.out.mono ?_; rintro e_ w9 ⟨rfl, ha9⟩; obtain ⟨F9, M9⟩ := M4.out.1.call ha9; have HM9 := Aside0.mk (And.intro M9 (M4.out.1.own ha9 M4.out.2 (by decide) (by decide))); obtain ⟨hck9, hfk9⟩ := HM9.out.1.cell hk; obtain ⟨g9, e9, hr9⟩ := row_of HX.out.2.2.1 HM9.out.2 HX.out.1; have e9' : g9 = g8' := (by simpa using e9.symm); subst e9'; have hld9 : (ld30 (.pointer (some ⟨g9, j * 32, none⟩))).run Try.prog w9 = .ok (.agg ((idK k).map (Value.int .u8)).toArray) w9 := run_loadAt_mid _ g9 (j * 32) 30 _ _ hr9 Try.underlying30 rfl (by rw [List.length_map]; exact (by unfold idK; rw [idN_len]; exact info30)); clear ha9 M9 e9 hr9)
                        | (go_at_call 20; refine (later_is HM9.out.1.bl HX.out.2.2.2 (now : Int)).mono ?_; rintro e_ wA ⟨rfl, haA⟩; rw [HLT.out.1]; obtain ⟨FA, MA⟩ := HM9.out.1.call haA; have HMA := Aside0.mk (And.intro MA (HM9.out.1.own haA HM9.out.2 (by decide) (by decide))); clear haA MA))
                      go_roundw
                      case rel =>
                        refine ⟨j + 1, bump off' k, FA, _, by go_num, ⟨by omega, by rw [tot_bump, if_pos hk, HJ.out.2.1]; omega, fun h => by omega, (lat_cap { s' with out := [idK k] } _ _).trans HJ.out.2.2.2⟩, ⟨HLT.out.2.1, fun q x hq hx => ?_⟩, HMA⟩
                        have h1 := HE3.out.2 q x (by omega) hx
                        obtain ⟨e9, he9, hex⟩ := List.mem_map.1 h1
                        obtain ⟨k2, _, hke, _⟩ := HE3.out.1.ent e9 he9
                        have hxk : x = idK k2 := hex.symm.trans hke
                        subst hxk
                        refine HLT.out.2.2.2 k2 (fun e => ?_) h1
                        subst e
                        obtain ⟨hq1, hq2⟩ := List.getElem?_eq_some_iff.1 hx
                        obtain ⟨hj1, hj2⟩ := List.getElem?_eq_some_iff.1 HX.out.1
                        have := (List.getElem_inj HL.out.2.1).1 (hq2.trans hj2.symm)
                        omega
                      case measure => simp [intOf]; omega
                    · have HLT := Aside0.mk (HE3.out.1.answer HBIT.out.2 hk HX.out.2.1 hyes)
                      have HAND := HND.out
                      have hcase : (¬ bits BinOp.and IntKind.u64 (a2 / 2 ^ k) 1 = 1) ∨ (bits BinOp.and IntKind.u64 (a2 / 2 ^ k) 1 = 1 ∧ ((bump off' k k : Int) == 1) = false) := by
                        rw [HAND]
                        by_cases hb : bit k = 1
                        · refine .inr ⟨by rw [hb]; rfl, ?_⟩
                          rw [HBK.out]
                          simp
                          intro h0
                          exact hyes ⟨hb, by omega⟩
                        · exact .inl (fun h => hb (by omega))
                      clear HAND hyes
                      rcases hcase with hb1 | ⟨hb1, hb2⟩
                      all_goals (
                        go_wp2_with (first
                          | (go_at_call 18; refine OF.out.mono ?_; rintro e_ w9 ⟨rfl, ha9⟩; obtain ⟨F9, M9⟩ := M4.out.1.call ha9; have HM9 := Aside0.mk (And.intro M9 (M4.out.1.own ha9 M4.out.2 (by decide) (by decide))); obtain ⟨hck9, hfk9⟩ := HM9.out.1.cell hk; obtain ⟨g9, e9, hr9⟩ := row_of HX.out.2.2.1 HM9.out.2 HX.out.1; have e9' : g9 = g8' := (by simpa using e9.symm); subst e9'; have hld9 : (ld30 (.pointer (some ⟨g9, j * 32, none⟩))).run Try.prog w9 = .ok (.agg ((idK k).map (Value.int .u8)).toArray) w9 := run_loadAt_mid _ g9 (j * 32) 30 _ _ hr9 Try.underlying30 rfl (by rw [List.length_map]; exact (by unfold idK; rw [idN_len]; exact info30)); clear ha9 M9 e9 hr9)
                          | (go_at_call 25; refine (answered_is HM9.out.1.bl HX.out.2.2.2).mono ?_; rintro e_ wA ⟨rfl, haA⟩; rw [HLT.out.1]; obtain ⟨FA, MA⟩ := HM9.out.1.call haA; have HMA := Aside0.mk (And.intro MA (HM9.out.1.own haA HM9.out.2 (by decide) (by decide))); clear haA MA))
                        go_roundw
                        case rel =>
                          refine ⟨j + 1, bump off' k, FA, _, by go_num, ⟨by omega, by rw [tot_bump, if_pos hk, HJ.out.2.1]; omega, fun h => by omega, (ans_cap { s' with out := [idK k] } _).trans HJ.out.2.2.2⟩, ⟨HLT.out.2.1, fun q x hq hx => ?_⟩, HMA⟩
                          have h1 := HE3.out.2 q x (by omega) hx
                          obtain ⟨e9, he9, hex⟩ := List.mem_map.1 h1
                          obtain ⟨k2, _, hke, _⟩ := HE3.out.1.ent e9 he9
                          have hxk : x = idK k2 := hex.symm.trans hke
                          subst hxk
                          refine HLT.out.2.2.2 k2 (fun e => ?_) h1
                          subst e
                          obtain ⟨hq1, hq2⟩ := List.getElem?_eq_some_iff.1 hx
                          obtain ⟨hj1, hj2⟩ := List.getElem?_eq_some_iff.1 HX.out.1
                          have := (List.getElem_inj HL.out.2.1).1 (hq2.trans hj2.symm)
                          omega
                        case measure => simp [intOf]; omega)
                  · have hjl := HJ.out.1
                    have dj : decide ((j : Int) < (L.length : Int)) = false := decide_eq_false (by omega)
                    go_wp2
                    go_roundw
                    case rel =>
                      by_cases hL0 : L.length = 0
                      · have hj0 : j = 0 := by omega
                        obtain ⟨e1, e2⟩ := HJ.out.2.2.1 hj0
                        subst e1 e2
                        refine ⟨now + 1, T, _, F', _, by go_num, ⟨by omega⟩, ⟨?_, HJ.out.2.2.2⟩, ⟨HM3.out.1⟩⟩
                        have := Ev.none ME.out.1 ME.out.2.1 HE.out.1.t1 HE.out.1.t2 HE.out.1.t3 (by rw [← HL.out.1]; exact List.eq_nil_of_length_eq_zero hL0)
                        simpa using this
                      · refine ⟨now + 1, now, off', F', s', by go_num, ⟨by omega⟩, ⟨?_, HJ.out.2.2.2⟩, ⟨HM3.out.1⟩⟩
                        have hs : S.es ≠ [] := fun h0 => by
                          have h1 := HL.out.1
                          rw [h0] at h1
                          exact hL0 (by rw [h1]; rfl)
                        have := Ev.some ME.out.1 HE.out.1.t2 HE.out.1.t3 hs HE3.out.1 (by have := HJ.out.2.1; omega)
                        simpa using this
                    case measure => simp [intOf]; omega
          | false =>
            have HSM := Aside0.mk hmi
            clear hmi
            go_wp2_with (first | (go_at_call 15; refine (missedS HM.out.bl).mono ?_; rintro e_ w5 ⟨rfl, hq⟩; subst w5; rw [HSM.out]))
            have MM := HM
            have ME := Aside0.mk (show E0 i bit off now (T + 4) s ∧ (s.missed = true → s.es ≠ []) ∧ s.cap = cap from ⟨HE.out.1.e, fun h => (by rw [HSM.out] at h; cases h), HE.out.2⟩)
            have hnx := next_is MM.out.bl (now : Int) 3
            rw [ME.out.1.out] at hnx
            have HNX := Aside0.mk hnx
            obtain ⟨L, hL⟩ : ∃ L, L = nextG [] (now : Int) 3 s.es [] := ⟨_, rfl⟩
            rw [← hL] at HNX
            have hsub := next_sub (now : Int) 3 s.es [] ME.out.1.nod (by simp) (by simp)
            rw [← hL] at hsub
            have hlen := nextG_ids [] (now : Int) 3 s.es [] MM.out.bl.wf.l32 (by simp)
            rw [← hL] at hlen
            have hlen2 : L.length ≤ 1000000 := by have h1 := hlen.2; have h2 := MM.out.bl.wf.len; simp only [List.length_nil] at h1; omega
            have HL := Aside0.mk (And.intro hL hsub)
            clear hlen
            clear hnx hL hsub
            go_wp2_with (first | (go_at_call 22; refine HNX.out.mono ?_; rintro e_ w8 ⟨v8, rfl, ho8, hb8⟩; obtain ⟨A8, c8, rfl⟩ := own_slice ho8; have MM8 := Aside0.mk (And.intro (MM.out.read hb8) ho8); clear hb8 ho8))
            go_loopw [16] (fun p16 wr => ∃ (j : Nat) (off' : Nat → Nat) (F' : Nat → Prop) (s' : St), p16 = .int .i64 j ∧ Aside0 (j ≤ L.length ∧ tot i off' = tot i off + j ∧ (j = 0 → s' = s ∧ off' = off) ∧ s'.cap = cap) ∧ Aside0 (E0 i bit off' now ((now : Int) + 4) s' ∧ ∀ q x, j ≤ q → L[q]? = some x → x ∈ s'.es.map (·.1)) ∧ Aside0 (EvM w wr g gm bo i (.slice A9 i c9) F' s' off' ∧ wr.ownsRow wo.heap.size 30 32 (.slice A8 L.length c8) L.length (idsL L)))
              (fun p16 _ => L.length - (intOf p16).toNat)
            case atStart => exact ⟨0, off, F, s, rfl, ⟨Nat.zero_le _, by omega, fun _ => ⟨rfl, rfl⟩, ME.out.2.2⟩, ⟨ME.out.1.mono (Int.le_refl _) (by have := HE.out.1.t1; omega), fun q x _ hq => by
              have := HL.out.2.2 x (List.mem_of_getElem? hq)
              simpa using this⟩, MM8⟩
            case round =>
              obtain ⟨j, off', F', s', rfl, HJ, HE3, HM3⟩ := hrel
              clear HNX
              by_cases hj : j < L.length
              · obtain ⟨x, hx⟩ : ∃ x, L[j]? = some x := ⟨_, List.getElem?_eq_getElem hj⟩
                have hin := HE3.out.2 j x (Nat.le_refl _) hx
                obtain ⟨e9, he9, hex⟩ := List.mem_map.1 hin
                obtain ⟨k, hk, hke, _⟩ := HE3.out.1.ent e9 he9
                have hxk : x = idK k := hex.symm.trans hke
                subst hxk
                obtain ⟨hck, hfk⟩ := HM3.out.1.cell hk
                have hok : ∀ y ∈ L, y.length = 32 := fun y hy => by
                  have h1 := HL.out.2.2 y hy
                  simp at h1
                  obtain ⟨d, t, h2⟩ := h1
                  exact MM.out.bl.wf.l32 _ h2
                obtain ⟨g8, e8, hrow⟩ := row_of hok HM3.out.2 hx
                subst e8
                have hld0 : wr.cell? ⟨g8, j * 32, none⟩ = some (.int .u8 ((k : Int) + 1)) := hrow 0 _ rfl
                have hld : (ld30 (.pointer (some ⟨g8, j * 32, none⟩))).run Try.prog wr = .ok (.agg ((idK k).map (Value.int .u8)).toArray) wr := run_loadAt_mid wr g8 (j * 32) 30 _ _ hrow Try.underlying30 rfl (by rw [List.length_map]; exact (by unfold idK; rw [idN_len]; exact info30))
                have p4 := wrap_i64 ((j : Int) + 1) (by omega) (by omega)
                have dj : decide ((j : Int) < (L.length : Int)) = true := decide_eq_true (by omega)
                have p5 : (0 : Int) ≤ (j : Int) := by omega
                have p6 : (j : Int) < (L.length : Int) := by omega
                have p7 : (0 : Int) ≤ (k : Int) := by omega
                have p8 : (k : Int) < (i : Int) := by omega
                have M4 := Aside0.mk (And.intro (HM3.out.1.store hk) (HM3.out.1.storeOwn HM3.out.2 k (.int .i64 ((off' k : Int) + 1))))
                obtain ⟨g8', e8', hrow4⟩ := row_of hok M4.out.2 hx
                have e8'' : g8' = g8 := by simpa using e8'.symm
                subst e8''
                have hld4 : (ld30 (.pointer (some ⟨g8', j * 32, none⟩))).run Try.prog (wr.setCell ⟨bo, k, none⟩ (.int .i64 ((off' k : Int) + 1))) = .ok (.agg ((idK k).map (Value.int .u8)).toArray) (wr.setCell ⟨bo, k, none⟩ (.int .i64 ((off' k : Int) + 1))) := run_loadAt_mid _ g8' (j * 32) 30 _ _ hrow4 Try.underlying30 rfl (by rw [List.length_map]; exact (by unfold idK; rw [idN_len]; exact info30))
                have hidk : Idok (idK k) := idN_ok _ (by simp [Lit.wf]; have e1 : IntKind.u8.min = 0 := rfl; have e2 : IntKind.u8.max = 255 := rfl; omega)
                have OF := Aside0.mk (show Calls Try.prog 18 #[.pointer (some ⟨g, 0, none⟩), .agg ((idK k).map (Value.int .u8)).toArray] (wr.setCell ⟨bo, k, none⟩ (.int .i64 ((off' k : Int) + 1))) fun e w' => e = .returned (.int .i64 0) ∧ After F' g gm (wr.setCell ⟨bo, k, none⟩ (.int .i64 ((off' k : Int) + 1))) w' { s' with out := [idK k] } from by
                  have := offered_is M4.out.1.bl hidk
                  rw [HE3.out.1.offer hin] at this
                  exact this)
                have HX := Aside0.mk (And.intro hx (And.intro hin (And.intro hok hidk)))
                clear hld hrow hrow4 e8' he9 hke hex hidk hok hin hx
                have hand := bit_and a2 h2.1 h2.2 k
                rw [← HBIT.out.1 k] at hand
                have HND := Aside0.mk hand
                clear hand
                have hbk : bump off' k k = off' k + 1 := by unfold bump; rw [if_pos rfl]
                have HBK := Aside0.mk hbk
                clear hbk
                by_cases hyes : bit k = 1 ∧ off' k + 1 = 1
                · have hand := HND.out
                  have hb1 : bits BinOp.and IntKind.u64 (a2 / 2 ^ k) 1 = 1 := by rw [hand, hyes.1]; rfl
                  have hb2 : ((bump off' k k : Int) == 1) = true := by rw [HBK.out, hyes.2]; rfl
                  have HY := Aside0.mk hyes
                  have HLT := Aside0.mk (HE3.out.1.later hk HX.out.2.1 hyes HMI.out.1 HMI.out.2)
                  clear hand hyes
                  go_wp2_with (first
                    | (go_at_call 18; refine OF.out.mono ?_; rintro e_ w9 ⟨rfl, ha9⟩; obtain ⟨F9, M9⟩ := M4.out.1.call ha9; have HM9 := Aside0.mk (And.intro M9 (M4.out.1.own ha9 M4.out.2 (by decide) (by decide))); obtain ⟨hck9, hfk9⟩ := HM9.out.1.cell hk; obtain ⟨g9, e9, hr9⟩ := row_of HX.out.2.2.1 HM9.out.2 HX.out.1; have e9' : g9 = g8' := (by simpa using e9.symm); subst e9'; have hld9 : (ld30 (.pointer (some ⟨g9, j * 32, none⟩))).run Try.prog w9 = .ok (.agg ((idK k).map (Value.int .u8)).toArray) w9 := run_loadAt_mid _ g9 (j * 32) 30 _ _ hr9 Try.underlying30 rfl (by rw [List.length_map]; exact (by unfold idK; rw [idN_len]; exact info30)); clear ha9 M9 e9 hr9)
                    | (go_at_call 20; refine (later_is HM9.out.1.bl HX.out.2.2.2 (now : Int)).mono ?_; rintro e_ wA ⟨rfl, haA⟩; rw [HLT.out.1]; obtain ⟨FA, MA⟩ := HM9.out.1.call haA; have HMA := Aside0.mk (And.intro MA (HM9.out.1.own haA HM9.out.2 (by decide) (by decide))); clear haA MA))
                  go_roundw
                  case rel =>
                    refine ⟨j + 1, bump off' k, FA, _, by go_num, ⟨by omega, by rw [tot_bump, if_pos hk, HJ.out.2.1]; omega, fun h => by omega, (lat_cap { s' with out := [idK k] } _ _).trans HJ.out.2.2.2⟩, ⟨HLT.out.2.1, fun q x hq hx => ?_⟩, HMA⟩
                    have h1 := HE3.out.2 q x (by omega) hx
                    obtain ⟨e9, he9, hex⟩ := List.mem_map.1 h1
                    obtain ⟨k2, _, hke, _⟩ := HE3.out.1.ent e9 he9
                    have hxk : x = idK k2 := hex.symm.trans hke
                    subst hxk
                    refine HLT.out.2.2.2 k2 (fun e => ?_) h1
                    subst e
                    obtain ⟨hq1, hq2⟩ := List.getElem?_eq_some_iff.1 hx
                    obtain ⟨hj1, hj2⟩ := List.getElem?_eq_some_iff.1 HX.out.1
                    have := (List.getElem_inj HL.out.2.1).1 (hq2.trans hj2.symm)
                    omega
                  case measure => simp [intOf]; omega
                · have HLT := Aside0.mk (HE3.out.1.answer HBIT.out.2 hk HX.out.2.1 hyes)
                  have HAND := HND.out
                  have hcase : (¬ bits BinOp.and IntKind.u64 (a2 / 2 ^ k) 1 = 1) ∨ (bits BinOp.and IntKind.u64 (a2 / 2 ^ k) 1 = 1 ∧ ((bump off' k k : Int) == 1) = false) := by
                    rw [HAND]
                    by_cases hb : bit k = 1
                    · refine .inr ⟨by rw [hb]; rfl, ?_⟩
                      rw [HBK.out]
                      simp
                      intro h0
                      exact hyes ⟨hb, by omega⟩
                    · exact .inl (fun h => hb (by omega))
                  clear HAND hyes
                  rcases hcase with hb1 | ⟨hb1, hb2⟩
                  all_goals (
                    go_wp2_with (first
                      | (go_at_call 18; refine OF.out.mono ?_; rintro e_ w9 ⟨rfl, ha9⟩; obtain ⟨F9, M9⟩ := M4.out.1.call ha9; have HM9 := Aside0.mk (And.intro M9 (M4.out.1.own ha9 M4.out.2 (by decide) (by decide))); obtain ⟨hck9, hfk9⟩ := HM9.out.1.cell hk; obtain ⟨g9, e9, hr9⟩ := row_of HX.out.2.2.1 HM9.out.2 HX.out.1; have e9' : g9 = g8' := (by simpa using e9.symm); subst e9'; have hld9 : (ld30 (.pointer (some ⟨g9, j * 32, none⟩))).run Try.prog w9 = .ok (.agg ((idK k).map (Value.int .u8)).toArray) w9 := run_loadAt_mid _ g9 (j * 32) 30 _ _ hr9 Try.underlying30 rfl (by rw [List.length_map]; exact (by unfold idK; rw [idN_len]; exact info30)); clear ha9 M9 e9 hr9)
                      | (go_at_call 25; refine (answered_is HM9.out.1.bl HX.out.2.2.2).mono ?_; rintro e_ wA ⟨rfl, haA⟩; rw [HLT.out.1]; obtain ⟨FA, MA⟩ := HM9.out.1.call haA; have HMA := Aside0.mk (And.intro MA (HM9.out.1.own haA HM9.out.2 (by decide) (by decide))); clear haA MA))
                    go_roundw
                    case rel =>
                      refine ⟨j + 1, bump off' k, FA, _, by go_num, ⟨by omega, by rw [tot_bump, if_pos hk, HJ.out.2.1]; omega, fun h => by omega, (ans_cap { s' with out := [idK k] } _).trans HJ.out.2.2.2⟩, ⟨HLT.out.2.1, fun q x hq hx => ?_⟩, HMA⟩
                      have h1 := HE3.out.2 q x (by omega) hx
                      obtain ⟨e9, he9, hex⟩ := List.mem_map.1 h1
                      obtain ⟨k2, _, hke, _⟩ := HE3.out.1.ent e9 he9
                      have hxk : x = idK k2 := hex.symm.trans hke
                      subst hxk
                      refine HLT.out.2.2.2 k2 (fun e => ?_) h1
                      subst e
                      obtain ⟨hq1, hq2⟩ := List.getElem?_eq_some_iff.1 hx
                      obtain ⟨hj1, hj2⟩ := List.getElem?_eq_some_iff.1 HX.out.1
                      have := (List.getElem_inj HL.out.2.1).1 (hq2.trans hj2.symm)
                      omega
                    case measure => simp [intOf]; omega)
              · have hjl := HJ.out.1
                have dj : decide ((j : Int) < (L.length : Int)) = false := decide_eq_false (by omega)
                go_wp2
                go_roundw
                case rel =>
                  by_cases hL0 : L.length = 0
                  · have hj0 : j = 0 := by omega
                    obtain ⟨e1, e2⟩ := HJ.out.2.2.1 hj0
                    subst e1 e2
                    refine ⟨now + 1, T, _, F', _, by go_num, ⟨by omega⟩, ⟨?_, HJ.out.2.2.2⟩, ⟨HM3.out.1⟩⟩
                    have := Ev.none ME.out.1 ME.out.2.1 HE.out.1.t1 HE.out.1.t2 HE.out.1.t3 (by rw [← HL.out.1]; exact List.eq_nil_of_length_eq_zero hL0)
                    simpa using this
                  · refine ⟨now + 1, now, off', F', s', by go_num, ⟨by omega⟩, ⟨?_, HJ.out.2.2.2⟩, ⟨HM3.out.1⟩⟩
                    have hs : s.es ≠ [] := fun h0 => by
                      have h1 := HL.out.1
                      rw [h0] at h1
                      exact hL0 (by rw [h1]; rfl)
                    have := Ev.some ME.out.1 HE.out.1.t2 HE.out.1.t3 hs HE3.out.1 (by have := HJ.out.2.1; omega)
                    simpa using this
                case measure => simp [intOf]; omega
        · have hnow : now = 500 := by have := HN.out; omega
          subst hnow
          have hfin := Ev.fin (by simpa using HE.out.1) HBIT.out.2 hn1
          have HFIN := Aside0.mk hfin
          have hd : decide ((((500 : Nat) : Int)) < 500) = false := by decide
          clear hfin
          go_wp2
          go_loopw [19] (fun p19 wr => ∃ j : Nat, p19 = .int .i64 j ∧ Aside0 (j ≤ i) ∧ Aside0 (Below wo.heap.size wo wr)) (fun p19 _ => i - (intOf p19).toNat)
          case atStart => exact ⟨0, rfl, ⟨Nat.zero_le _⟩, ⟨Below.refl _ _⟩⟩
          case round =>
            obtain ⟨j, rfl, HJ, HB2⟩ := hrel
            have HM2 := Aside0.mk (HM.out.read HB2.out)
            by_cases hj : j < i
            · have p4 := wrap_i64 ((j : Int) + 1) (by omega) (by omega)
              have dj : decide ((j : Int) < (i : Int)) = true := decide_eq_true (by omega)
              have p5 : (0 : Int) ≤ (j : Int) := by omega
              have p6 : (j : Int) < (i : Int) := by omega
              obtain ⟨hcj, hfj⟩ := HM2.out.cell hj
              have hand := bit_and a2 h2.1 h2.2 j
              rw [← HBIT.out.1 j] at hand
              have hbl := HBIT.out.2 j
              have hoff := HFIN.out.1 j hj
              have hne : ((off j : Int) != 1 + (bit j : Int)) = false := by rw [hoff]; simp
              have p8 := wrap_i64 ((bit j : Int)) (by omega) (by omega)
              have p9 := wrap_i64 (1 + (bit j : Int)) (by omega) (by omega)
              clear hoff
              go_wp2
              go_quiet (fail)
              go_wp2
              go_roundw
              case rel => exact ⟨j + 1, by go_num, ⟨by omega⟩, ⟨HB2.out.trans ((drewN_mk _ _).mono HB2.out.size)⟩⟩
              case measure => simp [intOf]; omega
            · have hji : j = i := by have := HJ.out; omega
              have dj : decide ((j : Int) < (i : Int)) = false := decide_eq_false (by omega)
              have hes := HFIN.out.2.1
              have HES := Aside0.mk (And.intro hes HFIN.out.2.2)
              clear hes hji
              go_wp2_with (first
                | (go_at_call 14; refine (lenS HM2.out.bl).mono ?_; rintro e_ w6 ⟨rfl, hq⟩; subst w6; rw [HES.out.1])
                | (go_at_call 15; refine (missedS HM2.out.bl).mono ?_; rintro e_ w6 ⟨rfl, hq⟩; subst w6; rw [HES.out.2]))
              go_ret
              exact ⟨rfl, HM2.out.on.below⟩
end Go.Proofs.Ytbhibodgbgndbaa.B
/- The law Every, for its row. No condition. -/
namespace Go.Proofs.Ytbhibodgbgndbaa.B
open Go Go.RowKit Go.Proofs
theorem every_row (a0 : Int) (w0 : (Lit.int .u8 a0).wf = true) (a1 : Int) (w1 : (Lit.int .u8 a1).wf = true) (a2 : Int) (w2 : (Lit.int .u64 a2).wf = true) (w : World) :
    Calls Try.prog 5 #[.int .u8 a0, .int .u8 a1, .int .u64 a2] w fun e w' => e = .returned (.bool true) ∧ Below w.heap.size w w' := by
  have e1 : IntKind.u8.min = 0 := by decide +kernel
  have e2 : IntKind.u8.max = 255 := by decide +kernel
  have e3 : IntKind.u64.min = 0 := by decide +kernel
  have e4 : IntKind.u64.max = 18446744073709551615 := by decide +kernel
  simp [Lit.wf, e1, e2, e3, e4] at w0 w1 w2
  exact every_law a0 a1 a2 (by omega) (by omega) (by omega) w
end Go.Proofs.Ytbhibodgbgndbaa.B
