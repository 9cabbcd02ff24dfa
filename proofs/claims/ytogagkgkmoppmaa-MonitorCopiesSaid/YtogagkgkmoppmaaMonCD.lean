/-
  A range over the map of what was sent: the iterator as a part, what a round leaves.
  Conditions: those that each theorem names.
-/
import Derived.Test.YtogagkgkmoppmaaMonCB
import Derived.Maps.RangeRun
namespace Go.Proofs.Ytogagkgkmoppmaa
set_option linter.unusedVariables false
set_option linter.unusedSimpArgs false
open Go.RowKit GM
open Go.ChangeMaps (setBlock)
open Go.MapKept
/-- an iterator over a map -/
def iterPc (r bm since : Nat) (seen : Array Nat) (c0 : Nat) : Pc where
  blk := some r
  ok := fun w => w.heap[r]? = some (.mapIter (some bm) since seen c0)
  lt := fun w b h e => by
    injection e with e
    subst e
    refine ⟨(Array.getElem?_eq_some_iff.1 h).1, fun cs t fr hc => ?_⟩
    rw [h] at hc
    cases hc
  keep := fun w w' S h hk hs hq => hk.keep h (hs _ rfl)
theorem kept_setBlock (w : World) (r : Nat) (o : Obj) : Kept (fun b => b = r) w (setBlock w r o) := by
  refine ⟨rfl, rfl, rfl, by simp [setBlock], fun k hk hr => ?_⟩
  have : r ≠ k := fun e => hr e.symm
  simp [setBlock, this]
theorem setBlock_at {w : World} {r : Nat} {o o' : Obj} (h : w.heap[r]? = some o) : (setBlock w r o').heap[r]? = some o' := by
  have hlt := (Array.getElem?_eq_some_iff.1 h).1
  simp [setBlock, hlt]
/-- which entries were copied -/
structure Cp (M : MM) (es : Array MapEntry) (seen : Array Nat) (D : List (PlaceK × SR)) : Prop where
  corr : ∀ k, get D k = none ∨ ∃ r0 r', get M.sends k = some r0 ∧ get D k = some r' ∧ r'.l = r0.l
  left : ∀ e ∈ es.toList, ∀ k, e.key = placeV k → seen.contains e.born = has D k
theorem Cp.begin (M : MM) (es : Array MapEntry) : Cp M es #[] [] := ⟨fun k => .inl rfl, fun e he k hk => by simp [has]⟩
theorem place_inj {a b : PlaceK} (h : placeV a = placeV b) : a = b := placeLaw.inj a b h
theorem get_of_mem {α β : Type} [DecidableEq α] {L : List (α × β)} (hn : (L.map (·.1)).Nodup) {p : α × β} (h : p ∈ L) : get L p.1 = some p.2 := by
  obtain ⟨i, hi, rfl⟩ := List.mem_iff_getElem.1 h
  unfold GM.get
  rw [GM.find_some hn (j := i) (i := (L[i]).1) (v := (L[i]).2) (by simp [hi])]
  rfl
theorem entry_of {w : World} {sb : Nat} {M : MM} {es : Array MapEntry} (hL : es.toList.map (fun e => (e.key, e.val)) = (vals slV M.sends).map (fun x => (placeV x.1, x.2))) {e : MapEntry} (he : e ∈ es.toList) : ∃ p ∈ M.sends, e.key = placeV p.1 ∧ e.val = slV p.2 := by
  have : (e.key, e.val) ∈ (vals slV M.sends).map (fun x => (placeV x.1, x.2)) := by rw [← hL]; exact List.mem_map.2 ⟨e, he, rfl⟩
  obtain ⟨y, hy, hyx⟩ := List.mem_map.1 this
  unfold vals at hy
  obtain ⟨p, hp, rfl⟩ := List.mem_map.1 hy
  injection hyx with h1 h2
  exact ⟨p, hp, h1.symm, h2.symm⟩
theorem Cp.step {M : MM} {es : Array MapEntry} {clock : Nat} {seen : Array Nat} {D : List (PlaceK × SR)} (h : Cp M es seen D) (hst : Stamped es clock) (hn : (M.sends.map (·.1)).Nodup) {e : MapEntry} (he : e ∈ es.toList) (hs : seen.contains e.born = false)
    {p : PlaceK × SR} (hp : p ∈ M.sends) (hk : e.key = placeV p.1) {r' : SR} (hr : r'.l = p.2.l) : get D p.1 = none ∧ Cp M es (seen.push e.born) (D ++ [(p.1, r')]) := by
  have hnone : get D p.1 = none := by
    have := h.left e he p.1 hk
    rw [hs, has_get] at this
    cases hg : get D p.1 with
    | none => rfl
    | some x => rw [hg] at this; cases this
  refine ⟨hnone, fun k => ?_, fun e' he' k hk' => ?_⟩
  · rw [get_snoc D p.1 r' hnone k]
    split
    · next hkp => exact .inr ⟨p.2, r', by rw [hkp]; exact get_of_mem hn hp, rfl, hr⟩
    · exact h.corr k
  · rw [contains_push, h.left e' he' k hk', has_get, has_get, get_snoc D p.1 r' hnone k]
    by_cases hkp : k = p.1
    · rw [if_pos hkp]
      have hee : e' = e := by
        have h1 : e'.key = e.key := by rw [hk', hkp, hk]
        obtain ⟨i, hi, rfl⟩ := List.mem_iff_getElem.1 he'
        obtain ⟨j, hj, rfl⟩ := List.mem_iff_getElem.1 he
        have h2 := hst.2.2
        have := (List.getElem_inj (i := i) (j := j) (h₀ := by simpa using hi) (h₁ := by simpa using hj) h2).1 (by simpa using h1)
        subst this
        rfl
      rw [hee]
      simp
    · rw [if_neg hkp]
      have hne : (e'.born == e.born) = false := by
        rw [beq_eq_false_iff_ne]
        intro hb
        have := born_inj hst.2.1 he' he hb
        rw [this, hk] at hk'
        exact hkp (place_inj hk'.symm)
      rw [hne, Bool.or_false]
theorem Cp.all {w : World} {M : MM} {es : Array MapEntry} {seen : Array Nat} {D : List (PlaceK × SR)} (h : Cp M es seen D) (hL : es.toList.map (fun e => (e.key, e.val)) = (vals slV M.sends).map (fun x => (placeV x.1, x.2))) (h0 : (leftOf es seen).size = 0) (k : PlaceK) :
    (get D k).map (fun r => r.l) = (get M.sends k).map (fun r => r.l) := by
  rcases h.corr k with hc | ⟨r0, r', h1, h2, h3⟩
  · rw [hc]
    cases hg : get M.sends k with
    | none => rfl
    | some r0 =>
      exfalso
      unfold GM.get at hg
      cases hf : M.sends.find? (fun x => decide (x.1 = k)) with
      | none => rw [hf] at hg; cases hg
      | some p =>
        have hp := List.mem_of_find?_eq_some hf
        have hpk : p.1 = k := by simpa using List.find?_some hf
        have : (placeV p.1, slV p.2) ∈ es.toList.map (fun e => (e.key, e.val)) := by
          rw [hL]
          exact List.mem_map.2 ⟨(p.1, slV p.2), List.mem_map.2 ⟨p, hp, rfl⟩, rfl⟩
        obtain ⟨e, he, hee⟩ := List.mem_map.1 this
        injection hee with h1 h2
        have h3 := all_seen es seen h0 e he
        have h4 := h.left e he k (by rw [h1, hpk])
        rw [h3, has_get, hc] at h4
        cases h4
  · rw [h1, h2]
    simp [h3]
end Go.Proofs.Ytogagkgkmoppmaa
