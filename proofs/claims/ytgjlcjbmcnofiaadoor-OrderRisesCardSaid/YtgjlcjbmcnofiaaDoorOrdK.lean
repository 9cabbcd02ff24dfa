/-
  Two orders that read alike but for what was trimmed (plain).
  Conditions: none.
-/
import Derived.Test.YtgjlcjbmcnofiaaDoorOrdR
namespace Go.Proofs.YtgjlcjbmcnofiaaDoor
set_option linter.unusedVariables false
set_option linter.unusedSimpArgs false
open Go.RowKit
theorem drop_lo (lo : Nat → Nat) (R : Nat → List Msg) (p : Int) (u q : Nat) : dropLo lo R p u q = if procB p = true ∧ q = p.toNat then max (lo q) (min u (lo q + (R q).length)) else lo q := by
  unfold dropLo dropC
  by_cases hp : procB p = true
  · by_cases hc : lo p.toNat < min u (lo p.toNat + (R p.toNat).length)
    · rw [if_pos (by rw [hp]; simpa using hc)]
      by_cases e : q = p.toNat
      · subst e; rw [upd_same, if_pos ⟨hp, rfl⟩]; omega
      · rw [upd_ne _ _ e, if_neg (fun h => e h.2)]
    · rw [if_neg (by rw [hp]; simpa using hc)]
      by_cases e : q = p.toNat
      · subst e; rw [if_pos ⟨hp, rfl⟩]; omega
      · rw [if_neg (fun h => e h.2)]
  · rw [if_neg (by simp [hp]), if_neg (fun h => hp h.1)]
theorem drop_row (lo : Nat → Nat) (R : Nat → List Msg) (p : Int) (u q : Nat) : dropR lo R p u q = (R q).drop (dropLo lo R p u q - lo q) := by
  unfold dropR dropLo
  split
  · by_cases e : q = p.toNat
    · subst e; rw [upd_same, upd_same]
    · rw [upd_ne _ _ e, upd_ne _ _ e, Nat.sub_self, List.drop_zero]
  · rw [Nat.sub_self, List.drop_zero]
theorem InvO.trim0 {k : Nat} {O : PO} (h : InvO k O) (p : Int) (u : Nat) : InvO k (O.trim p u) := by
  have hh := h.trim p u
  refine ⟨h.mb, h.hz, ⟨hh.hold.numb, hh.hold.ds, fun q hq => ?_, ?_⟩, hh.dn⟩
  · show dropLo O.lo O.R p (min u (doneZ O p)) q + (dropR O.lo O.R p (min u (doneZ O p)) q).length ≤ k
    rw [drop_sum]
    exact h.hold.cnt q hq
  · show (allN (dropR O.lo O.R p (min u (doneZ O p))) 64).length ≤ k
    refine Nat.le_trans ?_ h.hold.tot
    unfold dropR
    split
    · next hc =>
      unfold dropC at hc
      have hp : procB p = true := by
        rw [Bool.and_eq_true] at hc
        exact hc.1
      have hp2 : p.toNat < 64 := by
        unfold procB at hp
        rw [decide_eq_true_eq] at hp
        omega
      have h1 := allN_upd_lt O.R p.toNat ((O.R p.toNat).drop (min (min u (doneZ O p)) (O.lo p.toNat + (O.R p.toNat).length) - O.lo p.toNat)) 64 hp2
      rw [List.length_drop] at h1
      omega
    · exact Nat.le_refl _
/-- T reads as O, but for what T has dropped more -/
structure PRel (O T : PO) : Prop where
  me : T.me = O.me
  mb : T.mb = O.mb
  H : T.H = O.H
  dn : T.dn = O.dn
  ls : T.ls = O.ls
  lf : T.lf = O.lf
  sum : ∀ p, T.lo p + (T.R p).length = O.lo p + (O.R p).length
  le : ∀ p, O.lo p ≤ T.lo p
  row : ∀ p, (T.R p).map core = ((O.R p).map core).drop (T.lo p - O.lo p)
  low : ∀ p, T.lo p ≤ T.dn p
section
variable {O T : PO}
theorem PRel.new (me : Int) (m : Nat) : PRel (po0 me m) (po0 me m) := ⟨rfl, rfl, rfl, rfl, rfl, rfl, fun _ => rfl, fun _ => Nat.le_refl _, fun _ => by rw [Nat.sub_self, List.drop_zero], fun _ => Nat.le_refl _⟩
theorem PRel.next (h : PRel O T) (p : Nat) : (nextO T p).map core = (nextO O p).map core := by
  unfold nextO getZ
  have e : ((p : Int)).toNat = p := by simp
  rw [e, h.dn]
  have h1 := h.sum p
  have h2 := h.le p
  have h3 := h.low p
  rw [h.dn] at h3
  by_cases hp : procB (p : Int) = true
  · by_cases hs : O.dn p + 1 ≤ O.lo p + (O.R p).length
    · rw [if_pos ⟨hp, by omega, by omega⟩, if_pos ⟨hp, by omega, hs⟩]
      have e1 : O.dn p + 1 - T.lo p - 1 < (T.R p).length := by omega
      have e2 : O.dn p + 1 - O.lo p - 1 < (O.R p).length := by omega
      rw [gm_get e1, gm_get e2]
      show some (core (T.R p)[O.dn p + 1 - T.lo p - 1]) = some (core (O.R p)[O.dn p + 1 - O.lo p - 1])
      have a1 : ((T.R p).map core)[O.dn p + 1 - T.lo p - 1]? = some (core (T.R p)[O.dn p + 1 - T.lo p - 1]) := by rw [List.getElem?_map, List.getElem?_eq_getElem e1]; rfl
      have a2 : ((O.R p).map core)[O.dn p + 1 - O.lo p - 1]? = some (core (O.R p)[O.dn p + 1 - O.lo p - 1]) := by rw [List.getElem?_map, List.getElem?_eq_getElem e2]; rfl
      rw [← a1, ← a2, h.row p, List.getElem?_drop]
      congr 1
      omega
    · rw [if_neg (fun h => by omega), if_neg (fun h => by omega)]
  · rw [if_neg (fun h => hp h.1), if_neg (fun h => hp h.1)]
theorem step_core {b b' : Option Msg} {p : Nat} (h : (nextO T p).map core = (nextO O p).map core) (hb : b'.map core = b.map core) : (headStep T b' p).map core = (headStep O b p).map core := by
  unfold headStep
  cases h1 : nextO T p with
  | none =>
    cases h2 : nextO O p with
    | none => exact hb
    | some m => rw [h1, h2] at h; cases h
  | some m' =>
    cases h2 : nextO O p with
    | none => rw [h1, h2] at h; cases h
    | some m =>
      rw [h1, h2] at h
      have hm : core m' = core m := by simpa using h
      cases b' with
      | none =>
        cases b with
        | none => simp [hm]
        | some c => cases hb
      | some c' =>
        cases b with
        | none => cases hb
        | some c =>
          have hc : core c' = core c := by simpa using hb
          simp only
          rw [lessB_core hm hc]
          split
          · simp [hm]
          · simp [hc]
theorem fold_core (h : ∀ p, (nextO T p).map core = (nextO O p).map core) : ∀ (l : List Nat) (b b' : Option Msg), b'.map core = b.map core → (l.foldl (headStep T) b').map core = (l.foldl (headStep O) b).map core
  | [], _, _, hb => hb
  | p :: l, b, b', hb => fold_core h l _ _ (step_core (h p) hb)
theorem PRel.head (h : PRel O T) : T.head.map core = O.head.map core := by
  unfold PO.head
  rw [h.mb]
  exact fold_core h.next _ _ _ rfl
theorem PRel.ripe (h : PRel O T) : T.ripe.map core = O.ripe.map core := by
  have hh := h.head
  unfold PO.ripe
  cases h1 : T.head with
  | none =>
    cases h2 : O.head with
    | none => rfl
    | some m => rw [h1, h2] at hh; cases hh
  | some m' =>
    cases h2 : O.head with
    | none => rw [h1, h2] at hh; cases hh
    | some m =>
      rw [h1, h2] at hh
      have hm : core m' = core m := by simpa using hh
      obtain ⟨_, _, c3, c4, _⟩ := core_iff.1 hm
      have e : T.mark m'.service = O.mark m.service := by unfold PO.mark; rw [h.H, c4]
      simp only
      rw [e, c3]
      split
      · rfl
      · simp [hm]
theorem PRel.took (h : PRel O T) {m m' : Msg} (hm : core m' = core m) : PRel (O.took m) (T.took m') := by
  obtain ⟨c1, _, c3, _⟩ := core_iff.1 hm
  refine ⟨h.me, h.mb, h.H, ?_, c3, c1, h.sum, h.le, h.row, fun p => ?_⟩
  · show upd T.dn m'.frm.toNat (T.dn m'.frm.toNat + 1) = upd O.dn m.frm.toNat (O.dn m.frm.toNat + 1)
    rw [h.dn, c1]
  · have := h.low p
    show T.lo p ≤ upd T.dn m'.frm.toNat (T.dn m'.frm.toNat + 1) p
    by_cases e : p = m'.frm.toNat
    · subst e; rw [upd_same]; omega
    · rw [upd_ne _ _ e]; exact this
theorem PRel.drn (h : PRel O T) {O' : PO} {L : List Msg} (hd : Drn O L O') : ∃ L2 T', Drn T L2 T' ∧ L2.map core = L.map core ∧ PRel O' T' := by
  induction hd with
  | nil => exact ⟨[], T, Drn.nil T, rfl, h⟩
  | @snoc O1 L m hd hr ih =>
    obtain ⟨L2, T', h1, h2, h3⟩ := ih
    have := h3.ripe
    rw [hr] at this
    cases hx : T'.ripe with
    | none => rw [hx] at this; cases this
    | some m2 =>
      rw [hx] at this
      have hm : core m2 = core m := by simpa using this
      exact ⟨L2 ++ [m2], T'.took m2, Drn.snoc h1 hx, by rw [List.map_append, List.map_append, h2]; simp [hm], h3.took hm⟩
theorem PRel.drain (h : PRel O T) {O' T' : PO} {L L2 : List Msg} (hd : Drn O L O') (hr : O'.ripe = none) (hd2 : Drn T L2 T') (hr2 : T'.ripe = none) : L2.map core = L.map core ∧ PRel O' T' := by
  obtain ⟨L3, T3, h1, h2, h3⟩ := h.drn hd
  have hr3 : T3.ripe = none := by
    have := h3.ripe
    rw [hr] at this
    cases hx : T3.ripe with
    | none => rfl
    | some m2 => rw [hx] at this; cases this
  obtain ⟨rfl, rfl⟩ := h1.uniq hr3 hd2 hr2
  exact ⟨h2, h3⟩
theorem PRel.setH (h : PRel O T) (f : HZ → HZ) : PRel { O with H := f O.H } { T with H := f T.H } :=
  ⟨h.me, h.mb, by show f T.H = f O.H; rw [h.H], h.dn, h.ls, h.lf, h.sum, h.le, h.row, h.low⟩
theorem PRel.takeZ (h : PRel O T) (m : Msg) : takeZ T m = takeZ O m := by
  unfold Go.Proofs.YtgjlcjbmcnofiaaDoor.takeZ putK
  rw [h.mb, h.sum]
theorem PRel.take (h : PRel O T) {m a b : Msg} (ha : core a = core m) (hb : core b = core m) : PRel (O.take m a) (T.take m b) := by
  refine ⟨h.me, h.mb, ?_, h.dn, h.ls, h.lf, fun p => ?_, h.le, fun p => ?_, h.low⟩
  · unfold PO.take
    show (if m.frm = T.me then T.H.setC (max T.H.c m.stamp) else T.H.came m.frm m.seq m.stamp) = (if m.frm = O.me then O.H.setC (max O.H.c m.stamp) else O.H.came m.frm m.seq m.stamp)
    rw [h.me, h.H]
  · have := h.sum p
    show T.lo p + (upd T.R m.frm.toNat (T.R m.frm.toNat ++ [b]) p).length = O.lo p + (upd O.R m.frm.toNat (O.R m.frm.toNat ++ [a]) p).length
    by_cases e : p = m.frm.toNat
    · subst e; rw [upd_same, upd_same, List.length_append, List.length_append]; simp; omega
    · rw [upd_ne _ _ e, upd_ne _ _ e]; exact this
  · have h1 := h.sum p
    have h2 := h.row p
    have h3 := h.le p
    show (upd T.R m.frm.toNat (T.R m.frm.toNat ++ [b]) p).map core = ((upd O.R m.frm.toNat (O.R m.frm.toNat ++ [a]) p).map core).drop (T.lo p - O.lo p)
    by_cases e : p = m.frm.toNat
    · subst e
      rw [upd_same, upd_same, List.map_append, List.map_append, List.drop_append_of_le_length (by rw [List.length_map]; omega), h2]
      simp [ha, hb]
    · rw [upd_ne _ _ e, upd_ne _ _ e]; exact h2
theorem doneZ_eq (h : PRel O T) (p : Int) : doneZ T p = doneZ O p := by unfold doneZ; rw [h.dn]
theorem done_low {p : Int} (hp : procB p = true) : doneZ T p = T.dn p.toNat := by
  unfold doneZ
  unfold procB at hp
  rw [decide_eq_true_eq] at hp
  rw [if_pos hp]
/-- T alone is trimmed -/
theorem PRel.trimT (h : PRel O T) (p : Int) (u : Nat) : PRel O (T.trim p u) := by
  have hlo : ∀ q, (T.trim p u).lo q = dropLo T.lo T.R p (min u (doneZ T p)) q := fun _ => rfl
  have hR : ∀ q, (T.trim p u).R q = (T.R q).drop ((T.trim p u).lo q - T.lo q) := fun q => drop_row _ _ _ _ q
  have hs : ∀ q, (T.trim p u).lo q + ((T.trim p u).R q).length = T.lo q + (T.R q).length := fun q => drop_sum _ _ _ _ q
  have hl : ∀ q, T.lo q ≤ (T.trim p u).lo q ∧ (T.trim p u).lo q ≤ T.dn q := fun q => by
    have := h.low q
    rw [hlo, drop_lo]
    split
    · next hc =>
      obtain ⟨hp, rfl⟩ := hc
      rw [done_low hp]
      omega
    · exact ⟨Nat.le_refl _, this⟩
  refine ⟨h.me, h.mb, h.H, h.dn, h.ls, h.lf, fun q => (hs q).trans (h.sum q), fun q => Nat.le_trans (h.le q) (hl q).1, fun q => ?_, fun q => (hl q).2⟩
  rw [hR, List.map_drop, h.row q, List.drop_drop]
  congr 1
  have := h.le q
  have := (hl q).1
  omega
/-- both are trimmed -/
theorem PRel.trim (h : PRel O T) (p : Int) (u : Nat) : PRel (O.trim p u) (T.trim p u) := by
  have ht := h.trimT p u
  have hlo : ∀ q, (T.trim p u).lo q = dropLo T.lo T.R p (min u (doneZ T p)) q := fun _ => rfl
  have hlo2 : ∀ q, (O.trim p u).lo q = dropLo O.lo O.R p (min u (doneZ O p)) q := fun _ => rfl
  have hR : ∀ q, (O.trim p u).R q = (O.R q).drop ((O.trim p u).lo q - O.lo q) := fun q => drop_row _ _ _ _ q
  have hs : ∀ q, (O.trim p u).lo q + ((O.trim p u).R q).length = O.lo q + (O.R q).length := fun q => drop_sum _ _ _ _ q
  have hl : ∀ q, O.lo q ≤ (O.trim p u).lo q ∧ (O.trim p u).lo q ≤ (T.trim p u).lo q := fun q => by
    have h1 := h.sum q
    have h2 := h.le q
    rw [hlo, hlo2, drop_lo, drop_lo, doneZ_eq h]
    split <;> omega
  refine ⟨h.me, h.mb, h.H, h.dn, h.ls, h.lf, fun q => (ht.sum q).trans (hs q).symm, fun q => (hl q).2, fun q => ?_, ht.low⟩
  rw [ht.row q, hR, List.map_drop, List.drop_drop]
  congr 1
  have := (hl q).1
  have := (hl q).2
  omega
end
theorem sort_filter (p : Msg → Bool) (l : List Msg) : (sortM l).filter p = sortM (l.filter p) := by
  refine sortM_uniq ((sortM_srt l).filter _) ⟨(sortM_same l).1.filter _, fun k => ?_⟩
  rw [List.filter_filter, List.filter_filter]
  have := (sortM_same l).2 k
  have e : ∀ r : List Msg, r.filter (fun a => (keyM a == k) && p a) = (r.filter (fun m => keyM m == k)).filter p := fun r => by
    rw [List.filter_filter]
    congr 1
    funext a
    exact Bool.and_comm _ _
  rw [e, e, this]
theorem core_filter {p q : Msg → Bool} (hp : ∀ a b, core a = core b → q a = p b) : ∀ {l l' : List Msg}, l'.map core = l.map core → (l'.filter q).map core = (l.filter p).map core
  | [], [], _ => rfl
  | [], b :: l', h => by simp at h
  | a :: l, [], h => by simp at h
  | a :: l, b :: l', h => by
    simp only [List.map_cons, List.cons.injEq] at h
    have ih := core_filter hp h.2
    have e := hp b a h.1
    rw [List.filter_cons, List.filter_cons, e]
    split
    · simp [h.1, ih]
    · exact ih
theorem flat_core {f g : Nat → List Msg} (h : ∀ p, p < 64 → (g p).map core = (f p).map core) : ∀ n, n ≤ 64 → ((List.range n).flatMap g).map core = ((List.range n).flatMap f).map core
  | 0, _ => rfl
  | n + 1, hn => by
    have ih := flat_core h n (by omega)
    rw [List.range_succ, List.flatMap_append, List.flatMap_append, List.map_append, List.map_append, ih]
    simp [h n (by omega)]
/-- what is left reads alike -/
theorem PRel.rest {O T : PO} {k : Nat} (h : PRel O T) (hi : InvO k O) : T.rest.map core = O.rest.map core := by
  unfold PO.rest
  rw [sort_filter, sort_filter]
  refine sortM_core ?_
  unfold aboveN
  rw [List.filter_filter, List.filter_filter, List.filter_flatMap, List.filter_flatMap]
  refine flat_core (fun p hp => ?_) 64 (Nat.le_refl _)
  have hd := h.le p
  have hs := h.sum p
  have hlow := h.low p
  have hc : ∀ a b, core a = core b → ((!doneB T a) && keyAh 0 (-1) a) = ((!doneB O b) && keyAh 0 (-1) b) := fun a b e => by
    obtain ⟨c1, c2, c3, _⟩ := core_iff.1 e
    unfold doneB keyAh
    rw [h.dn, c1, c2, c3]
  obtain ⟨d, hdd⟩ : ∃ d, d = T.lo p - O.lo p := ⟨_, rfl⟩
  have hrow : (T.R p).map core = ((O.R p).drop d).map core := by rw [h.row p, List.map_drop, hdd]
  rw [core_filter hc hrow]
  conv => rhs; rw [← List.take_append_drop d (O.R p)]
  rw [List.filter_append]
  have hnil : ((O.R p).take d).filter (fun a => (!doneB O a) && keyAh 0 (-1) a) = [] := by
    rw [List.filter_eq_nil_iff]
    intro m hm hx
    obtain ⟨j, hj, rfl⟩ := List.mem_iff_getElem.1 hm
    rw [List.length_take] at hj
    have hj2 : j < (O.R p).length := by omega
    rw [List.getElem_take] at hx
    obtain ⟨n1, n2⟩ := hi.hold.numb p hp j hj2
    rw [Bool.and_eq_true] at hx
    have hx1 := hx.1
    unfold doneB at hx1
    rw [n1, n2, ← h.dn] at hx1
    simp at hx1
    omega
  rw [hnil, List.nil_append]
end Go.Proofs.YtgjlcjbmcnofiaaDoor
