/-
  The judge, in plain: which rules it finds broken.
  Conditions: none.
-/
import Derived.Test.YtogagkgkmoppmaaGreatDoorZdBZs
import Derived.Test.YtogagkgkmoppmaaGreatDoorJuVZs
import Derived.Test.YtogagkgkmoppmaaGreatDoorJuN
namespace Go.Proofs.YtogagkgkmoppmaaGreatDoor
set_option linter.unusedVariables false
set_option linter.unusedSimpArgs false
open Go.RowKit GM
def badB (t : J) (q : Int) : Prop := (get t.bad q).getD false = true
theorem badB_br (t : J) (r : Int) (b : Bool) (q : Int) : badB (t.br r b) q ↔ badB t q ∨ (q = r ∧ b = true) := by
  unfold badB J.br
  cases b
  · simp
  · simp only [if_true, get_put]
    by_cases h : q = r
    · simp [h]
    · simp [h]
/-- t' is t but for more that is broken -/
structure Adds (t t' : J) (N : Int → Prop) : Prop where
  stays : t'.stays = t.stays
  bad : ∀ q, badB t' q ↔ badB t q ∨ N q
theorem Adds.refl (t : J) : Adds t t (fun _ => False) := ⟨rfl, fun q => by simp⟩
theorem Adds.congr {t t' : J} {N N' : Int → Prop} (h : Adds t t' N) (e : ∀ q, N q ↔ N' q) : Adds t t' N' := ⟨h.stays, fun q => by rw [h.bad q, e q]⟩
theorem Adds.trans {t t' t'' : J} {N N' : Int → Prop} (h : Adds t t' N) (k : Adds t' t'' N') : Adds t t'' (fun q => N q ∨ N' q) := ⟨k.stays.trans h.stays, fun q => by rw [k.bad q, h.bad q, or_assoc]⟩
theorem adds_br (t : J) (r : Int) (b : Bool) : Adds t (t.br r b) (fun q => q = r ∧ b = true) := ⟨(J.br_stays t r b).1, badB_br t r b⟩
theorem ex_succ {n : Nat} {C : Nat → Prop} : (∃ i, i < n + 1 ∧ C i) ↔ (∃ i, i < n ∧ C i) ∨ C n := by
  constructor
  · rintro ⟨i, hi, h⟩
    by_cases e : i = n
    · exact .inr (e ▸ h)
    · exact .inl ⟨i, by omega, h⟩
  · rintro (⟨i, hi, h⟩ | h)
    · exact ⟨i, by omega, h⟩
    · exact ⟨n, by omega, h⟩
/-- a row of steps, each of which adds something -/
theorem adds_rec {t : J} {f : Nat → J} {C : Nat → Int → Prop} (h0 : f 0 = t) (hs : ∀ n, (f n).stays = t.stays → Adds (f n) (f (n + 1)) (C n)) : ∀ n, Adds t (f n) (fun q => ∃ i, i < n ∧ C i q)
  | 0 => by
    rw [h0]
    exact (Adds.refl t).congr fun q => ⟨False.elim, fun ⟨i, hi, _⟩ => by omega⟩
  | n + 1 => ((adds_rec h0 hs n).trans (hs n (adds_rec h0 hs n).stays)).congr fun q => ex_succ.symm
section
variable (l : List Ev)
def Beh (i : Nat) : Prop := ∃ x, l[i]? = some x ∧ x.kind = 2 ∧ cntJ l i x ≠ 1
theorem adds_behind (t : J) (n : Nat) : Adds t (t.behind l n) (fun q => ∃ i, i < n ∧ q = 2 ∧ Beh l i) := by
  refine adds_rec (f := fun n => t.behind l n) (C := fun i q => q = 2 ∧ Beh l i) rfl (fun n hn => ?_) n
  show Adds (t.behind l n) ((t.behind l n).behind1 l n) _
  unfold J.behind1 Beh
  cases hx : l[n]? with
  | none =>
    refine (Adds.refl _).congr fun q => ?_
    simp
  | some x =>
    simp only
    by_cases hs : isSend x = true
    · rw [if_pos hs]
      refine (Adds.refl _).congr fun q => ⟨False.elim, fun ⟨_, y, e, k, _⟩ => ?_⟩
      injection e with e
      subst e
      unfold isSend at hs
      simp only [Bool.and_eq_true, decide_eq_true_eq] at hs
      omega
    · rw [if_neg hs]
      by_cases hk : x.kind = 2
      · rw [if_pos hk]
        refine (adds_br _ _ _).congr fun q => ?_
        simp [hk]
      · rw [if_neg hk]
        refine (Adds.refl _).congr fun q => ⟨False.elim, fun ⟨_, y, e, k, _⟩ => ?_⟩
        injection e with e
        subst e
        exact hk k
def Twi (i : Nat) : Prop := ∃ x, l[i]? = some x ∧ x.kind = 2 ∧ (List.range i).any (hadAt l (hadJ x)) = true
theorem adds_twice (t : J) (n : Nat) : Adds t (t.twice l n) (fun q => ∃ i, i < n ∧ q = 3 ∧ Twi l i) := by
  refine adds_rec (f := fun n => t.twice l n) (C := fun i q => q = 3 ∧ Twi l i) rfl (fun n hn => ?_) n
  show Adds (t.twice l n) ((t.twice l n).twice1 l n) _
  unfold J.twice1 Twi
  cases hx : l[n]? with
  | none =>
    refine (Adds.refl _).congr fun q => ?_
    simp
  | some x =>
    simp only
    by_cases hk : x.kind = 2
    · rw [if_pos hk]
      refine (adds_br _ _ _).congr fun q => ?_
      constructor
      · rintro ⟨h1, h2⟩
        exact ⟨h1, x, rfl, hk, h2⟩
      · rintro ⟨h1, y, e, _, h2⟩
        injection e with e
        subst e
        exact ⟨h1, h2⟩
    · rw [if_neg hk]
      refine (Adds.refl _).congr fun q => ⟨False.elim, fun ⟨_, y, e, k, _⟩ => ?_⟩
      injection e with e
      subst e
      exact hk k
def Dep (L : List (Nat × Bool)) (ds : List Nat) : Prop := ∃ d, d < ds.length ∧ (cntG l L (d : Int) : Int) < ((ds.getD d 0 : Nat) : Int)
theorem adds_deps (t : J) (L : List (Nat × Bool)) (ds : List Nat) : Adds t (t.deps l L ds ds.length) (fun q => q = 4 ∧ Dep l L ds) := by
  refine (adds_rec (f := fun n => t.deps l L ds n) (C := fun d q => q = 4 ∧ (cntG l L (d : Int) : Int) < ((ds.getD d 0 : Nat) : Int)) rfl (fun n hn => ?_) ds.length).congr fun q => ?_
  · refine (adds_br _ _ _).congr fun q => ?_
    rw [decide_eq_true_eq]
  · unfold Dep
    constructor
    · rintro ⟨i, h1, h2, h3⟩
      exact ⟨h2, i, h1, h3⟩
    · rintro ⟨h2, i, h1, h3⟩
      exact ⟨i, h1, h2, h3⟩
/-- a stay's deliveries: their keys rise; what each had -/
def Key1 (L : List (Nat × Bool)) (i : Nat) (g : Nat × Bool) : Prop := ∃ p, 0 < i ∧ L[i - 1]? = some p ∧ lessJ (gotM l p) (gotM l g) = true
theorem adds_keys1 (t : J) (L : List (Nat × Bool)) (i : Nat) : Adds t (t.keys1 l L i) (fun q => ∃ g, L[i]? = some g ∧ ((q = 3 ∧ Key1 l L i g) ∨ (q = 4 ∧ Dep l (L.take i) (gotM l g).ds))) := by
  unfold J.keys1
  cases hg : L[i]? with
  | none => exact (Adds.refl _).congr fun q => by simp
  | some g =>
    refine ((adds_br t 3 _).trans (adds_deps l _ (L.take i) (gotM l g).ds)).congr fun q => ?_
    simp only [Option.some.injEq, exists_eq_left']
    refine or_congr (and_congr Iff.rfl ?_) Iff.rfl
    unfold Key1
    cases hp : L[i - 1]? with
    | none => simp
    | some p => simp
theorem adds_keys (t : J) (L : List (Nat × Bool)) (n : Nat) : Adds t (t.keys l L n) (fun q => ∃ i, i < n ∧ ∃ g, L[i]? = some g ∧ ((q = 3 ∧ Key1 l L i g) ∨ (q = 4 ∧ Dep l (L.take i) (gotM l g).ds))) :=
  adds_rec (f := fun n => t.keys l L n) (C := fun i q => ∃ g, L[i]? = some g ∧ ((q = 3 ∧ Key1 l L i g) ∨ (q = 4 ∧ Dep l (L.take i) (gotM l g).ds))) rfl (fun n hn => adds_keys1 l _ L n) n
def Onc (s : JS) (q : Int) : Prop := ∃ (i : Nat) (g : Nat × Bool), s.gots[i]? = some g ∧ ((q = 3 ∧ Key1 l s.gots i g) ∨ (q = 4 ∧ Dep l (s.gots.take i) (gotM l g).ds))
theorem adds_once (t : J) : Adds t (t.once l t.stays.length) (fun q => ∃ (k : Nat) (s : JS), t.stays[k]? = some s ∧ Onc l s q) := by
  refine (adds_rec (f := fun n => t.once l n) (C := fun k q => ∃ s, t.stays[k]? = some s ∧ Onc l s q) rfl (fun n hn => ?_) t.stays.length).congr fun q => ?_
  · show Adds (t.once l n) (match t.stays[n]? with
      | none => t.once l n
      | some s => (t.once l n).keys l s.gots s.gots.length) _
    cases hs : t.stays[n]? with
    | none => exact (Adds.refl _).congr fun q => by simp
    | some s =>
      refine (adds_keys l _ s.gots s.gots.length).congr fun q => ?_
      unfold Onc
      constructor
      · rintro ⟨i, _, g, h⟩
        exact ⟨s, rfl, i, g, h⟩
      · rintro ⟨s', e, i, g, h1, h2⟩
        injection e with e
        subst e
        exact ⟨i, (List.getElem?_eq_some_iff.1 h1).1, g, h1, h2⟩
  · constructor
    · rintro ⟨k, _, s, h⟩
      exact ⟨k, s, h⟩
    · rintro ⟨k, s, h1, h2⟩
      exact ⟨k, (List.getElem?_eq_some_iff.1 h1).1, s, h1, h2⟩
def Par (a b : JS) : Prop := pairJ l a b = true ∧ diffJ l a b = true
theorem adds_pairs (t : J) (a : JS) (u : J) (hu : u.stays = t.stays) (n : Nat) : Adds u (u.pairs l a n) (fun q => ∃ j, j < n ∧ ∃ b : JS, u.stays[j]? = some b ∧ q = 5 ∧ Par l a b) := by
  refine adds_rec (f := fun n => u.pairs l a n) (C := fun j q => ∃ b : JS, u.stays[j]? = some b ∧ q = 5 ∧ Par l a b) rfl (fun n hn => ?_) n
  show Adds (u.pairs l a n) (match u.stays[n]? with
    | none => u.pairs l a n
    | some b => (u.pairs l a n).pair l a b) _
  cases hs : u.stays[n]? with
  | none => exact (Adds.refl _).congr fun q => by simp
  | some b =>
    simp only [Option.some.injEq, exists_eq_left']
    unfold J.pair Par
    by_cases hp : pairJ l a b = true
    · rw [if_pos hp]
      refine (adds_br _ _ _).congr fun q => ?_
      simp [hp]
    · rw [if_neg hp]
      refine (Adds.refl _).congr fun q => ?_
      simp [hp]
def Saf (a b : JS) : Prop := ∃ (i : Nat) (g : Nat × Bool), a.gots[i]? = some g ∧ ((gotM l g).service = 2 ∧ hasB (memJ l a g) b.proc = true) ∧ hasJ l b (gotM l g) = false
theorem adds_safe (t : J) (a b : JS) : Adds t (t.safe l a b a.gots.length) (fun q => q = 6 ∧ Saf l a b) := by
  refine (adds_rec (f := fun n => t.safe l a b n) (C := fun i q => ∃ g, a.gots[i]? = some g ∧ q = 6 ∧ ((gotM l g).service = 2 ∧ hasB (memJ l a g) b.proc = true) ∧ hasJ l b (gotM l g) = false) rfl (fun n hn => ?_) a.gots.length).congr fun q => ?_
  · show Adds (t.safe l a b n) ((t.safe l a b n).safe1 l a b n) _
    unfold J.safe1
    cases hg : a.gots[n]? with
    | none => exact (Adds.refl _).congr fun q => by simp
    | some g =>
      simp only [Option.some.injEq, exists_eq_left']
      refine (adds_br _ _ _).congr fun q => ?_
      simp only [Bool.and_eq_true, decide_eq_true_eq, Bool.not_eq_true']
  · unfold Saf
    constructor
    · rintro ⟨i, _, g, h1, h2, h3⟩
      exact ⟨h2, i, g, h1, h3⟩
    · rintro ⟨h2, i, g, h1, h3⟩
      exact ⟨i, (List.getElem?_eq_some_iff.1 h1).1, g, h1, h2, h3⟩
theorem adds_safes (u : J) (a : JS) (n : Nat) : Adds u (u.safes l a n) (fun q => ∃ j, j < n ∧ ∃ b : JS, u.stays[j]? = some b ∧ q = 6 ∧ (a.cf = b.cf ∧ b.nx.isSome = true) ∧ Saf l a b) := by
  refine adds_rec (f := fun n => u.safes l a n) (C := fun j q => ∃ b : JS, u.stays[j]? = some b ∧ q = 6 ∧ (a.cf = b.cf ∧ b.nx.isSome = true) ∧ Saf l a b) rfl (fun n hn => ?_) n
  show Adds (u.safes l a n) (match u.stays[n]? with
    | none => u.safes l a n
    | some b => if decide (a.cf = b.cf) && b.nx.isSome then (u.safes l a n).safe l a b a.gots.length else u.safes l a n) _
  cases hs : u.stays[n]? with
  | none => exact (Adds.refl _).congr fun q => by simp
  | some b =>
    simp only [Option.some.injEq, exists_eq_left']
    by_cases hp : (decide (a.cf = b.cf) && b.nx.isSome) = true
    · rw [if_pos hp]
      refine (adds_safe l _ a b).congr fun q => ?_
      simp only [Bool.and_eq_true, decide_eq_true_eq] at hp
      simp [hp]
    · rw [if_neg hp]
      refine (Adds.refl _).congr fun q => ?_
      simp only [Bool.and_eq_true, decide_eq_true_eq] at hp
      constructor
      · exact False.elim
      · rintro ⟨_, h, _⟩
        exact hp h
def Tog (t : J) (q : Int) : Prop := (q = 5 ∧ ∃ (i j : Nat) (a b : JS), j < i ∧ t.stays[i]? = some a ∧ t.stays[j]? = some b ∧ Par l a b) ∨ (q = 6 ∧ ∃ (i j : Nat) (a b : JS), t.stays[i]? = some a ∧ t.stays[j]? = some b ∧ (a.cf = b.cf ∧ b.nx.isSome = true) ∧ Saf l a b)
theorem adds_tog (t : J) : Adds t (t.tog l t.stays.length) (Tog l t) := by
  refine (adds_rec (t := t) (f := fun n => t.tog l n) (C := fun i q => ∃ a, t.stays[i]? = some a ∧ ((∃ j, j < i ∧ ∃ b, t.stays[j]? = some b ∧ q = 5 ∧ Par l a b) ∨ (∃ j, j < t.stays.length ∧ ∃ b, t.stays[j]? = some b ∧ q = 6 ∧ (a.cf = b.cf ∧ b.nx.isSome = true) ∧ Saf l a b))) rfl (fun n hn => ?_) t.stays.length).congr fun q => ?_
  · show Adds (t.tog l n) ((t.tog l n).tog1 l n) _
    unfold J.tog1
    rw [hn]
    cases hs : t.stays[n]? with
    | none => exact (Adds.refl _).congr fun q => by simp
    | some a =>
      simp only [Option.some.injEq, exists_eq_left']
      have h1 := adds_pairs l t a (t.tog l n) hn n
      have h2 := adds_safes l ((t.tog l n).pairs l a n) a t.stays.length
      rw [hn] at h1
      rw [h1.stays, hn] at h2
      exact h1.trans h2
  · unfold Tog
    constructor
    · rintro ⟨i, hi, a, ha, ⟨j, hj, b, hb, h1, h2⟩ | ⟨j, hj, b, hb, h1, h2⟩⟩
      · exact .inl ⟨h1, i, j, a, b, hj, ha, hb, h2⟩
      · exact .inr ⟨h1, i, j, a, b, ha, hb, h2⟩
    · rintro (⟨h1, i, j, a, b, hj, ha, hb, h2⟩ | ⟨h1, i, j, a, b, ha, hb, h2⟩)
      · exact ⟨i, (List.getElem?_eq_some_iff.1 ha).1, a, ha, .inl ⟨j, hj, b, hb, h1, h2⟩⟩
      · exact ⟨i, (List.getElem?_eq_some_iff.1 ha).1, a, ha, .inr ⟨j, (List.getElem?_eq_some_iff.1 hb).1, b, hb, h1, h2⟩⟩
/-- all that is found broken in a trace that was gone through -/
def Found (t : J) (n : Nat) (q : Int) : Prop := (q = 2 ∧ ∃ i, i < n ∧ Beh l i) ∨ (q = 3 ∧ ∃ i, i < n ∧ Twi l i) ∨ (∃ (k : Nat) (s : JS), t.stays[k]? = some s ∧ Onc l s q) ∨ Tog l t q
theorem judged_bad (nm : Nat → List NameK) (q : Int) : badB (judged l nm) q ↔ badB (thru l nm l.length) q ∨ Found l (thru l nm l.length) l.length q := by
  obtain ⟨t, ht⟩ : ∃ t, t = thru l nm l.length := ⟨_, rfl⟩
  unfold judged
  rw [← ht]
  have h1 := adds_behind l t l.length
  have h2 := adds_twice l (t.behind l l.length) l.length
  have h12 := h1.trans h2
  have h3 := adds_once l ((t.behind l l.length).twice l l.length)
  have h123 := h12.trans h3
  have h4 := adds_tog l (((t.behind l l.length).twice l l.length).once l ((t.behind l l.length).twice l l.length).stays.length)
  have h := (h123.trans h4).bad q
  simp only
  rw [h]
  refine or_congr Iff.rfl ?_
  unfold Found
  have e1 : ((t.behind l l.length).twice l l.length).stays = t.stays := h12.stays
  have e2 : ∀ u : J, u.stays = t.stays → (Tog l u q ↔ Tog l t q) := fun u hu => by
    unfold Tog
    rw [hu]
  rw [e2 _ h123.stays, e1]
  constructor
  · rintro (((⟨i, k, k1, k2⟩ | ⟨i, k, k1, k2⟩) | k) | k)
    · exact .inl ⟨k1, i, k, k2⟩
    · exact .inr (.inl ⟨k1, i, k, k2⟩)
    · exact .inr (.inr (.inl k))
    · exact .inr (.inr (.inr k))
  · rintro (⟨k1, i, k, k2⟩ | ⟨k1, i, k, k2⟩ | k | k)
    · exact .inl (.inl (.inl ⟨i, k, k1, k2⟩))
    · exact .inl (.inl (.inr ⟨i, k, k1, k2⟩))
    · exact .inl (.inr k)
    · exact .inr k
end
end Go.Proofs.YtogagkgkmoppmaaGreatDoor
namespace Go.Proofs.YtogagkgkmoppmaaGreatDoor
set_option linter.unusedVariables false
set_option linter.unusedSimpArgs false
open Go.RowKit GM
def lessM (y z : Msg) : Prop := 0 ≤ keyZ (y.stamp : Int) y.frm (z.stamp : Int) z.frm
def cntF (L : List Msg) (q : Int) : Nat := (L.filter fun m => decide (m.frm = q)).length
def DepM (L : List Msg) (z : Msg) : Prop := ∃ d, d < z.ds.length ∧ (cntF L (d : Int) : Int) < ((z.ds.getD d 0 : Nat) : Int)
def Ord3 (L : List Msg) : Prop := ∃ (i : Nat) (y z : Msg), L[i]? = some y ∧ L[i + 1]? = some z ∧ lessM y z
def Dep4 (L : List Msg) : Prop := ∃ (i : Nat) (z : Msg), L[i]? = some z ∧ DepM (L.take i) z
theorem ord3_snoc (L : List Msg) (m : Msg) : Ord3 (L ++ [m]) ↔ Ord3 L ∨ ∃ y, L.getLast? = some y ∧ lessM y m := by
  constructor
  · rintro ⟨i, y, z, h1, h2, h3⟩
    have hl := (List.getElem?_eq_some_iff.1 h2).1
    simp only [List.length_append, List.length_cons, List.length_nil] at hl
    rw [List.getElem?_append_left (by omega)] at h1
    by_cases h : i + 1 < L.length
    · rw [List.getElem?_append_left h] at h2
      exact .inl ⟨i, y, z, h1, h2, h3⟩
    · rw [List.getElem?_append_right (by omega), show i + 1 - L.length = 0 by omega] at h2
      injection h2 with h2
      subst h2
      refine .inr ⟨y, ?_, h3⟩
      rw [List.getLast?_eq_getElem?, show L.length - 1 = i by omega]
      exact h1
  · rintro (⟨i, y, z, h1, h2, h3⟩ | ⟨y, h1, h3⟩)
    · exact ⟨i, y, z, by rw [List.getElem?_append_left (List.getElem?_eq_some_iff.1 h1).1]; exact h1, by rw [List.getElem?_append_left (List.getElem?_eq_some_iff.1 h2).1]; exact h2, h3⟩
    · rw [List.getLast?_eq_getElem?] at h1
      have hl := (List.getElem?_eq_some_iff.1 h1).1
      refine ⟨L.length - 1, y, m, by rw [List.getElem?_append_left hl]; exact h1, ?_, h3⟩
      rw [show L.length - 1 + 1 = L.length by omega]
      simp
theorem dep4_snoc (L : List Msg) (m : Msg) : Dep4 (L ++ [m]) ↔ Dep4 L ∨ DepM L m := by
  constructor
  · rintro ⟨i, z, h1, h2⟩
    have hl := (List.getElem?_eq_some_iff.1 h1).1
    simp only [List.length_append, List.length_cons, List.length_nil] at hl
    rw [List.take_append_of_le_length (by omega)] at h2
    by_cases h : i < L.length
    · rw [List.getElem?_append_left h] at h1
      exact .inl ⟨i, z, h1, h2⟩
    · rw [List.getElem?_append_right (by omega), show i - L.length = 0 by omega] at h1
      injection h1 with h1
      subst h1
      rw [List.take_of_length_le (by omega)] at h2
      exact .inr h2
  · rintro (⟨i, z, h1, h2⟩ | h2)
    · have hl := (List.getElem?_eq_some_iff.1 h1).1
      exact ⟨i, z, by rw [List.getElem?_append_left hl]; exact h1, by rw [List.take_append_of_le_length (by omega)]; exact h2⟩
    · exact ⟨L.length, m, by simp, by rw [List.take_append_of_le_length (Nat.le_refl _), List.take_length]; exact h2⟩
theorem cntF_snoc (L : List Msg) (m : Msg) (q : Int) : cntF (L ++ [m]) q = cntF L q + (if m.frm = q then 1 else 0) := by
  unfold cntF
  rw [List.filter_append, List.length_append, List.filter_cons, List.filter_nil]
  simp only [decide_eq_true_eq]
  split <;> rfl
def S3 (S : List PS) : Prop := ∃ (k : Nat) (s : PS), S[k]? = some s ∧ Ord3 (s.p0 ++ s.p1)
def S4 (S : List PS) : Prop := ∃ (k : Nat) (s : PS), S[k]? = some s ∧ Dep4 (s.p0 ++ s.p1)
def S5 (S : List PS) : Prop := ∃ (i j : Nat) (a b : PS), S[i]? = some a ∧ S[j]? = some b ∧ i ≠ j ∧ P5 a b
def S6 (S : List PS) : Prop := ∃ (i j : Nat) (a b : PS), S[i]? = some a ∧ S[j]? = some b ∧ (a.conf = b.conf ∧ b.went = true) ∧ Ow b a
section
variable {f g : Nat → Option PS} {k : Nat} {s : PS}
theorem one_gen {C : PS → Prop} (hk : f k = some s) (hne : ∀ j, j ≠ k → f j = g j) : (∃ (j : Nat) (u : PS), f j = some u ∧ C u) ↔ C s ∨ ∃ (j : Nat) (u : PS), j ≠ k ∧ g j = some u ∧ C u := by
  constructor
  · rintro ⟨j, u, h1, h2⟩
    by_cases e : j = k
    · subst e
      rw [hk] at h1
      injection h1 with h1
      subst h1
      exact .inl h2
    · exact .inr ⟨j, u, e, (hne j e) ▸ h1, h2⟩
  · rintro (h | ⟨j, u, e, h1, h2⟩)
    · exact ⟨k, s, hk, h⟩
    · exact ⟨j, u, (hne j e).trans h1, h2⟩
theorem two_gen {C : Nat → Nat → PS → PS → Prop} (hk : f k = some s) (hne : ∀ j, j ≠ k → f j = g j) : (∃ (i j : Nat) (a b : PS), f i = some a ∧ f j = some b ∧ C i j a b) ↔
    (∃ (i j : Nat) (a b : PS), i ≠ k ∧ j ≠ k ∧ g i = some a ∧ g j = some b ∧ C i j a b) ∨ (∃ (j : Nat) (b : PS), j ≠ k ∧ g j = some b ∧ C k j s b) ∨ (∃ (i : Nat) (a : PS), i ≠ k ∧ g i = some a ∧ C i k a s) ∨ C k k s s := by
  constructor
  · rintro ⟨i, j, a, b, h1, h2, h3⟩
    by_cases e1 : i = k
    · subst e1
      rw [hk] at h1
      injection h1 with h1
      subst h1
      by_cases e2 : j = i
      · subst e2
        rw [hk] at h2
        injection h2 with h2
        subst h2
        exact .inr (.inr (.inr h3))
      · exact .inr (.inl ⟨j, b, e2, (hne j e2) ▸ h2, h3⟩)
    · by_cases e2 : j = k
      · subst e2
        rw [hk] at h2
        injection h2 with h2
        subst h2
        exact .inr (.inr (.inl ⟨i, a, e1, (hne i e1) ▸ h1, h3⟩))
      · exact .inl ⟨i, j, a, b, e1, e2, (hne i e1) ▸ h1, (hne j e2) ▸ h2, h3⟩
  · rintro (⟨i, j, a, b, e1, e2, h1, h2, h3⟩ | ⟨j, b, e, h1, h2⟩ | ⟨i, a, e, h1, h2⟩ | h)
    · exact ⟨i, j, a, b, (hne i e1).trans h1, (hne j e2).trans h2, h3⟩
    · exact ⟨k, j, s, b, hk, (hne j e).trans h1, h2⟩
    · exact ⟨i, k, a, s, (hne i e).trans h1, hk, h2⟩
    · exact ⟨k, k, s, s, hk, hk, h⟩
end
section
variable {S : List PS} {k : Nat} {p p' : PS}
theorem set_k (h : S[k]? = some p) : (S.set k p')[k]? = some p' := by
  have := (List.getElem?_eq_some_iff.1 h).1
  simp [this]
theorem set_ne {j : Nat} (e : j ≠ k) : (S.set k p')[j]? = S[j]? := List.getElem?_set_ne (Ne.symm e)
theorem one_set {C : PS → Prop} (h : S[k]? = some p) : (∃ (j : Nat) (u : PS), (S.set k p')[j]? = some u ∧ C u) ↔ C p' ∨ ∃ (j : Nat) (u : PS), j ≠ k ∧ S[j]? = some u ∧ C u :=
  one_gen (f := fun j => (S.set k p')[j]?) (g := fun j => S[j]?) (set_k h) (fun j e => set_ne e)
theorem one_old {C : PS → Prop} (h : S[k]? = some p) : (∃ (j : Nat) (u : PS), S[j]? = some u ∧ C u) ↔ C p ∨ ∃ (j : Nat) (u : PS), j ≠ k ∧ S[j]? = some u ∧ C u :=
  one_gen (f := fun j => S[j]?) (g := fun j => S[j]?) h (fun j e => rfl)
theorem one_app {C : PS → Prop} : (∃ (j : Nat) (u : PS), (S ++ [p])[j]? = some u ∧ C u) ↔ C p ∨ ∃ (j : Nat) (u : PS), S[j]? = some u ∧ C u := by
  rw [one_gen (f := fun j => (S ++ [p])[j]?) (g := fun j => S[j]?) (k := S.length) (s := p) (by simp) (fun j e => by
    rcases Nat.lt_or_ge j S.length with h | h
    · exact List.getElem?_append_left h
    · rw [List.getElem?_eq_none (by simp; omega), List.getElem?_eq_none h])]
  refine or_congr Iff.rfl ⟨fun ⟨j, u, _, h⟩ => ⟨j, u, h⟩, fun ⟨j, u, h⟩ => ⟨j, u, ?_, h⟩⟩
  have := (List.getElem?_eq_some_iff.1 h.1).1
  omega
theorem two_set {C : Nat → Nat → PS → PS → Prop} (h : S[k]? = some p) : (∃ (i j : Nat) (a b : PS), (S.set k p')[i]? = some a ∧ (S.set k p')[j]? = some b ∧ C i j a b) ↔
    (∃ (i j : Nat) (a b : PS), i ≠ k ∧ j ≠ k ∧ S[i]? = some a ∧ S[j]? = some b ∧ C i j a b) ∨ (∃ (j : Nat) (b : PS), j ≠ k ∧ S[j]? = some b ∧ C k j p' b) ∨ (∃ (i : Nat) (a : PS), i ≠ k ∧ S[i]? = some a ∧ C i k a p') ∨ C k k p' p' :=
  two_gen (f := fun j => (S.set k p')[j]?) (g := fun j => S[j]?) (set_k h) (fun j e => set_ne e)
theorem two_old {C : Nat → Nat → PS → PS → Prop} (h : S[k]? = some p) : (∃ (i j : Nat) (a b : PS), S[i]? = some a ∧ S[j]? = some b ∧ C i j a b) ↔
    (∃ (i j : Nat) (a b : PS), i ≠ k ∧ j ≠ k ∧ S[i]? = some a ∧ S[j]? = some b ∧ C i j a b) ∨ (∃ (j : Nat) (b : PS), j ≠ k ∧ S[j]? = some b ∧ C k j p b) ∨ (∃ (i : Nat) (a : PS), i ≠ k ∧ S[i]? = some a ∧ C i k a p) ∨ C k k p p :=
  two_gen (f := fun j => S[j]?) (g := fun j => S[j]?) h (fun j e => rfl)
theorem two_app {C : Nat → Nat → PS → PS → Prop} (h1 : ∀ i j a, ¬ C i j a p) (h2 : ∀ i j b, ¬ C i j p b) : (∃ (i j : Nat) (a b : PS), (S ++ [p])[i]? = some a ∧ (S ++ [p])[j]? = some b ∧ C i j a b) ↔ ∃ (i j : Nat) (a b : PS), S[i]? = some a ∧ S[j]? = some b ∧ C i j a b := by
  rw [two_gen (f := fun j => (S ++ [p])[j]?) (g := fun j => S[j]?) (k := S.length) (s := p) (by simp) (fun j e => by
    rcases Nat.lt_or_ge j S.length with h | h
    · exact List.getElem?_append_left h
    · rw [List.getElem?_eq_none (by simp; omega), List.getElem?_eq_none h])]
  constructor
  · rintro (⟨i, j, a, b, _, _, h3, h4, h5⟩ | ⟨j, b, _, _, h⟩ | ⟨j, b, _, _, h⟩ | h)
    · exact ⟨i, j, a, b, h3, h4, h5⟩
    · exact absurd h (h2 _ _ _)
    · exact absurd h (h1 _ _ _)
    · exact absurd h (h1 _ _ _)
  · rintro ⟨i, j, a, b, h3, h4, h5⟩
    have := (List.getElem?_eq_some_iff.1 h3).1
    have := (List.getElem?_eq_some_iff.1 h4).1
    exact .inl ⟨i, j, a, b, by omega, by omega, h3, h4, h5⟩
theorem sameM_symm (a b : Msg) : sameM a b = sameM b a := by
  unfold sameM
  rw [Bool.eq_iff_iff]
  simp only [decide_eq_true_eq]
  constructor <;> (rintro ⟨h1, h2, h3, h4, h5, h6⟩; exact ⟨h1.symm, h2.symm, h3.symm, h4.symm, h5.symm, h6.symm⟩)
theorem sameL_symm : ∀ a b : List Msg, sameL a b = sameL b a
  | [], [] => rfl
  | [], _ :: _ => rfl
  | _ :: _, [] => rfl
  | x :: a, y :: b => by
    show (sameM x y && sameL a b) = (sameM y x && sameL b a)
    rw [sameM_symm, sameL_symm a b]
theorem P5.symm {a b : PS} (h : P5 a b) : P5 b a := by
  obtain ⟨h1, h2, h3, h4, t, u, h5, h6, h7, h8⟩ := h
  refine ⟨h1.symm, Ne.symm h2, h4, h3, u, t, h6, h5, h7.symm, ?_⟩
  rw [sameL_symm b.p0, sameL_symm b.p1, show (u.2 == t.2) = (t.2 == u.2) from BEq.comm]
  exact h8
theorem s3_set (h : S[k]? = some p) {N : Prop} (hc : Ord3 (p'.p0 ++ p'.p1) ↔ Ord3 (p.p0 ++ p.p1) ∨ N) : S3 (S.set k p') ↔ S3 S ∨ N := by
  unfold S3
  rw [one_set (C := fun s => Ord3 (s.p0 ++ s.p1)) h, one_old (C := fun s => Ord3 (s.p0 ++ s.p1)) h, hc, or_right_comm]
theorem s4_set (h : S[k]? = some p) {N : Prop} (hc : Dep4 (p'.p0 ++ p'.p1) ↔ Dep4 (p.p0 ++ p.p1) ∨ N) : S4 (S.set k p') ↔ S4 S ∨ N := by
  unfold S4
  rw [one_set (C := fun s => Dep4 (s.p0 ++ s.p1)) h, one_old (C := fun s => Dep4 (s.p0 ++ s.p1)) h, hc, or_right_comm]
theorem s5_same (h : S[k]? = some p) (hw : p.went = false) (hw' : p'.went = false) : S5 (S.set k p') ↔ S5 S := by
  unfold S5
  rw [two_set (C := fun i j a b => i ≠ j ∧ P5 a b) h, two_old (C := fun i j a b => i ≠ j ∧ P5 a b) h]
  have n1 : ∀ b, ¬ P5 p b := fun b h => by have := h.2.2.1; rw [hw] at this; cases this
  have n2 : ∀ b, ¬ P5 b p := fun b h => by have := h.2.2.2.1; rw [hw] at this; cases this
  have n3 : ∀ b, ¬ P5 p' b := fun b h => by have := h.2.2.1; rw [hw'] at this; cases this
  have n4 : ∀ b, ¬ P5 b p' := fun b h => by have := h.2.2.2.1; rw [hw'] at this; cases this
  simp only [n1, n2, n3, n4, and_false, exists_false, or_false]
theorem s5_gone (h : S[k]? = some p) (hw : p.went = false) : S5 (S.set k p') ↔ S5 S ∨ ∃ (j : Nat) (o : PS), j ≠ k ∧ (S.set k p')[j]? = some o ∧ P5 o p' := by
  unfold S5
  rw [two_set (C := fun i j a b => i ≠ j ∧ P5 a b) h, two_old (C := fun i j a b => i ≠ j ∧ P5 a b) h]
  have n1 : ∀ b, ¬ P5 p b := fun b h => by have := h.2.2.1; rw [hw] at this; cases this
  have n2 : ∀ b, ¬ P5 b p := fun b h => by have := h.2.2.2.1; rw [hw] at this; cases this
  simp only [n1, n2, and_false, exists_false, or_false, ne_eq, not_true_eq_false, false_and]
  refine or_congr Iff.rfl ?_
  constructor
  · rintro (⟨j, b, e, h1, h2, h3⟩ | ⟨j, b, e, h1, h2, h3⟩)
    · exact ⟨j, b, e, (set_ne e).trans h1, h3.symm⟩
    · exact ⟨j, b, e, (set_ne e).trans h1, h3⟩
  · rintro ⟨j, b, e, h1, h3⟩
    exact .inr ⟨j, b, e, (set_ne e).symm.trans h1, e, h3⟩
theorem s6_set (h : S[k]? = some p) (hw : p.went = false) (hw' : p'.went = false) (hc : p'.conf = p.conf) {X : PS → Prop} (hOw : ∀ b, Ow b p' ↔ Ow b p ∨ X b) : S6 (S.set k p') ↔ S6 S ∨ ∃ b ∈ S.set k p', (b.conf = p.conf ∧ b.went = true) ∧ X b := by
  unfold S6
  have e1 : (∃ b ∈ S.set k p', (b.conf = p.conf ∧ b.went = true) ∧ X b) ↔ ∃ (j : Nat) (u : PS), (S.set k p')[j]? = some u ∧ (u.conf = p.conf ∧ u.went = true) ∧ X u := by
    constructor
    · rintro ⟨b, hb, h⟩
      obtain ⟨j, hj⟩ := List.mem_iff_getElem?.1 hb
      exact ⟨j, b, hj, h⟩
    · rintro ⟨j, b, hj, h⟩
      exact ⟨b, List.mem_of_getElem? hj, h⟩
  rw [e1, one_set (C := fun u => (u.conf = p.conf ∧ u.went = true) ∧ X u) h, two_set (C := fun i j a b => (a.conf = b.conf ∧ b.went = true) ∧ Ow b a) h, two_old (C := fun i j a b => (a.conf = b.conf ∧ b.went = true) ∧ Ow b a) h]
  simp only [hw, hw', Bool.false_eq_true, and_false, false_and, exists_false, or_false, false_or, hc, hOw]
  constructor
  · rintro (h | ⟨j, b, e, h1, ⟨h2, h3⟩, h4 | h4⟩)
    · exact .inl (.inl h)
    · exact .inl (.inr ⟨j, b, e, h1, ⟨h2, h3⟩, h4⟩)
    · exact .inr ⟨j, b, e, h1, ⟨h2.symm, h3⟩, h4⟩
  · rintro ((h | ⟨j, b, e, h1, h2, h4⟩) | ⟨j, b, e, h1, ⟨h2, h3⟩, h4⟩)
    · exact .inl h
    · exact .inr ⟨j, b, e, h1, h2, .inl h4⟩
    · exact .inr ⟨j, b, e, h1, ⟨h2.symm, h3⟩, .inr h4⟩
theorem s6_gone (h : S[k]? = some p) (hw : p.went = false) (hp : p' = { p with went := true }) : S6 (S.set k p') ↔ S6 S ∨ ∃ (j : Nat) (o : PS), (S.set k p')[j]? = some o ∧ o.conf = p'.conf ∧ Ow p' o := by
  unfold S6
  have e2 : ∀ b, Ow b p' ↔ Ow b p := fun b => by rw [hp]; rfl
  have hw' : p'.went = true := by rw [hp]
  have hc : p'.conf = p.conf := by rw [hp]
  rw [one_set (C := fun u => u.conf = p'.conf ∧ Ow p' u) h, two_set (C := fun i j a b => (a.conf = b.conf ∧ b.went = true) ∧ Ow b a) h, two_old (C := fun i j a b => (a.conf = b.conf ∧ b.went = true) ∧ Ow b a) h]
  simp only [e2, hw, hw', hc, Bool.false_eq_true, and_false, false_and, exists_false, or_false, false_or, and_true, true_and]
  constructor
  · rintro (h | h | h | h)
    · exact .inl (.inl h)
    · exact .inl (.inr h)
    · exact .inr (.inr h)
    · exact .inr (.inl h)
  · rintro ((h | h) | h | h)
    · exact .inl h
    · exact .inr (.inl h)
    · exact .inr (.inr (.inr h))
    · exact .inr (.inr (.inl h))
theorem s_app (h0 : p.p0 = []) (h1 : p.p1 = []) (hw : p.went = false) : (S3 (S ++ [p]) ↔ S3 S) ∧ (S4 (S ++ [p]) ↔ S4 S) ∧ (S5 (S ++ [p]) ↔ S5 S) ∧ (S6 (S ++ [p]) ↔ S6 S) := by
  have ha : p.p0 ++ p.p1 = [] := by rw [h0, h1]; rfl
  refine ⟨?_, ?_, ?_, ?_⟩
  · unfold S3
    rw [one_app (C := fun s => Ord3 (s.p0 ++ s.p1)), ha]
    refine ⟨fun h => h.resolve_left ?_, .inr⟩
    rintro ⟨i, y, z, h, _⟩
    cases h
  · unfold S4
    rw [one_app (C := fun s => Dep4 (s.p0 ++ s.p1)), ha]
    refine ⟨fun h => h.resolve_left ?_, .inr⟩
    rintro ⟨i, z, h, _⟩
    cases h
  · exact two_app (C := fun i j a b => i ≠ j ∧ P5 a b) (fun i j a h => by have := h.2.2.2.2.1; rw [hw] at this; cases this) (fun i j a h => by have := h.2.2.2.1; rw [hw] at this; cases this)
  · refine two_app (C := fun i j a b => (a.conf = b.conf ∧ b.went = true) ∧ Ow b a) (fun i j a h => by have := h.1.2; rw [hw] at this; cases this) (fun i j b h => ?_)
    rcases h.2 with h | ⟨t, _, h⟩
    · rw [h0] at h
      obtain ⟨x, h, _⟩ := h
      cases h
    · rw [h1] at h
      obtain ⟨x, h, _⟩ := h
      cases h
end
end Go.Proofs.YtogagkgkmoppmaaGreatDoor
namespace Go.Proofs.YtogagkgkmoppmaaGreatDoor
set_option linter.unusedVariables false
set_option linter.unusedSimpArgs false
open Go.RowKit GM
/-- one stay of both -/
structure RS (l : List Ev) (s : JS) (p : PS) : Prop where
  proc : p.proc = s.proc
  cf : p.conf = s.cf
  mem : p.mem = s.mem
  g0 : p.p0 = (partJ l s false).map bare
  g1 : p.p1 = (partJ l s true).map bare
  all : p.p0 ++ p.p1 = s.gots.map fun g => bare (gotM l g)
  tr : p.tr = s.tr.map fun e => (evN l e, evM l e)
  went : p.went = s.nx.isSome
  cnt : ∀ i, p.cnt i = (cntF (p.p0 ++ p.p1) i : Int)
  tn : p.tr = none → p.p1 = []
structure Rel (l : List Ev) (t : J) (S : List PS) (live : Int → Bool) (now : Int → Option Nat) : Prop where
  len : t.stays.length = S.length
  st : ∀ (k : Nat) (s : JS) (p : PS), t.stays[k]? = some s → S[k]? = some p → RS l s p
  lv : ∀ i, live i = (get t.live i).getD false
  nw : ∀ i, now i = get t.now i
  nowk : ∀ (i : Int) (k : Nat), now i = some k → ∃ p : PS, S[k]? = some p ∧ p.went = false ∧ p.proc = i
theorem Rel.same {l : List Ev} {t t' : J} {S : List PS} {live : Int → Bool} {now : Int → Option Nat} (h : Rel l t S live now) (h1 : t'.stays = t.stays) (h2 : t'.live = t.live) (h3 : t'.now = t.now) : Rel l t' S live now :=
  ⟨by rw [h1]; exact h.len, by rw [h1]; exact h.st, by rw [h2]; exact h.lv, by rw [h3]; exact h.nw, h.nowk⟩
theorem Rel.br {l : List Ev} {t : J} {S : List PS} {live : Int → Bool} {now : Int → Option Nat} (h : Rel l t S live now) (r : Int) (b : Bool) : Rel l (t.br r b) S live now :=
  h.same (t.br_stays r b).1 (t.br_stays r b).2.1 (t.br_stays r b).2.2.1
theorem Rel.get {l : List Ev} {t : J} {S : List PS} {live : Int → Bool} {now : Int → Option Nat} (h : Rel l t S live now) {k : Nat} {p : PS} (hk : S[k]? = some p) : ∃ s, t.stays[k]? = some s ∧ RS l s p := by
  have hl : k < t.stays.length := by rw [h.len]; exact (List.getElem?_eq_some_iff.1 hk).1
  exact ⟨t.stays[k], List.getElem?_eq_getElem hl, h.st k _ _ (List.getElem?_eq_getElem hl) hk⟩
/-- one stay changes -/
theorem Rel.set {l : List Ev} {t : J} {S : List PS} {live : Int → Bool} {now : Int → Option Nat} (h : Rel l t S live now) {k : Nat} {p p' : PS} {s' : JS} (hp : S[k]? = some p) (hr : RS l s' p') (hw : p'.went = p.went) (hpr : p'.proc = p.proc) : Rel l (t.setS k s') (S.set k p') live now := by
  refine ⟨by simpa [J.setS] using h.len, fun j s q hs hq => ?_, h.lv, h.nw, fun i j hj => ?_⟩
  · by_cases e : j = k
    · subst e
      have hl := (List.getElem?_eq_some_iff.1 hp).1
      have hl2 : j < t.stays.length := by rw [h.len]; exact hl
      have e1 : (t.setS j s').stays[j]? = some s' := by simp [J.setS, hl2]
      rw [e1] at hs
      rw [set_k hp] at hq
      injection hs with hs
      injection hq with hq
      subst hs
      subst hq
      exact hr
    · rw [set_ne e] at hq
      rw [show (t.setS k s').stays[j]? = t.stays[j]? from List.getElem?_set_ne (Ne.symm e)] at hs
      exact h.st j s q hs hq
  · obtain ⟨q, h1, h2, h3⟩ := h.nowk i j hj
    by_cases e : j = k
    · subst e
      rw [hp] at h1
      injection h1 with h1
      subst h1
      exact ⟨p', set_k hp, hw.trans h2, hpr.trans h3⟩
    · exact ⟨q, (set_ne e).trans h1, h2, h3⟩
def Snd (l : List Ev) (n : Nat) (f : PlaceK → List Msg) : Prop := ∀ k, f k = (sentL l n k).map fun j => bare (evMsg l j)
def Sen (l : List Ev) (n : Nat) (f : HadK → Bool) : Prop := ∀ h, f h = (List.range n).any (hadAt l h)
def Mems (f : ConfK → Option Nat) (S : List PS) : Prop := (∀ (k : Nat) (o : PS), S[k]? = some o → f o.conf = some o.mem) ∧ ∀ c m, f c = some m → ∃ (k : Nat) (o : PS), S[k]? = some o ∧ o.conf = c ∧ o.mem = m
/-- all that is broken of the first n events -/
def FS (l : List Ev) (n : Nat) (t : J) (S : List PS) (q : Int) : Prop :=
  badB t q ∨ (q = 2 ∧ ∃ i, i < n ∧ Beh l i) ∨ (q = 3 ∧ ((∃ i, i < n ∧ Twi l i) ∨ S3 S)) ∨ (q = 4 ∧ S4 S) ∨ (q = 5 ∧ S5 S) ∨ (q = 6 ∧ S6 S)
def Bro (l : List Ev) (n : Nat) (t : J) (S : List PS) (mems : ConfK → Option Nat) (B : Int) : Prop := (badB t 1 ∧ B = 1) ∨ (¬ badB t 1 ∧ Mems mems S ∧ Led B (FS l n t S))
def InvT (l : List Ev) (n : Nat) (t : J) (P : PM) : Prop := Rel l t P.stays P.live P.now ∧ Snd l n P.sends ∧ Sen l n P.seen ∧ (∀ q, badB t q → q = 1 ∨ q = 2) ∧ Bro l n t P.stays P.mems P.broken
section
variable {l : List Ev} {n : Nat} {t t' : J} {S S' : List PS} {mems mems' : ConfK → Option Nat} {B B' : Int} {x : Ev}
theorem bro_next {N1 : Prop} (h : Bro l n t S mems B) (hb : badB t' 1 ↔ badB t 1 ∨ N1) (hle : Le B B') (hnew : ¬ badB t 1 → Mems mems S → Led B (FS l n t S) → ∃ S2, Led B' S2 ∧ (N1 → S2 1) ∧ (¬ N1 → Mems mems' S' ∧ ∀ q, S2 q ↔ FS l (n + 1) t' S' q)) : Bro l (n + 1) t' S' mems' B' := by
  rcases h with ⟨h1, h2⟩ | ⟨h1, h2, h3⟩
  · refine .inl ⟨hb.2 (.inl h1), ?_⟩
    unfold Le at hle
    omega
  · obtain ⟨S2, k1, k2, k3⟩ := hnew h1 h2 h3
    by_cases hN : N1
    · exact .inl ⟨hb.2 (.inr hN), k1.one (k2 hN)⟩
    · obtain ⟨m, e⟩ := k3 hN
      exact .inr ⟨fun hh => (hb.1 hh).elim h1 hN, m, k1.congr e⟩
theorem fs_next {N1 N2 A3 A4 A5 A6 : Prop} (hb : ∀ q, badB t' q ↔ badB t q ∨ (q = 1 ∧ N1) ∨ (q = 2 ∧ N2)) (e3 : S3 S' ↔ S3 S ∨ A3) (e4 : S4 S' ↔ S4 S ∨ A4) (e5 : S5 S' ↔ S5 S ∨ A5) (e6 : S6 S' ↔ S6 S ∨ A6) (q : Int) :
    FS l (n + 1) t' S' q ↔ FS l n t S q ∨ (q = 1 ∧ N1) ∨ (q = 2 ∧ (N2 ∨ Beh l n)) ∨ (q = 3 ∧ (Twi l n ∨ A3)) ∨ (q = 4 ∧ A4) ∨ (q = 5 ∧ A5) ∨ (q = 6 ∧ A6) := by
  unfold FS
  rw [ex_succ, ex_succ, hb q, e3, e4, e5, e6]
  generalize badB t q = X
  generalize (∃ i, i < n ∧ Beh l i) = X1
  generalize (∃ i, i < n ∧ Twi l i) = X2
  generalize Beh l n = Y1
  generalize Twi l n = Y2
  clear hb e3 e4 e5 e6
  simp only [and_or_left]
  grind (splits := 60)
theorem not2 (hx : l[n]? = some x) (hk : x.kind ≠ 2) : ¬ Beh l n ∧ ¬ Twi l n := by
  constructor
  · rintro ⟨y, h, hy, _⟩
    rw [hx] at h
    injection h with h
    subst h
    exact hk hy
  · rintro ⟨y, h, hy, _⟩
    rw [hx] at h
    injection h with h
    subst h
    exact hk hy
theorem snd_keep {f : PlaceK → List Msg} (h : Snd l n f) (hx : l[n]? = some x) (hk : isSend x = false) : Snd l (n + 1) f := fun k => by
  rw [h k, sentL_succ]
  have : sentAt l k n = false := by
    unfold sentAt
    rw [hx]
    simp only [hk, Bool.false_and]
  rw [this]
  simp
theorem sen_keep {f : HadK → Bool} (h : Sen l n f) (hx : l[n]? = some x) (hk : x.kind ≠ 2) : Sen l (n + 1) f := fun k => by
  rw [h k, List.range_succ, List.any_append]
  have : hadAt l k n = false := by
    unfold hadAt
    rw [hx]
    simp [hk]
  simp [this]
theorem isSend_no (hk : x.kind ≠ 1) : isSend x = false := by
  unfold isSend
  simp [hk]
theorem bad12 {N1 N2 : Prop} (h : ∀ q, badB t q → q = 1 ∨ q = 2) (hb : ∀ q, badB t' q ↔ badB t q ∨ (q = 1 ∧ N1) ∨ (q = 2 ∧ N2)) : ∀ q, badB t' q → q = 1 ∨ q = 2 := fun q hq => by
  rcases (hb q).1 hq with h1 | ⟨h1, _⟩ | ⟨h1, _⟩
  · exact h q h1
  · exact .inl h1
  · exact .inr h1
/-- only rule 1, and no stay, is concerned -/
theorem bro_br (h : Bro l n t S mems B) (hx : l[n]? = some x) (hk : x.kind ≠ 2) (b : Bool) : Bro l (n + 1) (t.br 1 b) S mems (brk 1 B b) := by
  have hb := badB_br t 1 b
  refine bro_next (N1 := b = true) h ((hb 1).trans (by simp)) (brk_le 1 _ _ (by decide)) (fun h1 h2 h3 => ⟨_, h3.brk (by decide) b, fun hN => .inr ⟨rfl, hN⟩, fun hN => ⟨h2, fun q => ?_⟩⟩)
  rw [fs_next (t := t) (t' := t.br 1 b) (S := S) (N1 := b = true) (N2 := False) (A3 := False) (A4 := False) (A5 := False) (A6 := False) (fun q => by rw [hb q]; simp) (by simp) (by simp) (by simp) (by simp) q]
  have := not2 hx hk
  unfold Or1
  grind
end
/-- the stay that an event stands in, of both -/
theorem stay_cases {l : List Ev} {t : J} {P : PM} (h : Rel l t P.stays P.live P.now) (i : Nat) (x : Ev) :
    (pstay P x = none ∧ t.inner l i x ((get t.live x.proc).getD false) (get t.now x.proc) = t.br 1 true) ∨
    ∃ (k : Nat) (s : JS) (p : PS), pstay P x = some k ∧ t.stays[k]? = some s ∧ P.stays[k]? = some p ∧ RS l s p ∧ p.went = false ∧ t.inner l i x ((get t.live x.proc).getD false) (get t.now x.proc) = t.innerAt l i x k s := by
  have hn := h.nw x.proc
  have hlv := h.lv x.proc
  unfold pstay J.inner
  rw [← hn, ← hlv]
  cases hk : P.now x.proc with
  | none => exact .inl ⟨rfl, rfl⟩
  | some k =>
    obtain ⟨p, hp, hw, _⟩ := h.nowk _ _ hk
    obtain ⟨s, hs, hr⟩ := h.get hp
    simp only [hp, hs]
    have hcf : (P.live x.proc = true ∧ p.conf = conf x) ↔ (P.live x.proc = true ∧ s.cf = conf x) := by rw [hr.cf]
    by_cases hc : P.live x.proc = true ∧ p.conf = conf x
    · rw [if_pos hc, if_pos (hcf.1 hc)]
      exact .inr ⟨k, s, p, rfl, hs, hp, hr, hw, rfl⟩
    · rw [if_neg hc, if_neg (fun e => hc (hcf.2 e))]
      exact .inl ⟨rfl, rfl⟩
theorem RS.trSome {l : List Ev} {s : JS} {p : PS} (h : RS l s p) : p.tr.isSome = s.tr.isSome := by rw [h.tr]; cases s.tr <;> rfl
section
variable {l : List Ev} {n : Nat} {t : J} {P : PM} {x : Ev}
theorem inv_start (h : InvT l n t P) (hx : l[n]? = some x) (hk : x.kind = 5 ∨ x.kind = 6) : InvT l (n + 1) { t with live := put t.live x.proc (decide (x.kind = 5)), now := del t.now x.proc } (pstart P x) := by
  obtain ⟨h1, h2, h3, h4, h5⟩ := h
  have hk1 : x.kind ≠ 1 := by omega
  have hk2 : x.kind ≠ 2 := by omega
  refine ⟨⟨h1.len, h1.st, fun i => ?_, fun i => ?_, fun i k hi => ?_⟩, snd_keep h2 hx (isSend_no hk1), sen_keep h3 hx hk2, h4, ?_⟩
  · show (if i = x.proc then decide (x.kind = 5) else P.live i) = (get (put t.live x.proc _) i).getD false
    rw [get_put]
    split
    · rfl
    · exact h1.lv i
  · show (if i = x.proc then none else P.now i) = get (del t.now x.proc) i
    rw [get_del]
    split
    · rfl
    · exact h1.nw i
  · have hi : (if i = x.proc then none else P.now i) = some k := hi
    split at hi
    · cases hi
    · exact h1.nowk i k hi
  · have h := bro_br h5 hx hk2 false
    have e1 : t.br 1 false = t := by unfold J.br; simp
    have e2 : brk 1 P.broken false = P.broken := by unfold brk; simp
    rw [e1, e2] at h
    exact h
theorem inv_send (h : InvT l n t P) (hx : l[n]? = some x) (hk : x.kind = 1) : InvT l (n + 1) (t.inner l n x ((get t.live x.proc).getD false) (get t.now x.proc)) (psend P x) := by
  obtain ⟨h1, h2, h3, h4, h5⟩ := h
  have hk2 : x.kind ≠ 2 := by omega
  have e0 : pstay (psnd P x) x = pstay P x := by unfold psnd; split <;> rfl
  have es : (psnd P x).stays = P.stays := by unfold psnd; split <;> rfl
  obtain ⟨b, hb1, hb2⟩ : ∃ b, t.inner l n x ((get t.live x.proc).getD false) (get t.now x.proc) = t.br 1 b ∧ psend P x = (psnd P x).br 1 b := by
    unfold psend
    rw [e0]
    rcases stay_cases h1 n x with ⟨k1, k2⟩ | ⟨k, s, p, k1, k2, k3, k4, k5, k6⟩
    · refine ⟨true, k2, ?_⟩
      rw [k1]
    · refine ⟨s.tr.isSome, ?_, ?_⟩
      · rw [k6]
        unfold J.innerAt
        rw [if_pos hk]
      · rw [k1]
        simp only
        rw [es, k3]
        simp only
        rw [k4.trSome]
  rw [hb1, hb2]
  have hsd : Snd l (n + 1) (psnd P x).sends := fun k => by
    rw [sentL_succ]
    have hs : sentAt l k n = (decide (x.proc = x.m.frm) && decide (place x = k)) := by
      unfold sentAt isSend
      rw [hx]
      simp [hk]
    rw [hs]
    unfold psnd
    by_cases hp : x.proc = x.m.frm
    · rw [if_pos hp]
      show (if k = place x then P.sends (place x) ++ [bare x.m] else P.sends k) = _
      by_cases e : k = place x
      · rw [if_pos e, e, h2]
        simp [hp, evMsg_at hx]
      · rw [if_neg e, h2]
        have : ¬ place x = k := fun h => e h.symm
        simp [this]
    · rw [if_neg hp, h2]
      simp [hp]
  have e3 : (psnd P x).seen = P.seen ∧ (psnd P x).mems = P.mems ∧ (psnd P x).live = P.live ∧ (psnd P x).now = P.now ∧ (psnd P x).broken = P.broken := by
    unfold psnd
    split <;> exact ⟨rfl, rfl, rfl, rfl, rfl⟩
  refine ⟨?_, hsd, ?_, ?_, ?_⟩
  · show Rel l (t.br 1 b) (psnd P x).stays (psnd P x).live (psnd P x).now
    rw [es, e3.2.2.1, e3.2.2.2.1]
    exact h1.br 1 b
  · show Sen l (n + 1) (psnd P x).seen
    rw [e3.1]
    exact sen_keep h3 hx hk2
  · exact bad12 (N1 := b = true) (N2 := False) h4 (fun q => by rw [badB_br]; simp)
  · show Bro l (n + 1) (t.br 1 b) (psnd P x).stays (psnd P x).mems (brk 1 (psnd P x).broken b)
    rw [es, e3.2.1, e3.2.2.2.2]
    exact bro_br h5 hx hk2 b
theorem inv_trans (h : InvT l n t P) (hx : l[n]? = some x) (hk : x.kind = 4) : InvT l (n + 1) (t.inner l n x ((get t.live x.proc).getD false) (get t.now x.proc)) (ptrans P x) := by
  obtain ⟨h1, h2, h3, h4, h5⟩ := h
  have hk2 : x.kind ≠ 2 := by omega
  have hk1 : x.kind ≠ 1 := by omega
  have hs1 := snd_keep h2 hx (isSend_no hk1)
  have hs2 := sen_keep h3 hx hk2
  unfold ptrans
  rcases stay_cases h1 n x with ⟨k1, k2⟩ | ⟨k, s, p, k1, k2, k3, k4, k5, k6⟩
  · rw [k1, k2]
    exact ⟨h1.br 1 true, hs1, hs2, bad12 (N1 := true = true) (N2 := False) h4 (fun q => by rw [badB_br]; simp), bro_br h5 hx hk2 true⟩
  · rw [k1, k6]
    simp only [k3]
    have ej : t.innerAt l n x k s = (t.br 1 s.tr.isSome).setS k { s with tr := some n } := by
      unfold J.innerAt
      rw [if_neg hk1, if_pos hk]
    rw [ej]
    have hr : RS l { s with tr := some n } { p with tr := some (next x, x.mem) } := by
      refine ⟨k4.proc, k4.cf, k4.mem, k4.g0, k4.g1, k4.all, ?_, k4.went, k4.cnt, fun e => by cases e⟩
      show some (next x, x.mem) = some (evN l n, evM l n)
      unfold evN evM
      rw [hx]
    have hb : ∀ q, badB ((t.br 1 s.tr.isSome).setS k { s with tr := some n }) q ↔ badB t q ∨ (q = 1 ∧ s.tr.isSome = true) ∨ (q = 2 ∧ False) := fun q => by
      show badB (t.br 1 s.tr.isSome) q ↔ _
      rw [badB_br]
      simp
    refine ⟨(h1.br 1 _).set k3 hr rfl rfl, hs1, hs2, bad12 h4 hb, ?_⟩
    refine bro_next (B' := brk 1 P.broken p.tr.isSome) (N1 := s.tr.isSome = true) h5 ((hb 1).trans (by simp)) (brk_le 1 _ _ (by decide)) (fun j1 j2 j3 => ⟨_, j3.brk (by decide) p.tr.isSome, fun hN => .inr ⟨rfl, by rw [k4.trSome]; exact hN⟩, fun hN => ⟨⟨fun j o hj => ?_, fun c m hc => ?_⟩, fun q => ?_⟩⟩)
    · by_cases e : j = k
      · subst e
        rw [set_k k3] at hj
        injection hj with hj
        subst hj
        exact j2.1 j p k3
      · rw [set_ne e] at hj
        exact j2.1 j o hj
    · obtain ⟨j, o, hj, hc1, hc2⟩ := j2.2 c m hc
      by_cases e : j = k
      · subst e
        rw [k3] at hj
        injection hj with hj
        subst hj
        exact ⟨j, _, set_k k3, hc1, hc2⟩
      · exact ⟨j, o, (set_ne e).trans hj, hc1, hc2⟩
    · have htn : p.tr = none := by
        rw [← k4.trSome] at hN
        cases hpt : p.tr with
        | none => rfl
        | some u => rw [hpt] at hN; exact absurd rfl hN
      have hp1 := k4.tn htn
      have hO : ∀ b, Ow b { p with tr := some (next x, x.mem) } ↔ Ow b p ∨ False := fun b => by
        unfold Ow
        simp only [hp1, htn, or_false]
        refine or_congr Iff.rfl ?_
        constructor
        · rintro ⟨u, _, y, hy, _⟩
          cases hy
        · rintro ⟨u, hu, _⟩
          cases hu
      have e6 := s6_set (p' := { p with tr := some (next x, x.mem) }) k3 k5 k5 rfl hO
      rw [fs_next hb (S := P.stays) (A3 := False) (A4 := False) (A5 := False) (A6 := False) (s3_set k3 (by simp)) (s4_set k3 (by simp)) (by rw [s5_same (p' := { p with tr := some (next x, x.mem) }) k3 k5 k5]; simp) (by rw [e6]; simp) q]
      have hb := not2 hx hk2
      rw [k4.trSome]
      unfold Or1
      grind
end
end Go.Proofs.YtogagkgkmoppmaaGreatDoor
namespace Go.Proofs.YtogagkgkmoppmaaGreatDoor
set_option linter.unusedVariables false
set_option linter.unusedSimpArgs false
open Go.RowKit GM
theorem partJ_snoc (l : List Ev) (s : JS) (g : Nat × Bool) (b : Bool) : partJ l { s with gots := s.gots ++ [g] } b = partJ l s b ++ (if (g.2 == b) = true then [gotM l g] else []) := by
  unfold partJ
  rw [List.filter_append, List.map_append, List.filter_cons, List.filter_nil]
  split <;> rfl
theorem gotP_all {p : PS} (m : Msg) (htn : p.tr = none → p.p1 = []) : (gotP p m).p0 ++ (gotP p m).p1 = (p.p0 ++ p.p1) ++ [bare m] := by
  unfold gotP
  cases htr : p.tr with
  | none =>
    simp [htn htr]
  | some u => simp
theorem gotP_keep (p : PS) (m : Msg) : (gotP p m).proc = p.proc ∧ (gotP p m).conf = p.conf ∧ (gotP p m).mem = p.mem ∧ (gotP p m).tr = p.tr ∧ (gotP p m).went = p.went := by
  unfold gotP
  split <;> exact ⟨rfl, rfl, rfl, rfl, rfl⟩
theorem RS.got {l : List Ev} {s : JS} {p : PS} (h : RS l s p) {n : Nat} {x : Ev} (hx : l[n]? = some x) : RS l { s with gots := s.gots ++ [(n, s.tr.isSome)] } (gotP p x.m) := by
  have hg : gotM l (n, s.tr.isSome) = x.m := evMsg_at hx
  have ha := gotP_all x.m h.tn
  obtain ⟨k1, k2, k3, k4, k5⟩ := gotP_keep p x.m
  refine ⟨k1.trans h.proc, k2.trans h.cf, k3.trans h.mem, ?_, ?_, ?_, k4.trans h.tr, k5.trans h.went, fun i => ?_, fun e => ?_⟩
  · rw [partJ_snoc, hg, List.map_append, ← h.g0]
    have := h.trSome
    unfold gotP
    cases hs : s.tr.isSome <;> rw [hs] at this <;> rw [this] <;> simp
  · rw [partJ_snoc, hg, List.map_append, ← h.g1]
    have := h.trSome
    unfold gotP
    cases hs : s.tr.isSome <;> rw [hs] at this <;> rw [this] <;> simp
  · rw [ha, h.all]
    simp [hg]
  · rw [ha, cntF_snoc]
    have hc : (gotP p x.m).cnt i = if i = x.m.frm then p.cnt x.m.frm + 1 else p.cnt i := by
      unfold gotP
      split <;> rfl
    rw [hc]
    show (if i = x.m.frm then p.cnt x.m.frm + 1 else p.cnt i) = ((cntF (p.p0 ++ p.p1) i + if x.m.frm = i then 1 else 0 : Nat) : Int)
    by_cases e : i = x.m.frm
    · subst e
      rw [if_pos rfl, if_pos rfl, h.cnt]
      rfl
    · rw [if_neg e, if_neg (fun h => e h.symm), h.cnt]
      rfl
  · rw [k4] at e
    have h1 := h.tn e
    unfold gotP
    rw [e]
    exact h1
section
variable {l : List Ev} {n : Nat} {t : J} {P : PM} {x : Ev}
theorem beh_iff {f : PlaceK → List Msg} (h : Snd l n f) (hx : l[n]? = some x) (hk : x.kind = 2) : Beh l n ↔ ((cntM (bare x.m) (f (place x)) : Int) != 1) = true := by
  have e : cntM (bare x.m) (f (place x)) = cntJ l n x := by
    unfold cntM cntJ
    rw [h, List.filter_map, List.length_map]
    congr 2
    funext j
    show sameM (bare x.m) (bare (evMsg l j)) = sameM (evMsg l j) x.m
    rw [sameM_bare, sameM_symm]
  rw [e]
  unfold Beh
  constructor
  · rintro ⟨y, h, _, h2⟩
    rw [hx] at h
    injection h with h
    subst h
    rw [bne_iff_ne]
    omega
  · intro h
    rw [bne_iff_ne] at h
    exact ⟨x, hx, hk, by omega⟩
theorem twi_iff {f : HadK → Bool} (h : Sen l n f) (hx : l[n]? = some x) (hk : x.kind = 2) : Twi l n ↔ f (hadK x) = true := by
  rw [h]
  unfold Twi
  constructor
  · rintro ⟨y, h, _, h2⟩
    rw [hx] at h
    injection h with h
    subst h
    exact h2
  · intro h
    exact ⟨x, hx, hk, h⟩
theorem sen_saw {f : HadK → Bool} (h : Sen l n f) (hx : l[n]? = some x) (hk : x.kind = 2) : Sen l (n + 1) (fun h => if h = hadK x then true else f h) := fun k => by
  rw [List.range_succ, List.any_append, ← h k]
  have e : hadAt l k n = decide (hadJ x = k) := by
    unfold hadAt
    rw [hx]
    simp [hk]
  simp only [List.any_cons, List.any_nil, Bool.or_false, e]
  by_cases e2 : k = hadK x
  · have : hadJ x = k := e2.symm
    simp [e2, this]
  · have : ¬ hadJ x = k := fun h => e2 h.symm
    simp [e2, this]
theorem pnext_newOf {s : JS} {p : PS} (h : RS l s p) : pnext p = newOf l s := by
  unfold pnext newOf
  rw [h.tr]
  cases s.tr <;> rfl
theorem inv_deliver (h : InvT l n t P) (hx : l[n]? = some x) (hk : x.kind = 2) : InvT l (n + 1) (t.inner l n x ((get t.live x.proc).getD false) (get t.now x.proc)) (pdeliver P x) := by
  have hle := (step_pdeliver P x).broken
  obtain ⟨h1, h2, h3, h4, h5⟩ := h
  have hk1 : x.kind ≠ 1 := by omega
  have hs1 := snd_keep h2 hx (isSend_no hk1)
  have hs2 := sen_saw h3 hx hk
  have hbeh := beh_iff h2 hx hk
  have htwi := twi_iff h3 hx hk
  have e0 : pstay (dlv0 P x) x = pstay P x := rfl
  unfold pdeliver at hle ⊢
  rw [e0] at hle ⊢
  have hL0 : ∀ {S2 : Int → Prop}, Led P.broken S2 → Led (dlv0 P x).broken (Or1 (Or1 S2 2 (Beh l n)) 3 (Twi l n)) := fun h => ((h.brk (by decide) _).brk (by decide) _).congr fun q => by
    unfold Or1
    rw [hbeh, htwi]
  rcases stay_cases h1 n x with ⟨k1, k2⟩ | ⟨k, s, p, k1, k2, k3, k4, k5, k6⟩
  · rw [k1] at hle ⊢
    rw [k2]
    refine ⟨h1.br 1 true, hs1, hs2, bad12 (N1 := true = true) (N2 := False) h4 (fun q => by rw [badB_br]; simp), ?_⟩
    refine bro_next (N1 := True) h5 ((badB_br t 1 true 1).trans (by simp)) hle (fun j1 j2 j3 => ⟨_, (hL0 j3).brk (by decide) true, fun _ => .inr ⟨rfl, rfl⟩, fun hN => absurd trivial hN⟩)
  · rw [k1] at hle ⊢
    rw [k6]
    have k3' : (dlv0 P x).stays[k]? = some p := k3
    simp only [k3'] at hle ⊢
    have ej : t.innerAt l n x k s = (t.br 2 (!decide (next x = newOf l s))).setS k { s with gots := s.gots ++ [(n, s.tr.isSome)] } := by
      unfold J.innerAt
      rw [if_neg hk1, if_neg (by omega), if_pos hk]
    rw [ej]
    obtain ⟨q1, q2, q3, q4, q5⟩ := gotP_keep p x.m
    have hb : ∀ q, badB ((t.br 2 (!decide (next x = newOf l s))).setS k { s with gots := s.gots ++ [(n, s.tr.isSome)] }) q ↔ badB t q ∨ (q = 1 ∧ False) ∨ (q = 2 ∧ ¬ next x = newOf l s) := fun q => by
      show badB (t.br 2 _) q ↔ _
      rw [badB_br]
      simp
    have hrel := (h1.br 2 (!decide (next x = newOf l s))).set k3 (k4.got hx) q5 q1
    refine ⟨hrel, hs1, hs2, bad12 h4 hb, ?_⟩
    refine bro_next (N1 := False) h5 ((hb 1).trans (by simp)) hle (fun j1 j2 j3 => ?_)
    have hnx : (!((x.ne : Int) == (pnext p).1 && x.nr == (pnext p).2)) = true ↔ ¬ next x = newOf l s := by
      rw [pnext_newOf k4]
      simp [next, Prod.ext_iff]
      by_cases e : (x.ne : Int) = (newOf l s).1 <;> simp [e]
    have L1 := (hL0 j3).brk (r := 2) (by decide) (!((x.ne : Int) == (pnext p).1 && x.nr == (pnext p).2))
    have L2 := led_last L1 (p.p0 ++ p.p1) x
    have L3 := led_dep L2 p.cnt x.m.ds x.m.ds.length
    have L4 := led_past L3 p.conf (bare x.m) (pmem p) (P.stays.set k (gotP p x.m))
    refine ⟨_, L4, False.elim, fun _ => ⟨⟨fun j o hj => ?_, fun c m hc => ?_⟩, fun q => ?_⟩⟩
    · by_cases e : j = k
      · subst e
        rw [show (dlv0 P x).stays = P.stays from rfl, set_k k3] at hj
        injection hj with hj
        subst hj
        rw [q2, q3]
        exact j2.1 j p k3
      · rw [show (dlv0 P x).stays = P.stays from rfl, set_ne e] at hj
        exact j2.1 j o hj
    · obtain ⟨j, o, hj, hc1, hc2⟩ := j2.2 c m hc
      by_cases e : j = k
      · subst e
        rw [k3] at hj
        injection hj with hj
        subst hj
        exact ⟨j, _, set_k k3, q2.trans hc1, q3.trans hc2⟩
      · exact ⟨j, o, (set_ne e).trans hj, hc1, hc2⟩
    · have ha := gotP_all x.m k4.tn
      have hO : ∀ b, Ow b (gotP p x.m) ↔ Ow b p ∨ OwL b.proc (b.p0 ++ b.p1) (pmem p) [bare x.m] := fun b => by
        unfold Ow gotP pmem
        have hsn : ∀ (mem : Nat) (L : List Msg), OwL b.proc (b.p0 ++ b.p1) mem (L ++ [bare x.m]) ↔ OwL b.proc (b.p0 ++ b.p1) mem L ∨ OwL b.proc (b.p0 ++ b.p1) mem [bare x.m] := fun mem L => by
          unfold OwL
          simp only [List.mem_append]
          constructor
          · rintro ⟨y, h | h, h2⟩
            · exact .inl ⟨y, h, h2⟩
            · exact .inr ⟨y, h, h2⟩
          · rintro (⟨y, h, h2⟩ | ⟨y, h, h2⟩)
            · exact ⟨y, .inl h, h2⟩
            · exact ⟨y, .inr h, h2⟩
        cases htr : p.tr with
        | none =>
          simp only [Option.isSome_none, Bool.false_eq_true, if_false, htr, hsn]
          simp
        | some u =>
          simp only [Option.isSome_some, if_true, htr, hsn, Option.some.injEq, exists_eq_left', or_assoc]
      have e6 := s6_set (p' := gotP p x.m) k3 k5 (q5.trans k5) q2 hO
      have e3 : S3 (P.stays.set k (gotP p x.m)) ↔ S3 P.stays ∨ ∃ y, (p.p0 ++ p.p1).getLast? = some y ∧ lessM y (bare x.m) := s3_set k3 (by rw [ha]; exact ord3_snoc _ _)
      have e4 : S4 (P.stays.set k (gotP p x.m)) ↔ S4 P.stays ∨ DepM (p.p0 ++ p.p1) (bare x.m) := s4_set k3 (by rw [ha]; exact dep4_snoc _ _)
      have e5 : S5 (P.stays.set k (gotP p x.m)) ↔ S5 P.stays ∨ False := by rw [s5_same k3 k5 (q5.trans k5)]; simp
      have ed : (∃ q, q < x.m.ds.length ∧ p.cnt (q : Int) < ((x.m.ds.getD q 0 : Nat) : Int)) ↔ DepM (p.p0 ++ p.p1) (bare x.m) := by
        unfold DepM
        simp only [k4.cnt]
        exact Iff.rfl
      have el : (∃ y, (p.p0 ++ p.p1).getLast? = some y ∧ 0 ≤ keyZ (y.stamp : Int) y.frm (x.m.stamp : Int) x.m.frm) ↔ ∃ y, (p.p0 ++ p.p1).getLast? = some y ∧ lessM y (bare x.m) := Iff.rfl
      show _ ↔ FS l (n + 1) _ (P.stays.set k (gotP p x.m)) q
      rw [fs_next hb (S := P.stays) e3 e4 e5 e6 q, el, ed, hnx] at *
      unfold Or1
      generalize FS l n t P.stays q = X0
      generalize Beh l n = X1
      generalize Twi l n = X2
      generalize DepM (p.p0 ++ p.p1) (bare x.m) = X3
      generalize (∃ y, (p.p0 ++ p.p1).getLast? = some y ∧ lessM y (bare x.m)) = X4
      generalize (∃ b ∈ P.stays.set k (gotP p x.m), (b.conf = p.conf ∧ b.went = true) ∧ OwL b.proc (b.p0 ++ b.p1) (pmem p) [bare x.m]) = X5
      generalize (next x = newOf l s) = X6
      clear hbeh htwi h1 h2 h3 h4 h5 hs1 hs2 hb hrel j1 j2 j3 L1 L2 L3 L4 hO e6 e3 e4 e5 ed el hnx hL0 hle ha k2 k3 k4 k6 k3' ej
      simp only [and_or_left]
      grind (splits := 60)
end
end Go.Proofs.YtogagkgkmoppmaaGreatDoor
