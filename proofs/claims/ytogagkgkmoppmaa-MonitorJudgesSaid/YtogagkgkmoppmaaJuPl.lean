/-
  Which rules are broken, in plain: what a monitor's number says, and what each event adds.
  Conditions: none.
-/
import Derived.Test.YtogagkgkmoppmaaMonX
import Derived.Test.YtogagkgkmoppmaaJuF
import Derived.Test.YtogagkgkmoppmaaJuN
namespace Go.Proofs.Ytogagkgkmoppmaa
set_option linter.unusedVariables false
set_option linter.unusedSimpArgs false
open Go.RowKit GM
/-- a number that names the least of the rules that are broken, 0: none -/
def Led (z : Int) (S : Int → Prop) : Prop := (z = 0 ∧ ∀ r, ¬ S r) ∨ (0 < z ∧ S z ∧ ∀ r, S r → z ≤ r)
theorem Led.congr {z : Int} {S S' : Int → Prop} (h : Led z S) (e : ∀ r, S r ↔ S' r) : Led z S' := by
  rcases h with ⟨h1, h2⟩ | ⟨h1, h2, h3⟩
  · exact .inl ⟨h1, fun r hr => h2 r ((e r).2 hr)⟩
  · exact .inr ⟨h1, (e z).1 h2, fun r hr => h3 r ((e r).2 hr)⟩
theorem Led.uniq {z z' : Int} {S : Int → Prop} (h : Led z S) (h' : Led z' S) : z = z' := by
  rcases h with ⟨h1, h2⟩ | ⟨h1, h2, h3⟩ <;> rcases h' with ⟨k1, k2⟩ | ⟨k1, k2, k3⟩
  · omega
  · exact absurd k2 (h2 _)
  · exact absurd h2 (k2 _)
  · have := h3 _ k2
    have := k3 _ h2
    omega
theorem Led.one {z : Int} {S : Int → Prop} (h : Led z S) (h1 : S 1) : z = 1 := by
  rcases h with ⟨a, b⟩ | ⟨a, b, c⟩
  · exact absurd h1 (b 1)
  · have := c 1 h1
    omega
def Or1 (S : Int → Prop) (r : Int) (C : Prop) : Int → Prop := fun q => S q ∨ (q = r ∧ C)
theorem Led.brk {z : Int} {S : Int → Prop} (h : Led z S) {r : Int} (hr : 0 < r) (b : Bool) : Led (brk r z b) (Or1 S r (b = true)) := by
  unfold Go.Proofs.Ytogagkgkmoppmaa.brk Or1
  cases b
  · rw [if_neg (by simp)]
    refine h.congr fun q => ⟨fun h => Or.inl h, fun h => ?_⟩
    rcases h with h | ⟨_, h⟩
    · exact h
    · cases h
  · rcases h with ⟨h1, h2⟩ | ⟨h1, h2, h3⟩
    · rw [if_pos ⟨rfl, .inl h1⟩]
      refine .inr ⟨hr, .inr ⟨rfl, rfl⟩, fun q hq => ?_⟩
      rcases hq with hq | ⟨rfl, _⟩
      · exact absurd hq (h2 q)
      · exact Int.le_refl _
    · by_cases hlt : r < z
      · rw [if_pos ⟨rfl, .inr hlt⟩]
        refine .inr ⟨hr, .inr ⟨rfl, rfl⟩, fun q hq => ?_⟩
        rcases hq with hq | ⟨rfl, _⟩
        · have := h3 q hq
          omega
        · exact Int.le_refl _
      · rw [if_neg (fun e => by rcases e.2 with e | e <;> omega)]
        refine .inr ⟨h1, .inl h2, fun q hq => ?_⟩
        rcases hq with hq | ⟨rfl, _⟩
        · exact h3 q hq
        · omega
theorem Led.fold {α : Type} {r : Int} {C : α → Prop} {f : Int → α → Int} (hf : ∀ z S a, Led z S → Led (f z a) (Or1 S r (C a))) : ∀ (L : List α) (z : Int) (S : Int → Prop), Led z S → Led (L.foldl f z) (Or1 S r (∃ a ∈ L, C a))
  | [], z, S, h => h.congr fun q => ⟨.inl, fun h => by
      rcases h with h | ⟨_, a, ha, _⟩
      · exact h
      · cases ha⟩
  | a :: L, z, S, h => ((Led.fold hf L _ _ (hf z S a h)).congr fun q => by
      unfold Or1
      constructor
      · rintro ((h | ⟨h, hc⟩) | ⟨h, b, hb, hc⟩)
        · exact .inl h
        · exact .inr ⟨h, a, List.mem_cons_self, hc⟩
        · exact .inr ⟨h, b, List.mem_cons_of_mem _ hb, hc⟩
      · rintro (h | ⟨h, b, hb, hc⟩)
        · exact .inl (.inl h)
        · rcases List.mem_cons.1 hb with rfl | hb
          · exact .inl (.inr ⟨h, hc⟩)
          · exact .inr ⟨h, b, hb, hc⟩)
/-- what one that went on owes, of some messages -/
def OwL (p : Int) (all : List Msg) (mem : Nat) (L : List Msg) : Prop := ∃ x ∈ L, (x.service = 2 ∧ hasB mem p = true) ∧ all.any (sameM x) = false
theorem led_owe {z : Int} {S : Int → Prop} (h : Led z S) (p : Int) (all : List Msg) (mem : Nat) (l : List Msg) : Led (oweZ p all mem l z) (Or1 S 6 (OwL p all mem l)) := by
  unfold oweZ OwL
  refine Led.fold (fun z S x h => ?_) l z S h
  split
  · rename_i hc
    refine (h.brk (by decide) _).congr fun q => ?_
    unfold Or1
    simp [hc]
  · rename_i hc
    exact h.congr fun q => by
      unfold Or1
      simp [hc]
theorem led_dup {z : Int} {S : Int → Prop} (h : Led z S) (x : Ev) (l : List PS) : Led (dupZ x l z) (Or1 S 1 (∃ o ∈ l, dupB x o = true)) := Led.fold (r := 1) (C := fun o => dupB x o = true) (fun z S o h => h.brk (by decide) (dupB x o)) l z S h
theorem led_dep {z : Int} {S : Int → Prop} (h : Led z S) (cnt : Int → Int) (ds : List Nat) (j : Nat) : Led (depZ cnt ds j z) (Or1 S 4 (∃ q < j, cnt (q : Int) < ((ds.getD q 0 : Nat) : Int))) := by
  unfold depZ
  refine (Led.fold (r := 4) (C := fun q : Nat => cnt (q : Int) < ((ds.getD q 0 : Nat) : Int)) (fun z S q h => ?_) (List.range j) z S h).congr fun q => ?_
  · refine (h.brk (by decide) _).congr fun q => ?_
    unfold Or1
    simp
  · unfold Or1
    simp
theorem led_past {z : Int} {S : Int → Prop} (h : Led z S) (c : ConfK) (m : Msg) (mem : Nat) (l : List PS) : Led (pastZ c m mem l z) (Or1 S 6 (∃ b ∈ l, (b.conf = c ∧ b.went = true) ∧ OwL b.proc (b.p0 ++ b.p1) mem [m])) := by
  unfold pastZ
  refine Led.fold (fun z S b h => ?_) l z S h
  unfold pastZ1 pastB
  split
  · rename_i hc
    refine (led_owe h _ _ _ _).congr fun q => ?_
    simp only [Bool.and_eq_true, decide_eq_true_eq] at hc
    unfold Or1
    simp [hc]
  · rename_i hc
    simp only [Bool.and_eq_true, decide_eq_true_eq] at hc
    exact h.congr fun q => by
      unfold Or1
      simp [hc]
theorem led_last {z : Int} {S : Int → Prop} (h : Led z S) (al : List Msg) (x : Ev) : Led (lastZ al x z) (Or1 S 3 (∃ y, al.getLast? = some y ∧ 0 ≤ keyZ (y.stamp : Int) y.frm (x.m.stamp : Int) x.m.frm)) := by
  unfold lastZ
  cases al.getLast? with
  | none => exact h.congr fun q => by unfold Or1; simp
  | some y =>
    refine (h.brk (by decide) _).congr fun q => ?_
    unfold Or1
    simp
/-- rule 5, of two that went on the same way -/
def P5 (a b : PS) : Prop := a.conf = b.conf ∧ a.proc ≠ b.proc ∧ a.went = true ∧ b.went = true ∧ ∃ t u, a.tr = some t ∧ b.tr = some u ∧ t.1 = u.1 ∧ (!(t.2 == u.2) || (!sameL a.p0 b.p0 || !sameL a.p1 b.p1)) = true
/-- rule 6: what b owes of a's -/
def Ow (b a : PS) : Prop := OwL b.proc (b.p0 ++ b.p1) a.mem a.p0 ∨ ∃ t, a.tr = some t ∧ OwL b.proc (b.p0 ++ b.p1) t.2 a.p1
theorem led_close {z : Int} {S : Int → Prop} (h : Led z S) (b : PS) (hb : b.went = true) (same : Bool) (o : PS) :
    Led (closeZ b same o z) (Or1 (Or1 S 6 (o.conf = b.conf ∧ Ow b o)) 5 (same = false ∧ P5 o b)) := by
  unfold closeZ
  by_cases hc : o.conf = b.conf
  · rw [if_pos hc]
    have h1 := led_owe h b.proc (b.p0 ++ b.p1) o.mem o.p0
    have hno : ∀ {z2 : Int} {N : Prop}, Led z2 (Or1 S 6 (Ow b o)) → ¬ N → Led z2 (Or1 (Or1 S 6 (o.conf = b.conf ∧ Ow b o)) 5 N) := fun h2 hN => h2.congr fun q => by
      unfold Or1
      constructor
      · rintro (h | ⟨h, k⟩)
        · exact .inl (.inl h)
        · exact .inl (.inr ⟨h, hc, k⟩)
      · rintro ((h | ⟨h, k⟩) | ⟨_, h⟩)
        · exact .inl h
        · exact .inr ⟨h, k.2⟩
        · exact absurd h hN
    cases ho : o.tr with
    | none =>
      have h2 : Led (oweZ b.proc (b.p0 ++ b.p1) o.mem o.p0 z) (Or1 S 6 (Ow b o)) := h1.congr fun q => by
        unfold Or1 Ow
        simp [ho]
      have hN : ¬ (same = false ∧ P5 o b) := by
        rintro ⟨_, _, _, _, _, t, u, k, _⟩
        rw [ho] at k
        cases k
      simp only
      split
      · exact hno h2 hN
      · cases b.tr <;> exact hno h2 hN
    | some t =>
      have h2 : Led (oweZ b.proc (b.p0 ++ b.p1) t.2 o.p1 (oweZ b.proc (b.p0 ++ b.p1) o.mem o.p0 z)) (Or1 S 6 (Ow b o)) := (led_owe h1 b.proc (b.p0 ++ b.p1) t.2 o.p1).congr fun q => by
        unfold Or1 Ow
        simp only [ho, Option.some.injEq, exists_eq_left']
        constructor
        · rintro ((h | ⟨h, k⟩) | ⟨h, k⟩)
          · exact .inl h
          · exact .inr ⟨h, .inl k⟩
          · exact .inr ⟨h, .inr k⟩
        · rintro (h | ⟨h, k | k⟩)
          · exact .inl (.inl h)
          · exact .inl (.inr ⟨h, k⟩)
          · exact .inr ⟨h, k⟩
      simp only
      generalize oweZ b.proc (b.p0 ++ b.p1) t.2 o.p1 (oweZ b.proc (b.p0 ++ b.p1) o.mem o.p0 z) = z2 at *
      split
      · rename_i hs
        refine hno h2 ?_
        rintro ⟨k1, _, k2, k3, _⟩
        rcases hs with hs | hs | hs
        · rw [k1] at hs; cases hs
        · rw [k3] at hs; cases hs
        · exact k2 hs
      · rename_i hs
        cases hbt : b.tr with
        | none =>
          simp only
          refine hno h2 ?_
          rintro ⟨_, _, _, _, _, t, u, _, k, _⟩
          rw [hbt] at k
          cases k
        | some u =>
          simp only
          split
          · rename_i htu
            refine (h2.brk (by decide) _).congr fun q => ?_
            have hs1 : same = false := by
              cases same
              · rfl
              · exact absurd (.inl rfl) hs
            have hs2 : o.went = true := by
              cases how : o.went
              · exact absurd (.inr (.inl how)) hs
              · rfl
            have hs3 : o.proc ≠ b.proc := fun e => hs (.inr (.inr e))
            unfold Or1
            constructor
            · rintro ((h | ⟨h, k⟩) | ⟨h, k⟩)
              · exact .inl (.inl h)
              · exact .inl (.inr ⟨h, hc, k⟩)
              · exact .inr ⟨h, hs1, hc, hs3, hs2, hb, t, u, ho, hbt, htu, k⟩
            · rintro ((h | ⟨h, k⟩) | ⟨h, _, _, _, _, _, t', u', k1, k2, _, k3⟩)
              · exact .inl (.inl h)
              · exact .inl (.inr ⟨h, k.2⟩)
              · rw [ho] at k1
                rw [hbt] at k2
                injection k1 with k1
                injection k2 with k2
                subst k1
                subst k2
                exact .inr ⟨h, k3⟩
          · rename_i htu
            refine hno h2 ?_
            rintro ⟨_, _, _, _, _, t', u', k1, k2, k3, _⟩
            rw [ho] at k1
            rw [hbt] at k2
            injection k1 with k1
            injection k2 with k2
            subst k1
            subst k2
            exact htu k3
  · rw [if_neg hc]
    exact h.congr fun q => by
      unfold Or1
      constructor
      · exact fun h => .inl (.inl h)
      · rintro ((h | ⟨_, h, _⟩) | ⟨_, _, h, _⟩)
        · exact h
        · exact absurd h hc
        · exact absurd h hc
theorem led_closeTo {S : Int → Prop} {z : Int} (h : Led z S) (l : List PS) (b : PS) (hb : b.went = true) (k : Nat) : ∀ n, n ≤ l.length →
    Led (closeTo l b k n z) (Or1 (Or1 S 6 (∃ j o, j < n ∧ l[j]? = some o ∧ o.conf = b.conf ∧ Ow b o)) 5 (∃ j o, j < n ∧ j ≠ k ∧ l[j]? = some o ∧ P5 o b))
  | 0, _ => h.congr fun q => by
    unfold Or1
    constructor
    · exact fun h => .inl (.inl h)
    · rintro ((h | ⟨_, j, o, h, _⟩) | ⟨_, j, o, h, _⟩)
      · exact h
      · omega
      · omega
  | n + 1, hn => by
    have ih := led_closeTo h l b hb k n (by omega)
    have hl : l[n]? = some (l.getD n b) := by
      rw [List.getD_eq_getElem?_getD, List.getElem?_eq_getElem (by omega)]
      rfl
    refine (led_close ih b hb (decide (n = k)) (l.getD n b)).congr fun q => ?_
    unfold Or1
    constructor
    · rintro ((((h | ⟨h, j, o, k1, k2⟩) | ⟨h, j, o, k1, k2⟩) | ⟨h, k2⟩) | ⟨h, k1, k2⟩)
      · exact .inl (.inl h)
      · exact .inl (.inr ⟨h, j, o, by omega, k2⟩)
      · exact .inr ⟨h, j, o, by omega, k2⟩
      · exact .inl (.inr ⟨h, n, _, by omega, hl, k2⟩)
      · exact .inr ⟨h, n, _, by omega, by simpa using k1, hl, k2⟩
    · rintro ((h | ⟨h, j, o, k1, k2, k3⟩) | ⟨h, j, o, k1, k4, k2, k3⟩)
      · exact .inl (.inl (.inl (.inl h)))
      · by_cases hj : j = n
        · subst hj
          rw [hl] at k2
          injection k2 with k2
          subst k2
          exact .inl (.inr ⟨h, k3⟩)
        · exact .inl (.inl (.inl (.inr ⟨h, j, o, by omega, k2, k3⟩)))
      · by_cases hj : j = n
        · subst hj
          rw [hl] at k2
          injection k2 with k2
          subst k2
          exact .inr ⟨h, by simpa using k4, k3⟩
        · exact .inl (.inl (.inr ⟨h, j, o, by omega, k4, k2, k3⟩))
end Go.Proofs.Ytogagkgkmoppmaa
namespace Go.Proofs.Ytogagkgkmoppmaa
set_option linter.unusedVariables false
set_option linter.unusedSimpArgs false
open Go.RowKit GM
def badB (t : J) (q : Int) : Prop := (get t.bad q).getD false = true
theorem badB_br (t : J) (r : Int) (b : Bool) (q : Int) : badB (t.br r b) q ↔ badB t q ∨ (q = r ∧ b = true) := by
  unfold badB J.br
  cases b
  · simp
  · simp only [if_true, get_put]
    by_cases h : q = r
    · simp [h]
    · simp [h]
/-- t' is t but for more that is broken -/
structure Adds (t t' : J) (N : Int → Prop) : Prop where
  stays : t'.stays = t.stays
  bad : ∀ q, badB t' q ↔ badB t q ∨ N q
theorem Adds.refl (t : J) : Adds t t (fun _ => False) := ⟨rfl, fun q => by simp⟩
theorem Adds.congr {t t' : J} {N N' : Int → Prop} (h : Adds t t' N) (e : ∀ q, N q ↔ N' q) : Adds t t' N' := ⟨h.stays, fun q => by rw [h.bad q, e q]⟩
theorem Adds.trans {t t' t'' : J} {N N' : Int → Prop} (h : Adds t t' N) (k : Adds t' t'' N') : Adds t t'' (fun q => N q ∨ N' q) := ⟨k.stays.trans h.stays, fun q => by rw [k.bad q, h.bad q, or_assoc]⟩
theorem adds_br (t : J) (r : Int) (b : Bool) : Adds t (t.br r b) (fun q => q = r ∧ b = true) := ⟨(J.br_stays t r b).1, badB_br t r b⟩
theorem ex_succ {n : Nat} {C : Nat → Prop} : (∃ i, i < n + 1 ∧ C i) ↔ (∃ i, i < n ∧ C i) ∨ C n := by
  constructor
  · rintro ⟨i, hi, h⟩
    by_cases e : i = n
    · exact .inr (e ▸ h)
    · exact .inl ⟨i, by omega, h⟩
  · rintro (⟨i, hi, h⟩ | h)
    · exact ⟨i, by omega, h⟩
    · exact ⟨n, by omega, h⟩
/-- a row of steps, each of which adds something -/
theorem adds_rec {t : J} {f : Nat → J} {C : Nat → Int → Prop} (h0 : f 0 = t) (hs : ∀ n, (f n).stays = t.stays → Adds (f n) (f (n + 1)) (C n)) : ∀ n, Adds t (f n) (fun q => ∃ i, i < n ∧ C i q)
  | 0 => by
    rw [h0]
    exact (Adds.refl t).congr fun q => ⟨False.elim, fun ⟨i, hi, _⟩ => by omega⟩
  | n + 1 => ((adds_rec h0 hs n).trans (hs n (adds_rec h0 hs n).stays)).congr fun q => ex_succ.symm
section
variable (l : List Ev)
def Beh (i : Nat) : Prop := ∃ x, l[i]? = some x ∧ x.kind = 2 ∧ cntJ l i x ≠ 1
theorem adds_behind (t : J) (n : Nat) : Adds t (t.behind l n) (fun q => ∃ i, i < n ∧ q = 2 ∧ Beh l i) := by
  refine adds_rec (f := fun n => t.behind l n) (C := fun i q => q = 2 ∧ Beh l i) rfl (fun n hn => ?_) n
  show Adds (t.behind l n) ((t.behind l n).behind1 l n) _
  unfold J.behind1 Beh
  cases hx : l[n]? with
  | none =>
    refine (Adds.refl _).congr fun q => ?_
    simp
  | some x =>
    simp only
    by_cases hs : isSend x = true
    · rw [if_pos hs]
      refine (Adds.refl _).congr fun q => ⟨False.elim, fun ⟨_, y, e, k, _⟩ => ?_⟩
      injection e with e
      subst e
      unfold isSend at hs
      simp only [Bool.and_eq_true, decide_eq_true_eq] at hs
      omega
    · rw [if_neg hs]
      by_cases hk : x.kind = 2
      · rw [if_pos hk]
        refine (adds_br _ _ _).congr fun q => ?_
        simp [hk]
      · rw [if_neg hk]
        refine (Adds.refl _).congr fun q => ⟨False.elim, fun ⟨_, y, e, k, _⟩ => ?_⟩
        injection e with e
        subst e
        exact hk k
def Twi (i : Nat) : Prop := ∃ x, l[i]? = some x ∧ x.kind = 2 ∧ (List.range i).any (hadAt l (hadJ x)) = true
theorem adds_twice (t : J) (n : Nat) : Adds t (t.twice l n) (fun q => ∃ i, i < n ∧ q = 3 ∧ Twi l i) := by
  refine adds_rec (f := fun n => t.twice l n) (C := fun i q => q = 3 ∧ Twi l i) rfl (fun n hn => ?_) n
  show Adds (t.twice l n) ((t.twice l n).twice1 l n) _
  unfold J.twice1 Twi
  cases hx : l[n]? with
  | none =>
    refine (Adds.refl _).congr fun q => ?_
    simp
  | some x =>
    simp only
    by_cases hk : x.kind = 2
    · rw [if_pos hk]
      refine (adds_br _ _ _).congr fun q => ?_
      constructor
      · rintro ⟨h1, h2⟩
        exact ⟨h1, x, rfl, hk, h2⟩
      · rintro ⟨h1, y, e, _, h2⟩
        injection e with e
        subst e
        exact ⟨h1, h2⟩
    · rw [if_neg hk]
      refine (Adds.refl _).congr fun q => ⟨False.elim, fun ⟨_, y, e, k, _⟩ => ?_⟩
      injection e with e
      subst e
      exact hk k
def Dep (L : List (Nat × Bool)) (ds : List Nat) : Prop := ∃ d, d < ds.length ∧ (cntG l L (d : Int) : Int) < ((ds.getD d 0 : Nat) : Int)
theorem adds_deps (t : J) (L : List (Nat × Bool)) (ds : List Nat) : Adds t (t.deps l L ds ds.length) (fun q => q = 4 ∧ Dep l L ds) := by
  refine (adds_rec (f := fun n => t.deps l L ds n) (C := fun d q => q = 4 ∧ (cntG l L (d : Int) : Int) < ((ds.getD d 0 : Nat) : Int)) rfl (fun n hn => ?_) ds.length).congr fun q => ?_
  · refine (adds_br _ _ _).congr fun q => ?_
    rw [decide_eq_true_eq]
  · unfold Dep
    constructor
    · rintro ⟨i, h1, h2, h3⟩
      exact ⟨h2, i, h1, h3⟩
    · rintro ⟨h2, i, h1, h3⟩
      exact ⟨i, h1, h2, h3⟩
/-- a stay's deliveries: their keys rise; what each had -/
def Key1 (L : List (Nat × Bool)) (i : Nat) (g : Nat × Bool) : Prop := ∃ p, 0 < i ∧ L[i - 1]? = some p ∧ lessJ (gotM l p) (gotM l g) = true
theorem adds_keys1 (t : J) (L : List (Nat × Bool)) (i : Nat) : Adds t (t.keys1 l L i) (fun q => ∃ g, L[i]? = some g ∧ ((q = 3 ∧ Key1 l L i g) ∨ (q = 4 ∧ Dep l (L.take i) (gotM l g).ds))) := by
  unfold J.keys1
  cases hg : L[i]? with
  | none => exact (Adds.refl _).congr fun q => by simp
  | some g =>
    refine ((adds_br t 3 _).trans (adds_deps l _ (L.take i) (gotM l g).ds)).congr fun q => ?_
    simp only [Option.some.injEq, exists_eq_left']
    refine or_congr (and_congr Iff.rfl ?_) Iff.rfl
    unfold Key1
    cases hp : L[i - 1]? with
    | none => simp
    | some p => simp
theorem adds_keys (t : J) (L : List (Nat × Bool)) (n : Nat) : Adds t (t.keys l L n) (fun q => ∃ i, i < n ∧ ∃ g, L[i]? = some g ∧ ((q = 3 ∧ Key1 l L i g) ∨ (q = 4 ∧ Dep l (L.take i) (gotM l g).ds))) :=
  adds_rec (f := fun n => t.keys l L n) (C := fun i q => ∃ g, L[i]? = some g ∧ ((q = 3 ∧ Key1 l L i g) ∨ (q = 4 ∧ Dep l (L.take i) (gotM l g).ds))) rfl (fun n hn => adds_keys1 l _ L n) n
def Onc (s : JS) (q : Int) : Prop := ∃ (i : Nat) (g : Nat × Bool), s.gots[i]? = some g ∧ ((q = 3 ∧ Key1 l s.gots i g) ∨ (q = 4 ∧ Dep l (s.gots.take i) (gotM l g).ds))
theorem adds_once (t : J) : Adds t (t.once l t.stays.length) (fun q => ∃ (k : Nat) (s : JS), t.stays[k]? = some s ∧ Onc l s q) := by
  refine (adds_rec (f := fun n => t.once l n) (C := fun k q => ∃ s, t.stays[k]? = some s ∧ Onc l s q) rfl (fun n hn => ?_) t.stays.length).congr fun q => ?_
  · show Adds (t.once l n) (match t.stays[n]? with
      | none => t.once l n
      | some s => (t.once l n).keys l s.gots s.gots.length) _
    cases hs : t.stays[n]? with
    | none => exact (Adds.refl _).congr fun q => by simp
    | some s =>
      refine (adds_keys l _ s.gots s.gots.length).congr fun q => ?_
      unfold Onc
      constructor
      · rintro ⟨i, _, g, h⟩
        exact ⟨s, rfl, i, g, h⟩
      · rintro ⟨s', e, i, g, h1, h2⟩
        injection e with e
        subst e
        exact ⟨i, (List.getElem?_eq_some_iff.1 h1).1, g, h1, h2⟩
  · constructor
    · rintro ⟨k, _, s, h⟩
      exact ⟨k, s, h⟩
    · rintro ⟨k, s, h1, h2⟩
      exact ⟨k, (List.getElem?_eq_some_iff.1 h1).1, s, h1, h2⟩
def Par (a b : JS) : Prop := pairJ l a b = true ∧ diffJ l a b = true
theorem adds_pairs (t : J) (a : JS) (u : J) (hu : u.stays = t.stays) (n : Nat) : Adds u (u.pairs l a n) (fun q => ∃ j, j < n ∧ ∃ b : JS, u.stays[j]? = some b ∧ q = 5 ∧ Par l a b) := by
  refine adds_rec (f := fun n => u.pairs l a n) (C := fun j q => ∃ b : JS, u.stays[j]? = some b ∧ q = 5 ∧ Par l a b) rfl (fun n hn => ?_) n
  show Adds (u.pairs l a n) (match u.stays[n]? with
    | none => u.pairs l a n
    | some b => (u.pairs l a n).pair l a b) _
  cases hs : u.stays[n]? with
  | none => exact (Adds.refl _).congr fun q => by simp
  | some b =>
    simp only [Option.some.injEq, exists_eq_left']
    unfold J.pair Par
    by_cases hp : pairJ l a b = true
    · rw [if_pos hp]
      refine (adds_br _ _ _).congr fun q => ?_
      simp [hp]
    · rw [if_neg hp]
      refine (Adds.refl _).congr fun q => ?_
      simp [hp]
def Saf (a b : JS) : Prop := ∃ (i : Nat) (g : Nat × Bool), a.gots[i]? = some g ∧ ((gotM l g).service = 2 ∧ hasB (memJ l a g) b.proc = true) ∧ hasJ l b (gotM l g) = false
theorem adds_safe (t : J) (a b : JS) : Adds t (t.safe l a b a.gots.length) (fun q => q = 6 ∧ Saf l a b) := by
  refine (adds_rec (f := fun n => t.safe l a b n) (C := fun i q => ∃ g, a.gots[i]? = some g ∧ q = 6 ∧ ((gotM l g).service = 2 ∧ hasB (memJ l a g) b.proc = true) ∧ hasJ l b (gotM l g) = false) rfl (fun n hn => ?_) a.gots.length).congr fun q => ?_
  · show Adds (t.safe l a b n) ((t.safe l a b n).safe1 l a b n) _
    unfold J.safe1
    cases hg : a.gots[n]? with
    | none => exact (Adds.refl _).congr fun q => by simp
    | some g =>
      simp only [Option.some.injEq, exists_eq_left']
      refine (adds_br _ _ _).congr fun q => ?_
      simp only [Bool.and_eq_true, decide_eq_true_eq, Bool.not_eq_true']
  · unfold Saf
    constructor
    · rintro ⟨i, _, g, h1, h2, h3⟩
      exact ⟨h2, i, g, h1, h3⟩
    · rintro ⟨h2, i, g, h1, h3⟩
      exact ⟨i, (List.getElem?_eq_some_iff.1 h1).1, g, h1, h2, h3⟩
theorem adds_safes (u : J) (a : JS) (n : Nat) : Adds u (u.safes l a n) (fun q => ∃ j, j < n ∧ ∃ b : JS, u.stays[j]? = some b ∧ q = 6 ∧ (a.cf = b.cf ∧ b.nx.isSome = true) ∧ Saf l a b) := by
  refine adds_rec (f := fun n => u.safes l a n) (C := fun j q => ∃ b : JS, u.stays[j]? = some b ∧ q = 6 ∧ (a.cf = b.cf ∧ b.nx.isSome = true) ∧ Saf l a b) rfl (fun n hn => ?_) n
  show Adds (u.safes l a n) (match u.stays[n]? with
    | none => u.safes l a n
    | some b => if decide (a.cf = b.cf) && b.nx.isSome then (u.safes l a n).safe l a b a.gots.length else u.safes l a n) _
  cases hs : u.stays[n]? with
  | none => exact (Adds.refl _).congr fun q => by simp
  | some b =>
    simp only [Option.some.injEq, exists_eq_left']
    by_cases hp : (decide (a.cf = b.cf) && b.nx.isSome) = true
    · rw [if_pos hp]
      refine (adds_safe l _ a b).congr fun q => ?_
      simp only [Bool.and_eq_true, decide_eq_true_eq] at hp
      simp [hp]
    · rw [if_neg hp]
      refine (Adds.refl _).congr fun q => ?_
      simp only [Bool.and_eq_true, decide_eq_true_eq] at hp
      constructor
      · exact False.elim
      · rintro ⟨_, h, _⟩
        exact hp h
def Tog (t : J) (q : Int) : Prop := (q = 5 ∧ ∃ (i j : Nat) (a b : JS), j < i ∧ t.stays[i]? = some a ∧ t.stays[j]? = some b ∧ Par l a b) ∨ (q = 6 ∧ ∃ (i j : Nat) (a b : JS), t.stays[i]? = some a ∧ t.stays[j]? = some b ∧ (a.cf = b.cf ∧ b.nx.isSome = true) ∧ Saf l a b)
theorem adds_tog (t : J) : Adds t (t.tog l t.stays.length) (Tog l t) := by
  refine (adds_rec (t := t) (f := fun n => t.tog l n) (C := fun i q => ∃ a, t.stays[i]? = some a ∧ ((∃ j, j < i ∧ ∃ b, t.stays[j]? = some b ∧ q = 5 ∧ Par l a b) ∨ (∃ j, j < t.stays.length ∧ ∃ b, t.stays[j]? = some b ∧ q = 6 ∧ (a.cf = b.cf ∧ b.nx.isSome = true) ∧ Saf l a b))) rfl (fun n hn => ?_) t.stays.length).congr fun q => ?_
  · show Adds (t.tog l n) ((t.tog l n).tog1 l n) _
    unfold J.tog1
    rw [hn]
    cases hs : t.stays[n]? with
    | none => exact (Adds.refl _).congr fun q => by simp
    | some a =>
      simp only [Option.some.injEq, exists_eq_left']
      have h1 := adds_pairs l t a (t.tog l n) hn n
      have h2 := adds_safes l ((t.tog l n).pairs l a n) a t.stays.length
      rw [hn] at h1
      rw [h1.stays, hn] at h2
      exact h1.trans h2
  · unfold Tog
    constructor
    · rintro ⟨i, hi, a, ha, ⟨j, hj, b, hb, h1, h2⟩ | ⟨j, hj, b, hb, h1, h2⟩⟩
      · exact .inl ⟨h1, i, j, a, b, hj, ha, hb, h2⟩
      · exact .inr ⟨h1, i, j, a, b, ha, hb, h2⟩
    · rintro (⟨h1, i, j, a, b, hj, ha, hb, h2⟩ | ⟨h1, i, j, a, b, ha, hb, h2⟩)
      · exact ⟨i, (List.getElem?_eq_some_iff.1 ha).1, a, ha, .inl ⟨j, hj, b, hb, h1, h2⟩⟩
      · exact ⟨i, (List.getElem?_eq_some_iff.1 ha).1, a, ha, .inr ⟨j, (List.getElem?_eq_some_iff.1 hb).1, b, hb, h1, h2⟩⟩
/-- all that is found broken in a trace that was gone through -/
def Found (t : J) (n : Nat) (q : Int) : Prop := (q = 2 ∧ ∃ i, i < n ∧ Beh l i) ∨ (q = 3 ∧ ∃ i, i < n ∧ Twi l i) ∨ (∃ (k : Nat) (s : JS), t.stays[k]? = some s ∧ Onc l s q) ∨ Tog l t q
theorem judged_bad (nm : Nat → List NameK) (q : Int) : badB (judged l nm) q ↔ badB (thru l nm l.length) q ∨ Found l (thru l nm l.length) l.length q := by
  obtain ⟨t, ht⟩ : ∃ t, t = thru l nm l.length := ⟨_, rfl⟩
  unfold judged
  rw [← ht]
  have h1 := adds_behind l t l.length
  have h2 := adds_twice l (t.behind l l.length) l.length
  have h12 := h1.trans h2
  have h3 := adds_once l ((t.behind l l.length).twice l l.length)
  have h123 := h12.trans h3
  have h4 := adds_tog l (((t.behind l l.length).twice l l.length).once l ((t.behind l l.length).twice l l.length).stays.length)
  have h := (h123.trans h4).bad q
  simp only
  rw [h]
  refine or_congr Iff.rfl ?_
  unfold Found
  have e1 : ((t.behind l l.length).twice l l.length).stays = t.stays := h12.stays
  have e2 : ∀ u : J, u.stays = t.stays → (Tog l u q ↔ Tog l t q) := fun u hu => by
    unfold Tog
    rw [hu]
  rw [e2 _ h123.stays, e1]
  constructor
  · rintro (((⟨i, k, k1, k2⟩ | ⟨i, k, k1, k2⟩) | k) | k)
    · exact .inl ⟨k1, i, k, k2⟩
    · exact .inr (.inl ⟨k1, i, k, k2⟩)
    · exact .inr (.inr (.inl k))
    · exact .inr (.inr (.inr k))
  · rintro (⟨k1, i, k, k2⟩ | ⟨k1, i, k, k2⟩ | k | k)
    · exact .inl (.inl (.inl ⟨i, k, k1, k2⟩))
    · exact .inl (.inl (.inr ⟨i, k, k1, k2⟩))
    · exact .inl (.inr k)
    · exact .inr k
end
end Go.Proofs.Ytogagkgkmoppmaa
namespace Go.Proofs.Ytogagkgkmoppmaa
set_option linter.unusedVariables false
set_option linter.unusedSimpArgs false
open Go.RowKit GM
def lessM (y z : Msg) : Prop := 0 ≤ keyZ (y.stamp : Int) y.frm (z.stamp : Int) z.frm
def cntF (L : List Msg) (q : Int) : Nat := (L.filter fun m => decide (m.frm = q)).length
def DepM (L : List Msg) (z : Msg) : Prop := ∃ d, d < z.ds.length ∧ (cntF L (d : Int) : Int) < ((z.ds.getD d 0 : Nat) : Int)
def Ord3 (L : List Msg) : Prop := ∃ (i : Nat) (y z : Msg), L[i]? = some y ∧ L[i + 1]? = some z ∧ lessM y z
def Dep4 (L : List Msg) : Prop := ∃ (i : Nat) (z : Msg), L[i]? = some z ∧ DepM (L.take i) z
theorem ord3_snoc (L : List Msg) (m : Msg) : Ord3 (L ++ [m]) ↔ Ord3 L ∨ ∃ y, L.getLast? = some y ∧ lessM y m := by
  constructor
  · rintro ⟨i, y, z, h1, h2, h3⟩
    have hl := (List.getElem?_eq_some_iff.1 h2).1
    simp only [List.length_append, List.length_cons, List.length_nil] at hl
    rw [List.getElem?_append_left (by omega)] at h1
    by_cases h : i + 1 < L.length
    · rw [List.getElem?_append_left h] at h2
      exact .inl ⟨i, y, z, h1, h2, h3⟩
    · rw [List.getElem?_append_right (by omega), show i + 1 - L.length = 0 by omega] at h2
      injection h2 with h2
      subst h2
      refine .inr ⟨y, ?_, h3⟩
      rw [List.getLast?_eq_getElem?, show L.length - 1 = i by omega]
      exact h1
  · rintro (⟨i, y, z, h1, h2, h3⟩ | ⟨y, h1, h3⟩)
    · exact ⟨i, y, z, by rw [List.getElem?_append_left (List.getElem?_eq_some_iff.1 h1).1]; exact h1, by rw [List.getElem?_append_left (List.getElem?_eq_some_iff.1 h2).1]; exact h2, h3⟩
    · rw [List.getLast?_eq_getElem?] at h1
      have hl := (List.getElem?_eq_some_iff.1 h1).1
      refine ⟨L.length - 1, y, m, by rw [List.getElem?_append_left hl]; exact h1, ?_, h3⟩
      rw [show L.length - 1 + 1 = L.length by omega]
      simp
theorem dep4_snoc (L : List Msg) (m : Msg) : Dep4 (L ++ [m]) ↔ Dep4 L ∨ DepM L m := by
  constructor
  · rintro ⟨i, z, h1, h2⟩
    have hl := (List.getElem?_eq_some_iff.1 h1).1
    simp only [List.length_append, List.length_cons, List.length_nil] at hl
    rw [List.take_append_of_le_length (by omega)] at h2
    by_cases h : i < L.length
    · rw [List.getElem?_append_left h] at h1
      exact .inl ⟨i, z, h1, h2⟩
    · rw [List.getElem?_append_right (by omega), show i - L.length = 0 by omega] at h1
      injection h1 with h1
      subst h1
      rw [List.take_of_length_le (by omega)] at h2
      exact .inr h2
  · rintro (⟨i, z, h1, h2⟩ | h2)
    · have hl := (List.getElem?_eq_some_iff.1 h1).1
      exact ⟨i, z, by rw [List.getElem?_append_left hl]; exact h1, by rw [List.take_append_of_le_length (by omega)]; exact h2⟩
    · exact ⟨L.length, m, by simp, by rw [List.take_append_of_le_length (Nat.le_refl _), List.take_length]; exact h2⟩
theorem cntF_snoc (L : List Msg) (m : Msg) (q : Int) : cntF (L ++ [m]) q = cntF L q + (if m.frm = q then 1 else 0) := by
  unfold cntF
  rw [List.filter_append, List.length_append, List.filter_cons, List.filter_nil]
  simp only [decide_eq_true_eq]
  split <;> rfl
def S3 (S : List PS) : Prop := ∃ (k : Nat) (s : PS), S[k]? = some s ∧ Ord3 (s.p0 ++ s.p1)
def S4 (S : List PS) : Prop := ∃ (k : Nat) (s : PS), S[k]? = some s ∧ Dep4 (s.p0 ++ s.p1)
def S5 (S : List PS) : Prop := ∃ (i j : Nat) (a b : PS), S[i]? = some a ∧ S[j]? = some b ∧ i ≠ j ∧ P5 a b
def S6 (S : List PS) : Prop := ∃ (i j : Nat) (a b : PS), S[i]? = some a ∧ S[j]? = some b ∧ (a.conf = b.conf ∧ b.went = true) ∧ Ow b a
section
variable {f g : Nat → Option PS} {k : Nat} {s : PS}
theorem one_gen {C : PS → Prop} (hk : f k = some s) (hne : ∀ j, j ≠ k → f j = g j) : (∃ (j : Nat) (u : PS), f j = some u ∧ C u) ↔ C s ∨ ∃ (j : Nat) (u : PS), j ≠ k ∧ g j = some u ∧ C u := by
  constructor
  · rintro ⟨j, u, h1, h2⟩
    by_cases e : j = k
    · subst e
      rw [hk] at h1
      injection h1 with h1
      subst h1
      exact .inl h2
    · exact .inr ⟨j, u, e, (hne j e) ▸ h1, h2⟩
  · rintro (h | ⟨j, u, e, h1, h2⟩)
    · exact ⟨k, s, hk, h⟩
    · exact ⟨j, u, (hne j e).trans h1, h2⟩
theorem two_gen {C : Nat → Nat → PS → PS → Prop} (hk : f k = some s) (hne : ∀ j, j ≠ k → f j = g j) : (∃ (i j : Nat) (a b : PS), f i = some a ∧ f j = some b ∧ C i j a b) ↔
    (∃ (i j : Nat) (a b : PS), i ≠ k ∧ j ≠ k ∧ g i = some a ∧ g j = some b ∧ C i j a b) ∨ (∃ (j : Nat) (b : PS), j ≠ k ∧ g j = some b ∧ C k j s b) ∨ (∃ (i : Nat) (a : PS), i ≠ k ∧ g i = some a ∧ C i k a s) ∨ C k k s s := by
  constructor
  · rintro ⟨i, j, a, b, h1, h2, h3⟩
    by_cases e1 : i = k
    · subst e1
      rw [hk] at h1
      injection h1 with h1
      subst h1
      by_cases e2 : j = i
      · subst e2
        rw [hk] at h2
        injection h2 with h2
        subst h2
        exact .inr (.inr (.inr h3))
      · exact .inr (.inl ⟨j, b, e2, (hne j e2) ▸ h2, h3⟩)
    · by_cases e2 : j = k
      · subst e2
        rw [hk] at h2
        injection h2 with h2
        subst h2
        exact .inr (.inr (.inl ⟨i, a, e1, (hne i e1) ▸ h1, h3⟩))
      · exact .inl ⟨i, j, a, b, e1, e2, (hne i e1) ▸ h1, (hne j e2) ▸ h2, h3⟩
  · rintro (⟨i, j, a, b, e1, e2, h1, h2, h3⟩ | ⟨j, b, e, h1, h2⟩ | ⟨i, a, e, h1, h2⟩ | h)
    · exact ⟨i, j, a, b, (hne i e1).trans h1, (hne j e2).trans h2, h3⟩
    · exact ⟨k, j, s, b, hk, (hne j e).trans h1, h2⟩
    · exact ⟨i, k, a, s, (hne i e).trans h1, hk, h2⟩
    · exact ⟨k, k, s, s, hk, hk, h⟩
end
section
variable {S : List PS} {k : Nat} {p p' : PS}
theorem set_k (h : S[k]? = some p) : (S.set k p')[k]? = some p' := by
  have := (List.getElem?_eq_some_iff.1 h).1
  simp [this]
theorem set_ne {j : Nat} (e : j ≠ k) : (S.set k p')[j]? = S[j]? := List.getElem?_set_ne (Ne.symm e)
theorem one_set {C : PS → Prop} (h : S[k]? = some p) : (∃ (j : Nat) (u : PS), (S.set k p')[j]? = some u ∧ C u) ↔ C p' ∨ ∃ (j : Nat) (u : PS), j ≠ k ∧ S[j]? = some u ∧ C u :=
  one_gen (f := fun j => (S.set k p')[j]?) (g := fun j => S[j]?) (set_k h) (fun j e => set_ne e)
theorem one_old {C : PS → Prop} (h : S[k]? = some p) : (∃ (j : Nat) (u : PS), S[j]? = some u ∧ C u) ↔ C p ∨ ∃ (j : Nat) (u : PS), j ≠ k ∧ S[j]? = some u ∧ C u :=
  one_gen (f := fun j => S[j]?) (g := fun j => S[j]?) h (fun j e => rfl)
theorem one_app {C : PS → Prop} : (∃ (j : Nat) (u : PS), (S ++ [p])[j]? = some u ∧ C u) ↔ C p ∨ ∃ (j : Nat) (u : PS), S[j]? = some u ∧ C u := by
  rw [one_gen (f := fun j => (S ++ [p])[j]?) (g := fun j => S[j]?) (k := S.length) (s := p) (by simp) (fun j e => by
    rcases Nat.lt_or_ge j S.length with h | h
    · exact List.getElem?_append_left h
    · rw [List.getElem?_eq_none (by simp; omega), List.getElem?_eq_none h])]
  refine or_congr Iff.rfl ⟨fun ⟨j, u, _, h⟩ => ⟨j, u, h⟩, fun ⟨j, u, h⟩ => ⟨j, u, ?_, h⟩⟩
  have := (List.getElem?_eq_some_iff.1 h.1).1
  omega
theorem two_set {C : Nat → Nat → PS → PS → Prop} (h : S[k]? = some p) : (∃ (i j : Nat) (a b : PS), (S.set k p')[i]? = some a ∧ (S.set k p')[j]? = some b ∧ C i j a b) ↔
    (∃ (i j : Nat) (a b : PS), i ≠ k ∧ j ≠ k ∧ S[i]? = some a ∧ S[j]? = some b ∧ C i j a b) ∨ (∃ (j : Nat) (b : PS), j ≠ k ∧ S[j]? = some b ∧ C k j p' b) ∨ (∃ (i : Nat) (a : PS), i ≠ k ∧ S[i]? = some a ∧ C i k a p') ∨ C k k p' p' :=
  two_gen (f := fun j => (S.set k p')[j]?) (g := fun j => S[j]?) (set_k h) (fun j e => set_ne e)
theorem two_old {C : Nat → Nat → PS → PS → Prop} (h : S[k]? = some p) : (∃ (i j : Nat) (a b : PS), S[i]? = some a ∧ S[j]? = some b ∧ C i j a b) ↔
    (∃ (i j : Nat) (a b : PS), i ≠ k ∧ j ≠ k ∧ S[i]? = some a ∧ S[j]? = some b ∧ C i j a b) ∨ (∃ (j : Nat) (b : PS), j ≠ k ∧ S[j]? = some b ∧ C k j p b) ∨ (∃ (i : Nat) (a : PS), i ≠ k ∧ S[i]? = some a ∧ C i k a p) ∨ C k k p p :=
  two_gen (f := fun j => S[j]?) (g := fun j => S[j]?) h (fun j e => rfl)
theorem two_app {C : Nat → Nat → PS → PS → Prop} (h1 : ∀ i j a, ¬ C i j a p) (h2 : ∀ i j b, ¬ C i j p b) : (∃ (i j : Nat) (a b : PS), (S ++ [p])[i]? = some a ∧ (S ++ [p])[j]? = some b ∧ C i j a b) ↔ ∃ (i j : Nat) (a b : PS), S[i]? = some a ∧ S[j]? = some b ∧ C i j a b := by
  rw [two_gen (f := fun j => (S ++ [p])[j]?) (g := fun j => S[j]?) (k := S.length) (s := p) (by simp) (fun j e => by
    rcases Nat.lt_or_ge j S.length with h | h
    · exact List.getElem?_append_left h
    · rw [List.getElem?_eq_none (by simp; omega), List.getElem?_eq_none h])]
  constructor
  · rintro (⟨i, j, a, b, _, _, h3, h4, h5⟩ | ⟨j, b, _, _, h⟩ | ⟨j, b, _, _, h⟩ | h)
    · exact ⟨i, j, a, b, h3, h4, h5⟩
    · exact absurd h (h2 _ _ _)
    · exact absurd h (h1 _ _ _)
    · exact absurd h (h1 _ _ _)
  · rintro ⟨i, j, a, b, h3, h4, h5⟩
    have := (List.getElem?_eq_some_iff.1 h3).1
    have := (List.getElem?_eq_some_iff.1 h4).1
    exact .inl ⟨i, j, a, b, by omega, by omega, h3, h4, h5⟩
theorem sameM_symm (a b : Msg) : sameM a b = sameM b a := by
  unfold sameM
  rw [Bool.eq_iff_iff]
  simp only [decide_eq_true_eq]
  constructor <;> (rintro ⟨h1, h2, h3, h4, h5, h6⟩; exact ⟨h1.symm, h2.symm, h3.symm, h4.symm, h5.symm, h6.symm⟩)
theorem sameL_symm : ∀ a b : List Msg, sameL a b = sameL b a
  | [], [] => rfl
  | [], _ :: _ => rfl
  | _ :: _, [] => rfl
  | x :: a, y :: b => by
    show (sameM x y && sameL a b) = (sameM y x && sameL b a)
    rw [sameM_symm, sameL_symm a b]
theorem P5.symm {a b : PS} (h : P5 a b) : P5 b a := by
  obtain ⟨h1, h2, h3, h4, t, u, h5, h6, h7, h8⟩ := h
  refine ⟨h1.symm, Ne.symm h2, h4, h3, u, t, h6, h5, h7.symm, ?_⟩
  rw [sameL_symm b.p0, sameL_symm b.p1, show (u.2 == t.2) = (t.2 == u.2) from BEq.comm]
  exact h8
theorem s3_set (h : S[k]? = some p) {N : Prop} (hc : Ord3 (p'.p0 ++ p'.p1) ↔ Ord3 (p.p0 ++ p.p1) ∨ N) : S3 (S.set k p') ↔ S3 S ∨ N := by
  unfold S3
  rw [one_set (C := fun s => Ord3 (s.p0 ++ s.p1)) h, one_old (C := fun s => Ord3 (s.p0 ++ s.p1)) h, hc, or_right_comm]
theorem s4_set (h : S[k]? = some p) {N : Prop} (hc : Dep4 (p'.p0 ++ p'.p1) ↔ Dep4 (p.p0 ++ p.p1) ∨ N) : S4 (S.set k p') ↔ S4 S ∨ N := by
  unfold S4
  rw [one_set (C := fun s => Dep4 (s.p0 ++ s.p1)) h, one_old (C := fun s => Dep4 (s.p0 ++ s.p1)) h, hc, or_right_comm]
theorem s5_same (h : S[k]? = some p) (hw : p.went = false) (hw' : p'.went = false) : S5 (S.set k p') ↔ S5 S := by
  unfold S5
  rw [two_set (C := fun i j a b => i ≠ j ∧ P5 a b) h, two_old (C := fun i j a b => i ≠ j ∧ P5 a b) h]
  have n1 : ∀ b, ¬ P5 p b := fun b h => by have := h.2.2.1; rw [hw] at this; cases this
  have n2 : ∀ b, ¬ P5 b p := fun b h => by have := h.2.2.2.1; rw [hw] at this; cases this
  have n3 : ∀ b, ¬ P5 p' b := fun b h => by have := h.2.2.1; rw [hw'] at this; cases this
  have n4 : ∀ b, ¬ P5 b p' := fun b h => by have := h.2.2.2.1; rw [hw'] at this; cases this
  simp only [n1, n2, n3, n4, and_false, exists_false, or_false]
theorem s5_gone (h : S[k]? = some p) (hw : p.went = false) : S5 (S.set k p') ↔ S5 S ∨ ∃ (j : Nat) (o : PS), j ≠ k ∧ (S.set k p')[j]? = some o ∧ P5 o p' := by
  unfold S5
  rw [two_set (C := fun i j a b => i ≠ j ∧ P5 a b) h, two_old (C := fun i j a b => i ≠ j ∧ P5 a b) h]
  have n1 : ∀ b, ¬ P5 p b := fun b h => by have := h.2.2.1; rw [hw] at this; cases this
  have n2 : ∀ b, ¬ P5 b p := fun b h => by have := h.2.2.2.1; rw [hw] at this; cases this
  simp only [n1, n2, and_false, exists_false, or_false, ne_eq, not_true_eq_false, false_and]
  refine or_congr Iff.rfl ?_
  constructor
  · rintro (⟨j, b, e, h1, h2, h3⟩ | ⟨j, b, e, h1, h2, h3⟩)
    · exact ⟨j, b, e, (set_ne e).trans h1, h3.symm⟩
    · exact ⟨j, b, e, (set_ne e).trans h1, h3⟩
  · rintro ⟨j, b, e, h1, h3⟩
    exact .inr ⟨j, b, e, (set_ne e).symm.trans h1, e, h3⟩
theorem s6_set (h : S[k]? = some p) (hw : p.went = false) (hw' : p'.went = false) (hc : p'.conf = p.conf) {X : PS → Prop} (hOw : ∀ b, Ow b p' ↔ Ow b p ∨ X b) : S6 (S.set k p') ↔ S6 S ∨ ∃ b ∈ S.set k p', (b.conf = p.conf ∧ b.went = true) ∧ X b := by
  unfold S6
  have e1 : (∃ b ∈ S.set k p', (b.conf = p.conf ∧ b.went = true) ∧ X b) ↔ ∃ (j : Nat) (u : PS), (S.set k p')[j]? = some u ∧ (u.conf = p.conf ∧ u.went = true) ∧ X u := by
    constructor
    · rintro ⟨b, hb, h⟩
      obtain ⟨j, hj⟩ := List.mem_iff_getElem?.1 hb
      exact ⟨j, b, hj, h⟩
    · rintro ⟨j, b, hj, h⟩
      exact ⟨b, List.mem_of_getElem? hj, h⟩
  rw [e1, one_set (C := fun u => (u.conf = p.conf ∧ u.went = true) ∧ X u) h, two_set (C := fun i j a b => (a.conf = b.conf ∧ b.went = true) ∧ Ow b a) h, two_old (C := fun i j a b => (a.conf = b.conf ∧ b.went = true) ∧ Ow b a) h]
  simp only [hw, hw', Bool.false_eq_true, and_false, false_and, exists_false, or_false, false_or, hc, hOw]
  constructor
  · rintro (h | ⟨j, b, e, h1, ⟨h2, h3⟩, h4 | h4⟩)
    · exact .inl (.inl h)
    · exact .inl (.inr ⟨j, b, e, h1, ⟨h2, h3⟩, h4⟩)
    · exact .inr ⟨j, b, e, h1, ⟨h2.symm, h3⟩, h4⟩
  · rintro ((h | ⟨j, b, e, h1, h2, h4⟩) | ⟨j, b, e, h1, ⟨h2, h3⟩, h4⟩)
    · exact .inl h
    · exact .inr ⟨j, b, e, h1, h2, .inl h4⟩
    · exact .inr ⟨j, b, e, h1, ⟨h2.symm, h3⟩, .inr h4⟩
theorem s6_gone (h : S[k]? = some p) (hw : p.went = false) (hp : p' = { p with went := true }) : S6 (S.set k p') ↔ S6 S ∨ ∃ (j : Nat) (o : PS), (S.set k p')[j]? = some o ∧ o.conf = p'.conf ∧ Ow p' o := by
  unfold S6
  have e2 : ∀ b, Ow b p' ↔ Ow b p := fun b => by rw [hp]; rfl
  have hw' : p'.went = true := by rw [hp]
  have hc : p'.conf = p.conf := by rw [hp]
  rw [one_set (C := fun u => u.conf = p'.conf ∧ Ow p' u) h, two_set (C := fun i j a b => (a.conf = b.conf ∧ b.went = true) ∧ Ow b a) h, two_old (C := fun i j a b => (a.conf = b.conf ∧ b.went = true) ∧ Ow b a) h]
  simp only [e2, hw, hw', hc, Bool.false_eq_true, and_false, false_and, exists_false, or_false, false_or, and_true, true_and]
  constructor
  · rintro (h | h | h | h)
    · exact .inl (.inl h)
    · exact .inl (.inr h)
    · exact .inr (.inr h)
    · exact .inr (.inl h)
  · rintro ((h | h) | h | h)
    · exact .inl h
    · exact .inr (.inl h)
    · exact .inr (.inr (.inr h))
    · exact .inr (.inr (.inl h))
theorem s_app (h0 : p.p0 = []) (h1 : p.p1 = []) (hw : p.went = false) : (S3 (S ++ [p]) ↔ S3 S) ∧ (S4 (S ++ [p]) ↔ S4 S) ∧ (S5 (S ++ [p]) ↔ S5 S) ∧ (S6 (S ++ [p]) ↔ S6 S) := by
  have ha : p.p0 ++ p.p1 = [] := by rw [h0, h1]; rfl
  refine ⟨?_, ?_, ?_, ?_⟩
  · unfold S3
    rw [one_app (C := fun s => Ord3 (s.p0 ++ s.p1)), ha]
    refine ⟨fun h => h.resolve_left ?_, .inr⟩
    rintro ⟨i, y, z, h, _⟩
    cases h
  · unfold S4
    rw [one_app (C := fun s => Dep4 (s.p0 ++ s.p1)), ha]
    refine ⟨fun h => h.resolve_left ?_, .inr⟩
    rintro ⟨i, z, h, _⟩
    cases h
  · exact two_app (C := fun i j a b => i ≠ j ∧ P5 a b) (fun i j a h => by have := h.2.2.2.2.1; rw [hw] at this; cases this) (fun i j a h => by have := h.2.2.2.1; rw [hw] at this; cases this)
  · refine two_app (C := fun i j a b => (a.conf = b.conf ∧ b.went = true) ∧ Ow b a) (fun i j a h => by have := h.1.2; rw [hw] at this; cases this) (fun i j b h => ?_)
    rcases h.2 with h | ⟨t, _, h⟩
    · rw [h0] at h
      obtain ⟨x, h, _⟩ := h
      cases h
    · rw [h1] at h
      obtain ⟨x, h, _⟩ := h
      cases h
end
end Go.Proofs.Ytogagkgkmoppmaa
namespace Go.Proofs.Ytogagkgkmoppmaa
set_option linter.unusedVariables false
set_option linter.unusedSimpArgs false
open Go.RowKit GM
/-- one stay of both -/
structure RS (l : List Ev) (s : JS) (p : PS) : Prop where
  proc : p.proc = s.proc
  cf : p.conf = s.cf
  mem : p.mem = s.mem
  g0 : p.p0 = (partJ l s false).map bare
  g1 : p.p1 = (partJ l s true).map bare
  all : p.p0 ++ p.p1 = s.gots.map fun g => bare (gotM l g)
  tr : p.tr = s.tr.map fun e => (evN l e, evM l e)
  went : p.went = s.nx.isSome
  cnt : ∀ i, p.cnt i = (cntF (p.p0 ++ p.p1) i : Int)
  tn : p.tr = none → p.p1 = []
structure Rel (l : List Ev) (t : J) (S : List PS) (live : Int → Bool) (now : Int → Option Nat) : Prop where
  len : t.stays.length = S.length
  st : ∀ (k : Nat) (s : JS) (p : PS), t.stays[k]? = some s → S[k]? = some p → RS l s p
  lv : ∀ i, live i = (get t.live i).getD false
  nw : ∀ i, now i = get t.now i
  nowk : ∀ (i : Int) (k : Nat), now i = some k → ∃ p : PS, S[k]? = some p ∧ p.went = false ∧ p.proc = i
theorem Rel.same {l : List Ev} {t t' : J} {S : List PS} {live : Int → Bool} {now : Int → Option Nat} (h : Rel l t S live now) (h1 : t'.stays = t.stays) (h2 : t'.live = t.live) (h3 : t'.now = t.now) : Rel l t' S live now :=
  ⟨by rw [h1]; exact h.len, by rw [h1]; exact h.st, by rw [h2]; exact h.lv, by rw [h3]; exact h.nw, h.nowk⟩
theorem Rel.br {l : List Ev} {t : J} {S : List PS} {live : Int → Bool} {now : Int → Option Nat} (h : Rel l t S live now) (r : Int) (b : Bool) : Rel l (t.br r b) S live now :=
  h.same (t.br_stays r b).1 (t.br_stays r b).2.1 (t.br_stays r b).2.2.1
theorem Rel.get {l : List Ev} {t : J} {S : List PS} {live : Int → Bool} {now : Int → Option Nat} (h : Rel l t S live now) {k : Nat} {p : PS} (hk : S[k]? = some p) : ∃ s, t.stays[k]? = some s ∧ RS l s p := by
  have hl : k < t.stays.length := by rw [h.len]; exact (List.getElem?_eq_some_iff.1 hk).1
  exact ⟨t.stays[k], List.getElem?_eq_getElem hl, h.st k _ _ (List.getElem?_eq_getElem hl) hk⟩
/-- one stay changes -/
theorem Rel.set {l : List Ev} {t : J} {S : List PS} {live : Int → Bool} {now : Int → Option Nat} (h : Rel l t S live now) {k : Nat} {p p' : PS} {s' : JS} (hp : S[k]? = some p) (hr : RS l s' p') (hw : p'.went = p.went) (hpr : p'.proc = p.proc) : Rel l (t.setS k s') (S.set k p') live now := by
  refine ⟨by simpa [J.setS] using h.len, fun j s q hs hq => ?_, h.lv, h.nw, fun i j hj => ?_⟩
  · by_cases e : j = k
    · subst e
      have hl := (List.getElem?_eq_some_iff.1 hp).1
      have hl2 : j < t.stays.length := by rw [h.len]; exact hl
      have e1 : (t.setS j s').stays[j]? = some s' := by simp [J.setS, hl2]
      rw [e1] at hs
      rw [set_k hp] at hq
      injection hs with hs
      injection hq with hq
      subst hs
      subst hq
      exact hr
    · rw [set_ne e] at hq
      rw [show (t.setS k s').stays[j]? = t.stays[j]? from List.getElem?_set_ne (Ne.symm e)] at hs
      exact h.st j s q hs hq
  · obtain ⟨q, h1, h2, h3⟩ := h.nowk i j hj
    by_cases e : j = k
    · subst e
      rw [hp] at h1
      injection h1 with h1
      subst h1
      exact ⟨p', set_k hp, hw.trans h2, hpr.trans h3⟩
    · exact ⟨q, (set_ne e).trans h1, h2, h3⟩
def Snd (l : List Ev) (n : Nat) (f : PlaceK → List Msg) : Prop := ∀ k, f k = (sentL l n k).map fun j => bare (evMsg l j)
def Sen (l : List Ev) (n : Nat) (f : HadK → Bool) : Prop := ∀ h, f h = (List.range n).any (hadAt l h)
def Mems (f : ConfK → Option Nat) (S : List PS) : Prop := (∀ (k : Nat) (o : PS), S[k]? = some o → f o.conf = some o.mem) ∧ ∀ c m, f c = some m → ∃ (k : Nat) (o : PS), S[k]? = some o ∧ o.conf = c ∧ o.mem = m
/-- all that is broken of the first n events -/
def FS (l : List Ev) (n : Nat) (t : J) (S : List PS) (q : Int) : Prop :=
  badB t q ∨ (q = 2 ∧ ∃ i, i < n ∧ Beh l i) ∨ (q = 3 ∧ ((∃ i, i < n ∧ Twi l i) ∨ S3 S)) ∨ (q = 4 ∧ S4 S) ∨ (q = 5 ∧ S5 S) ∨ (q = 6 ∧ S6 S)
def Bro (l : List Ev) (n : Nat) (t : J) (S : List PS) (mems : ConfK → Option Nat) (B : Int) : Prop := (badB t 1 ∧ B = 1) ∨ (¬ badB t 1 ∧ Mems mems S ∧ Led B (FS l n t S))
def InvT (l : List Ev) (n : Nat) (t : J) (P : PM) : Prop := Rel l t P.stays P.live P.now ∧ Snd l n P.sends ∧ Sen l n P.seen ∧ (∀ q, badB t q → q = 1 ∨ q = 2) ∧ Bro l n t P.stays P.mems P.broken
section
variable {l : List Ev} {n : Nat} {t t' : J} {S S' : List PS} {mems mems' : ConfK → Option Nat} {B B' : Int} {x : Ev}
theorem bro_next {N1 : Prop} (h : Bro l n t S mems B) (hb : badB t' 1 ↔ badB t 1 ∨ N1) (hle : Le B B') (hnew : ¬ badB t 1 → Mems mems S → Led B (FS l n t S) → ∃ S2, Led B' S2 ∧ (N1 → S2 1) ∧ (¬ N1 → Mems mems' S' ∧ ∀ q, S2 q ↔ FS l (n + 1) t' S' q)) : Bro l (n + 1) t' S' mems' B' := by
  rcases h with ⟨h1, h2⟩ | ⟨h1, h2, h3⟩
  · refine .inl ⟨hb.2 (.inl h1), ?_⟩
    unfold Le at hle
    omega
  · obtain ⟨S2, k1, k2, k3⟩ := hnew h1 h2 h3
    by_cases hN : N1
    · exact .inl ⟨hb.2 (.inr hN), k1.one (k2 hN)⟩
    · obtain ⟨m, e⟩ := k3 hN
      exact .inr ⟨fun hh => (hb.1 hh).elim h1 hN, m, k1.congr e⟩
theorem fs_next {N1 N2 A3 A4 A5 A6 : Prop} (hb : ∀ q, badB t' q ↔ badB t q ∨ (q = 1 ∧ N1) ∨ (q = 2 ∧ N2)) (e3 : S3 S' ↔ S3 S ∨ A3) (e4 : S4 S' ↔ S4 S ∨ A4) (e5 : S5 S' ↔ S5 S ∨ A5) (e6 : S6 S' ↔ S6 S ∨ A6) (q : Int) :
    FS l (n + 1) t' S' q ↔ FS l n t S q ∨ (q = 1 ∧ N1) ∨ (q = 2 ∧ (N2 ∨ Beh l n)) ∨ (q = 3 ∧ (Twi l n ∨ A3)) ∨ (q = 4 ∧ A4) ∨ (q = 5 ∧ A5) ∨ (q = 6 ∧ A6) := by
  unfold FS
  rw [ex_succ, ex_succ, hb q, e3, e4, e5, e6]
  generalize badB t q = X
  generalize (∃ i, i < n ∧ Beh l i) = X1
  generalize (∃ i, i < n ∧ Twi l i) = X2
  generalize Beh l n = Y1
  generalize Twi l n = Y2
  clear hb e3 e4 e5 e6
  simp only [and_or_left]
  grind (splits := 60)
theorem not2 (hx : l[n]? = some x) (hk : x.kind ≠ 2) : ¬ Beh l n ∧ ¬ Twi l n := by
  constructor
  · rintro ⟨y, h, hy, _⟩
    rw [hx] at h
    injection h with h
    subst h
    exact hk hy
  · rintro ⟨y, h, hy, _⟩
    rw [hx] at h
    injection h with h
    subst h
    exact hk hy
theorem snd_keep {f : PlaceK → List Msg} (h : Snd l n f) (hx : l[n]? = some x) (hk : isSend x = false) : Snd l (n + 1) f := fun k => by
  rw [h k, sentL_succ]
  have : sentAt l k n = false := by
    unfold sentAt
    rw [hx]
    simp only [hk, Bool.false_and]
  rw [this]
  simp
theorem sen_keep {f : HadK → Bool} (h : Sen l n f) (hx : l[n]? = some x) (hk : x.kind ≠ 2) : Sen l (n + 1) f := fun k => by
  rw [h k, List.range_succ, List.any_append]
  have : hadAt l k n = false := by
    unfold hadAt
    rw [hx]
    simp [hk]
  simp [this]
theorem isSend_no (hk : x.kind ≠ 1) : isSend x = false := by
  unfold isSend
  simp [hk]
theorem bad12 {N1 N2 : Prop} (h : ∀ q, badB t q → q = 1 ∨ q = 2) (hb : ∀ q, badB t' q ↔ badB t q ∨ (q = 1 ∧ N1) ∨ (q = 2 ∧ N2)) : ∀ q, badB t' q → q = 1 ∨ q = 2 := fun q hq => by
  rcases (hb q).1 hq with h1 | ⟨h1, _⟩ | ⟨h1, _⟩
  · exact h q h1
  · exact .inl h1
  · exact .inr h1
/-- only rule 1, and no stay, is concerned -/
theorem bro_br (h : Bro l n t S mems B) (hx : l[n]? = some x) (hk : x.kind ≠ 2) (b : Bool) : Bro l (n + 1) (t.br 1 b) S mems (brk 1 B b) := by
  have hb := badB_br t 1 b
  refine bro_next (N1 := b = true) h ((hb 1).trans (by simp)) (brk_le 1 _ _ (by decide)) (fun h1 h2 h3 => ⟨_, h3.brk (by decide) b, fun hN => .inr ⟨rfl, hN⟩, fun hN => ⟨h2, fun q => ?_⟩⟩)
  rw [fs_next (t := t) (t' := t.br 1 b) (S := S) (N1 := b = true) (N2 := False) (A3 := False) (A4 := False) (A5 := False) (A6 := False) (fun q => by rw [hb q]; simp) (by simp) (by simp) (by simp) (by simp) q]
  have := not2 hx hk
  unfold Or1
  grind
end
/-- the stay that an event stands in, of both -/
theorem stay_cases {l : List Ev} {t : J} {P : PM} (h : Rel l t P.stays P.live P.now) (i : Nat) (x : Ev) :
    (pstay P x = none ∧ t.inner l i x ((get t.live x.proc).getD false) (get t.now x.proc) = t.br 1 true) ∨
    ∃ (k : Nat) (s : JS) (p : PS), pstay P x = some k ∧ t.stays[k]? = some s ∧ P.stays[k]? = some p ∧ RS l s p ∧ p.went = false ∧ t.inner l i x ((get t.live x.proc).getD false) (get t.now x.proc) = t.innerAt l i x k s := by
  have hn := h.nw x.proc
  have hlv := h.lv x.proc
  unfold pstay J.inner
  rw [← hn, ← hlv]
  cases hk : P.now x.proc with
  | none => exact .inl ⟨rfl, rfl⟩
  | some k =>
    obtain ⟨p, hp, hw, _⟩ := h.nowk _ _ hk
    obtain ⟨s, hs, hr⟩ := h.get hp
    simp only [hp, hs]
    have hcf : (P.live x.proc = true ∧ p.conf = conf x) ↔ (P.live x.proc = true ∧ s.cf = conf x) := by rw [hr.cf]
    by_cases hc : P.live x.proc = true ∧ p.conf = conf x
    · rw [if_pos hc, if_pos (hcf.1 hc)]
      exact .inr ⟨k, s, p, rfl, hs, hp, hr, hw, rfl⟩
    · rw [if_neg hc, if_neg (fun e => hc (hcf.2 e))]
      exact .inl ⟨rfl, rfl⟩
theorem RS.trSome {l : List Ev} {s : JS} {p : PS} (h : RS l s p) : p.tr.isSome = s.tr.isSome := by rw [h.tr]; cases s.tr <;> rfl
section
variable {l : List Ev} {n : Nat} {t : J} {P : PM} {x : Ev}
theorem inv_start (h : InvT l n t P) (hx : l[n]? = some x) (hk : x.kind = 5 ∨ x.kind = 6) : InvT l (n + 1) { t with live := put t.live x.proc (decide (x.kind = 5)), now := del t.now x.proc } (pstart P x) := by
  obtain ⟨h1, h2, h3, h4, h5⟩ := h
  have hk1 : x.kind ≠ 1 := by omega
  have hk2 : x.kind ≠ 2 := by omega
  refine ⟨⟨h1.len, h1.st, fun i => ?_, fun i => ?_, fun i k hi => ?_⟩, snd_keep h2 hx (isSend_no hk1), sen_keep h3 hx hk2, h4, ?_⟩
  · show (if i = x.proc then decide (x.kind = 5) else P.live i) = (get (put t.live x.proc _) i).getD false
    rw [get_put]
    split
    · rfl
    · exact h1.lv i
  · show (if i = x.proc then none else P.now i) = get (del t.now x.proc) i
    rw [get_del]
    split
    · rfl
    · exact h1.nw i
  · have hi : (if i = x.proc then none else P.now i) = some k := hi
    split at hi
    · cases hi
    · exact h1.nowk i k hi
  · have h := bro_br h5 hx hk2 false
    have e1 : t.br 1 false = t := by unfold J.br; simp
    have e2 : brk 1 P.broken false = P.broken := by unfold brk; simp
    rw [e1, e2] at h
    exact h
theorem inv_send (h : InvT l n t P) (hx : l[n]? = some x) (hk : x.kind = 1) : InvT l (n + 1) (t.inner l n x ((get t.live x.proc).getD false) (get t.now x.proc)) (psend P x) := by
  obtain ⟨h1, h2, h3, h4, h5⟩ := h
  have hk2 : x.kind ≠ 2 := by omega
  have e0 : pstay (psnd P x) x = pstay P x := by unfold psnd; split <;> rfl
  have es : (psnd P x).stays = P.stays := by unfold psnd; split <;> rfl
  obtain ⟨b, hb1, hb2⟩ : ∃ b, t.inner l n x ((get t.live x.proc).getD false) (get t.now x.proc) = t.br 1 b ∧ psend P x = (psnd P x).br 1 b := by
    unfold psend
    rw [e0]
    rcases stay_cases h1 n x with ⟨k1, k2⟩ | ⟨k, s, p, k1, k2, k3, k4, k5, k6⟩
    · refine ⟨true, k2, ?_⟩
      rw [k1]
    · refine ⟨s.tr.isSome, ?_, ?_⟩
      · rw [k6]
        unfold J.innerAt
        rw [if_pos hk]
      · rw [k1]
        simp only
        rw [es, k3]
        simp only
        rw [k4.trSome]
  rw [hb1, hb2]
  have hsd : Snd l (n + 1) (psnd P x).sends := fun k => by
    rw [sentL_succ]
    have hs : sentAt l k n = (decide (x.proc = x.m.frm) && decide (place x = k)) := by
      unfold sentAt isSend
      rw [hx]
      simp [hk]
    rw [hs]
    unfold psnd
    by_cases hp : x.proc = x.m.frm
    · rw [if_pos hp]
      show (if k = place x then P.sends (place x) ++ [bare x.m] else P.sends k) = _
      by_cases e : k = place x
      · rw [if_pos e, e, h2]
        simp [hp, evMsg_at hx]
      · rw [if_neg e, h2]
        have : ¬ place x = k := fun h => e h.symm
        simp [this]
    · rw [if_neg hp, h2]
      simp [hp]
  have e3 : (psnd P x).seen = P.seen ∧ (psnd P x).mems = P.mems ∧ (psnd P x).live = P.live ∧ (psnd P x).now = P.now ∧ (psnd P x).broken = P.broken := by
    unfold psnd
    split <;> exact ⟨rfl, rfl, rfl, rfl, rfl⟩
  refine ⟨?_, hsd, ?_, ?_, ?_⟩
  · show Rel l (t.br 1 b) (psnd P x).stays (psnd P x).live (psnd P x).now
    rw [es, e3.2.2.1, e3.2.2.2.1]
    exact h1.br 1 b
  · show Sen l (n + 1) (psnd P x).seen
    rw [e3.1]
    exact sen_keep h3 hx hk2
  · exact bad12 (N1 := b = true) (N2 := False) h4 (fun q => by rw [badB_br]; simp)
  · show Bro l (n + 1) (t.br 1 b) (psnd P x).stays (psnd P x).mems (brk 1 (psnd P x).broken b)
    rw [es, e3.2.1, e3.2.2.2.2]
    exact bro_br h5 hx hk2 b
theorem inv_trans (h : InvT l n t P) (hx : l[n]? = some x) (hk : x.kind = 4) : InvT l (n + 1) (t.inner l n x ((get t.live x.proc).getD false) (get t.now x.proc)) (ptrans P x) := by
  obtain ⟨h1, h2, h3, h4, h5⟩ := h
  have hk2 : x.kind ≠ 2 := by omega
  have hk1 : x.kind ≠ 1 := by omega
  have hs1 := snd_keep h2 hx (isSend_no hk1)
  have hs2 := sen_keep h3 hx hk2
  unfold ptrans
  rcases stay_cases h1 n x with ⟨k1, k2⟩ | ⟨k, s, p, k1, k2, k3, k4, k5, k6⟩
  · rw [k1, k2]
    exact ⟨h1.br 1 true, hs1, hs2, bad12 (N1 := true = true) (N2 := False) h4 (fun q => by rw [badB_br]; simp), bro_br h5 hx hk2 true⟩
  · rw [k1, k6]
    simp only [k3]
    have ej : t.innerAt l n x k s = (t.br 1 s.tr.isSome).setS k { s with tr := some n } := by
      unfold J.innerAt
      rw [if_neg hk1, if_pos hk]
    rw [ej]
    have hr : RS l { s with tr := some n } { p with tr := some (next x, x.mem) } := by
      refine ⟨k4.proc, k4.cf, k4.mem, k4.g0, k4.g1, k4.all, ?_, k4.went, k4.cnt, fun e => by cases e⟩
      show some (next x, x.mem) = some (evN l n, evM l n)
      unfold evN evM
      rw [hx]
    have hb : ∀ q, badB ((t.br 1 s.tr.isSome).setS k { s with tr := some n }) q ↔ badB t q ∨ (q = 1 ∧ s.tr.isSome = true) ∨ (q = 2 ∧ False) := fun q => by
      show badB (t.br 1 s.tr.isSome) q ↔ _
      rw [badB_br]
      simp
    refine ⟨(h1.br 1 _).set k3 hr rfl rfl, hs1, hs2, bad12 h4 hb, ?_⟩
    refine bro_next (B' := brk 1 P.broken p.tr.isSome) (N1 := s.tr.isSome = true) h5 ((hb 1).trans (by simp)) (brk_le 1 _ _ (by decide)) (fun j1 j2 j3 => ⟨_, j3.brk (by decide) p.tr.isSome, fun hN => .inr ⟨rfl, by rw [k4.trSome]; exact hN⟩, fun hN => ⟨⟨fun j o hj => ?_, fun c m hc => ?_⟩, fun q => ?_⟩⟩)
    · by_cases e : j = k
      · subst e
        rw [set_k k3] at hj
        injection hj with hj
        subst hj
        exact j2.1 j p k3
      · rw [set_ne e] at hj
        exact j2.1 j o hj
    · obtain ⟨j, o, hj, hc1, hc2⟩ := j2.2 c m hc
      by_cases e : j = k
      · subst e
        rw [k3] at hj
        injection hj with hj
        subst hj
        exact ⟨j, _, set_k k3, hc1, hc2⟩
      · exact ⟨j, o, (set_ne e).trans hj, hc1, hc2⟩
    · have htn : p.tr = none := by
        rw [← k4.trSome] at hN
        cases hpt : p.tr with
        | none => rfl
        | some u => rw [hpt] at hN; exact absurd rfl hN
      have hp1 := k4.tn htn
      have hO : ∀ b, Ow b { p with tr := some (next x, x.mem) } ↔ Ow b p ∨ False := fun b => by
        unfold Ow
        simp only [hp1, htn, or_false]
        refine or_congr Iff.rfl ?_
        constructor
        · rintro ⟨u, _, y, hy, _⟩
          cases hy
        · rintro ⟨u, hu, _⟩
          cases hu
      have e6 := s6_set (p' := { p with tr := some (next x, x.mem) }) k3 k5 k5 rfl hO
      rw [fs_next hb (S := P.stays) (A3 := False) (A4 := False) (A5 := False) (A6 := False) (s3_set k3 (by simp)) (s4_set k3 (by simp)) (by rw [s5_same (p' := { p with tr := some (next x, x.mem) }) k3 k5 k5]; simp) (by rw [e6]; simp) q]
      have hb := not2 hx hk2
      rw [k4.trSome]
      unfold Or1
      grind
end
end Go.Proofs.Ytogagkgkmoppmaa
namespace Go.Proofs.Ytogagkgkmoppmaa
set_option linter.unusedVariables false
set_option linter.unusedSimpArgs false
open Go.RowKit GM
theorem partJ_snoc (l : List Ev) (s : JS) (g : Nat × Bool) (b : Bool) : partJ l { s with gots := s.gots ++ [g] } b = partJ l s b ++ (if (g.2 == b) = true then [gotM l g] else []) := by
  unfold partJ
  rw [List.filter_append, List.map_append, List.filter_cons, List.filter_nil]
  split <;> rfl
theorem gotP_all {p : PS} (m : Msg) (htn : p.tr = none → p.p1 = []) : (gotP p m).p0 ++ (gotP p m).p1 = (p.p0 ++ p.p1) ++ [bare m] := by
  unfold gotP
  cases htr : p.tr with
  | none =>
    simp [htn htr]
  | some u => simp
theorem gotP_keep (p : PS) (m : Msg) : (gotP p m).proc = p.proc ∧ (gotP p m).conf = p.conf ∧ (gotP p m).mem = p.mem ∧ (gotP p m).tr = p.tr ∧ (gotP p m).went = p.went := by
  unfold gotP
  split <;> exact ⟨rfl, rfl, rfl, rfl, rfl⟩
theorem RS.got {l : List Ev} {s : JS} {p : PS} (h : RS l s p) {n : Nat} {x : Ev} (hx : l[n]? = some x) : RS l { s with gots := s.gots ++ [(n, s.tr.isSome)] } (gotP p x.m) := by
  have hg : gotM l (n, s.tr.isSome) = x.m := evMsg_at hx
  have ha := gotP_all x.m h.tn
  obtain ⟨k1, k2, k3, k4, k5⟩ := gotP_keep p x.m
  refine ⟨k1.trans h.proc, k2.trans h.cf, k3.trans h.mem, ?_, ?_, ?_, k4.trans h.tr, k5.trans h.went, fun i => ?_, fun e => ?_⟩
  · rw [partJ_snoc, hg, List.map_append, ← h.g0]
    have := h.trSome
    unfold gotP
    cases hs : s.tr.isSome <;> rw [hs] at this <;> rw [this] <;> simp
  · rw [partJ_snoc, hg, List.map_append, ← h.g1]
    have := h.trSome
    unfold gotP
    cases hs : s.tr.isSome <;> rw [hs] at this <;> rw [this] <;> simp
  · rw [ha, h.all]
    simp [hg]
  · rw [ha, cntF_snoc]
    have hc : (gotP p x.m).cnt i = if i = x.m.frm then p.cnt x.m.frm + 1 else p.cnt i := by
      unfold gotP
      split <;> rfl
    rw [hc]
    show (if i = x.m.frm then p.cnt x.m.frm + 1 else p.cnt i) = ((cntF (p.p0 ++ p.p1) i + if x.m.frm = i then 1 else 0 : Nat) : Int)
    by_cases e : i = x.m.frm
    · subst e
      rw [if_pos rfl, if_pos rfl, h.cnt]
      rfl
    · rw [if_neg e, if_neg (fun h => e h.symm), h.cnt]
      rfl
  · rw [k4] at e
    have h1 := h.tn e
    unfold gotP
    rw [e]
    exact h1
section
variable {l : List Ev} {n : Nat} {t : J} {P : PM} {x : Ev}
theorem beh_iff {f : PlaceK → List Msg} (h : Snd l n f) (hx : l[n]? = some x) (hk : x.kind = 2) : Beh l n ↔ ((cntM (bare x.m) (f (place x)) : Int) != 1) = true := by
  have e : cntM (bare x.m) (f (place x)) = cntJ l n x := by
    unfold cntM cntJ
    rw [h, List.filter_map, List.length_map]
    congr 2
    funext j
    show sameM (bare x.m) (bare (evMsg l j)) = sameM (evMsg l j) x.m
    rw [sameM_bare, sameM_symm]
  rw [e]
  unfold Beh
  constructor
  · rintro ⟨y, h, _, h2⟩
    rw [hx] at h
    injection h with h
    subst h
    rw [bne_iff_ne]
    omega
  · intro h
    rw [bne_iff_ne] at h
    exact ⟨x, hx, hk, by omega⟩
theorem twi_iff {f : HadK → Bool} (h : Sen l n f) (hx : l[n]? = some x) (hk : x.kind = 2) : Twi l n ↔ f (hadK x) = true := by
  rw [h]
  unfold Twi
  constructor
  · rintro ⟨y, h, _, h2⟩
    rw [hx] at h
    injection h with h
    subst h
    exact h2
  · intro h
    exact ⟨x, hx, hk, h⟩
theorem sen_saw {f : HadK → Bool} (h : Sen l n f) (hx : l[n]? = some x) (hk : x.kind = 2) : Sen l (n + 1) (fun h => if h = hadK x then true else f h) := fun k => by
  rw [List.range_succ, List.any_append, ← h k]
  have e : hadAt l k n = decide (hadJ x = k) := by
    unfold hadAt
    rw [hx]
    simp [hk]
  simp only [List.any_cons, List.any_nil, Bool.or_false, e]
  by_cases e2 : k = hadK x
  · have : hadJ x = k := e2.symm
    simp [e2, this]
  · have : ¬ hadJ x = k := fun h => e2 h.symm
    simp [e2, this]
theorem pnext_newOf {s : JS} {p : PS} (h : RS l s p) : pnext p = newOf l s := by
  unfold pnext newOf
  rw [h.tr]
  cases s.tr <;> rfl
theorem inv_deliver (h : InvT l n t P) (hx : l[n]? = some x) (hk : x.kind = 2) : InvT l (n + 1) (t.inner l n x ((get t.live x.proc).getD false) (get t.now x.proc)) (pdeliver P x) := by
  have hle := (step_pdeliver P x).broken
  obtain ⟨h1, h2, h3, h4, h5⟩ := h
  have hk1 : x.kind ≠ 1 := by omega
  have hs1 := snd_keep h2 hx (isSend_no hk1)
  have hs2 := sen_saw h3 hx hk
  have hbeh := beh_iff h2 hx hk
  have htwi := twi_iff h3 hx hk
  have e0 : pstay (dlv0 P x) x = pstay P x := rfl
  unfold pdeliver at hle ⊢
  rw [e0] at hle ⊢
  have hL0 : ∀ {S2 : Int → Prop}, Led P.broken S2 → Led (dlv0 P x).broken (Or1 (Or1 S2 2 (Beh l n)) 3 (Twi l n)) := fun h => ((h.brk (by decide) _).brk (by decide) _).congr fun q => by
    unfold Or1
    rw [hbeh, htwi]
  rcases stay_cases h1 n x with ⟨k1, k2⟩ | ⟨k, s, p, k1, k2, k3, k4, k5, k6⟩
  · rw [k1] at hle ⊢
    rw [k2]
    refine ⟨h1.br 1 true, hs1, hs2, bad12 (N1 := true = true) (N2 := False) h4 (fun q => by rw [badB_br]; simp), ?_⟩
    refine bro_next (N1 := True) h5 ((badB_br t 1 true 1).trans (by simp)) hle (fun j1 j2 j3 => ⟨_, (hL0 j3).brk (by decide) true, fun _ => .inr ⟨rfl, rfl⟩, fun hN => absurd trivial hN⟩)
  · rw [k1] at hle ⊢
    rw [k6]
    have k3' : (dlv0 P x).stays[k]? = some p := k3
    simp only [k3'] at hle ⊢
    have ej : t.innerAt l n x k s = (t.br 2 (!decide (next x = newOf l s))).setS k { s with gots := s.gots ++ [(n, s.tr.isSome)] } := by
      unfold J.innerAt
      rw [if_neg hk1, if_neg (by omega), if_pos hk]
    rw [ej]
    obtain ⟨q1, q2, q3, q4, q5⟩ := gotP_keep p x.m
    have hb : ∀ q, badB ((t.br 2 (!decide (next x = newOf l s))).setS k { s with gots := s.gots ++ [(n, s.tr.isSome)] }) q ↔ badB t q ∨ (q = 1 ∧ False) ∨ (q = 2 ∧ ¬ next x = newOf l s) := fun q => by
      show badB (t.br 2 _) q ↔ _
      rw [badB_br]
      simp
    have hrel := (h1.br 2 (!decide (next x = newOf l s))).set k3 (k4.got hx) q5 q1
    refine ⟨hrel, hs1, hs2, bad12 h4 hb, ?_⟩
    refine bro_next (N1 := False) h5 ((hb 1).trans (by simp)) hle (fun j1 j2 j3 => ?_)
    have hnx : (!((x.ne : Int) == (pnext p).1 && x.nr == (pnext p).2)) = true ↔ ¬ next x = newOf l s := by
      rw [pnext_newOf k4]
      simp [next, Prod.ext_iff]
      by_cases e : (x.ne : Int) = (newOf l s).1 <;> simp [e]
    have L1 := (hL0 j3).brk (r := 2) (by decide) (!((x.ne : Int) == (pnext p).1 && x.nr == (pnext p).2))
    have L2 := led_last L1 (p.p0 ++ p.p1) x
    have L3 := led_dep L2 p.cnt x.m.ds x.m.ds.length
    have L4 := led_past L3 p.conf (bare x.m) (pmem p) (P.stays.set k (gotP p x.m))
    refine ⟨_, L4, False.elim, fun _ => ⟨⟨fun j o hj => ?_, fun c m hc => ?_⟩, fun q => ?_⟩⟩
    · by_cases e : j = k
      · subst e
        rw [show (dlv0 P x).stays = P.stays from rfl, set_k k3] at hj
        injection hj with hj
        subst hj
        rw [q2, q3]
        exact j2.1 j p k3
      · rw [show (dlv0 P x).stays = P.stays from rfl, set_ne e] at hj
        exact j2.1 j o hj
    · obtain ⟨j, o, hj, hc1, hc2⟩ := j2.2 c m hc
      by_cases e : j = k
      · subst e
        rw [k3] at hj
        injection hj with hj
        subst hj
        exact ⟨j, _, set_k k3, q2.trans hc1, q3.trans hc2⟩
      · exact ⟨j, o, (set_ne e).trans hj, hc1, hc2⟩
    · have ha := gotP_all x.m k4.tn
      have hO : ∀ b, Ow b (gotP p x.m) ↔ Ow b p ∨ OwL b.proc (b.p0 ++ b.p1) (pmem p) [bare x.m] := fun b => by
        unfold Ow gotP pmem
        have hsn : ∀ (mem : Nat) (L : List Msg), OwL b.proc (b.p0 ++ b.p1) mem (L ++ [bare x.m]) ↔ OwL b.proc (b.p0 ++ b.p1) mem L ∨ OwL b.proc (b.p0 ++ b.p1) mem [bare x.m] := fun mem L => by
          unfold OwL
          simp only [List.mem_append]
          constructor
          · rintro ⟨y, h | h, h2⟩
            · exact .inl ⟨y, h, h2⟩
            · exact .inr ⟨y, h, h2⟩
          · rintro (⟨y, h, h2⟩ | ⟨y, h, h2⟩)
            · exact ⟨y, .inl h, h2⟩
            · exact ⟨y, .inr h, h2⟩
        cases htr : p.tr with
        | none =>
          simp only [Option.isSome_none, Bool.false_eq_true, if_false, htr, hsn]
          simp
        | some u =>
          simp only [Option.isSome_some, if_true, htr, hsn, Option.some.injEq, exists_eq_left', or_assoc]
      have e6 := s6_set (p' := gotP p x.m) k3 k5 (q5.trans k5) q2 hO
      have e3 : S3 (P.stays.set k (gotP p x.m)) ↔ S3 P.stays ∨ ∃ y, (p.p0 ++ p.p1).getLast? = some y ∧ lessM y (bare x.m) := s3_set k3 (by rw [ha]; exact ord3_snoc _ _)
      have e4 : S4 (P.stays.set k (gotP p x.m)) ↔ S4 P.stays ∨ DepM (p.p0 ++ p.p1) (bare x.m) := s4_set k3 (by rw [ha]; exact dep4_snoc _ _)
      have e5 : S5 (P.stays.set k (gotP p x.m)) ↔ S5 P.stays ∨ False := by rw [s5_same k3 k5 (q5.trans k5)]; simp
      have ed : (∃ q, q < x.m.ds.length ∧ p.cnt (q : Int) < ((x.m.ds.getD q 0 : Nat) : Int)) ↔ DepM (p.p0 ++ p.p1) (bare x.m) := by
        unfold DepM
        simp only [k4.cnt]
        exact Iff.rfl
      have el : (∃ y, (p.p0 ++ p.p1).getLast? = some y ∧ 0 ≤ keyZ (y.stamp : Int) y.frm (x.m.stamp : Int) x.m.frm) ↔ ∃ y, (p.p0 ++ p.p1).getLast? = some y ∧ lessM y (bare x.m) := Iff.rfl
      show _ ↔ FS l (n + 1) _ (P.stays.set k (gotP p x.m)) q
      rw [fs_next hb (S := P.stays) e3 e4 e5 e6 q, el, ed, hnx] at *
      unfold Or1
      generalize FS l n t P.stays q = X0
      generalize Beh l n = X1
      generalize Twi l n = X2
      generalize DepM (p.p0 ++ p.p1) (bare x.m) = X3
      generalize (∃ y, (p.p0 ++ p.p1).getLast? = some y ∧ lessM y (bare x.m)) = X4
      generalize (∃ b ∈ P.stays.set k (gotP p x.m), (b.conf = p.conf ∧ b.went = true) ∧ OwL b.proc (b.p0 ++ b.p1) (pmem p) [bare x.m]) = X5
      generalize (next x = newOf l s) = X6
      clear hbeh htwi h1 h2 h3 h4 h5 hs1 hs2 hb hrel j1 j2 j3 L1 L2 L3 L4 hO e6 e3 e4 e5 ed el hnx hL0 hle ha k2 k3 k4 k6 k3' ej
      simp only [and_or_left]
      grind (splits := 60)
end
end Go.Proofs.Ytogagkgkmoppmaa
namespace Go.Proofs.Ytogagkgkmoppmaa
set_option linter.unusedVariables false
set_option linter.unusedSimpArgs false
open Go.RowKit GM
theorem badB_dups (x : Ev) : ∀ (L : List JS) (t : J) (q : Int), badB (J.dups x L t) q ↔ badB t q ∨ (q = 1 ∧ ∃ o ∈ L, dupJ x o = true)
  | [], t, q => by simp [J.dups]
  | o :: L, t, q => by
    have h := badB_dups x L (t.br 1 (dupJ x o)) q
    have e : J.dups x (o :: L) t = J.dups x L (t.br 1 (dupJ x o)) := rfl
    rw [e, h, badB_br]
    simp only [List.mem_cons]
    constructor
    · rintro ((h | ⟨h, k⟩) | ⟨h, u, k1, k2⟩)
      · exact .inl h
      · exact .inr ⟨h, o, .inl rfl, k⟩
      · exact .inr ⟨h, u, .inr k1, k2⟩
    · rintro (g | ⟨g, u, e | k1, k2⟩)
      · exact .inl (.inl g)
      · exact .inl (.inr ⟨g, e ▸ k2⟩)
      · exact .inr ⟨g, u, k1, k2⟩
theorem dups_now (x : Ev) : ∀ (L : List JS) (t : J), (J.dups x L t).live = t.live ∧ (J.dups x L t).now = t.now ∧ (J.dups x L t).stays = t.stays := fun L t => ⟨(dups_stays x L t).2.2, (dups_stays x L t).2.1, (dups_stays x L t).1⟩
theorem new_rs (l : List Ev) (x : Ev) (b : Option Nat) : RS l (newJ x b) (newP x) := ⟨rfl, rfl, rfl, rfl, rfl, rfl, rfl, rfl, fun _ => rfl, fun _ => rfl⟩
section
variable {l : List Ev} {n : Nat} {t : J} {P : PM} {x : Ev}
theorem rel_enter {S S1 : List PS} {live : Int → Bool} {now : Int → Option Nat} (h : Rel l t S live now) {v : J} (x : Ev) (b : Option Nat) (hl1 : v.stays.length = S.length) (hl2 : S1.length = S.length)
    (st1 : ∀ (j : Nat) (s : JS) (p : PS), v.stays[j]? = some s → S1[j]? = some p → RS l s p) (h1 : v.live = t.live) (h2 : v.now = t.now) (keep : ∀ (i : Int) (k : Nat), i ≠ x.proc → now i = some k → ∃ p : PS, S1[k]? = some p ∧ p.went = false ∧ p.proc = i) :
    Rel l (v.enter x b) (S1 ++ [newP x]) live (fun p => if p = x.proc then some S.length else now p) := by
  refine ⟨by simp [J.enter, hl1, hl2], fun j s p hs hp => ?_, fun i => ?_, fun i => ?_, fun i k hi => ?_⟩
  · have hs : (v.stays ++ [newJ x b])[j]? = some s := hs
    rcases Nat.lt_or_ge j S.length with hj | hj
    · rw [List.getElem?_append_left (by omega)] at hs hp
      exact st1 j s p hs hp
    · rw [List.getElem?_append_right (by omega)] at hs hp
      have hj2 := (List.getElem?_eq_some_iff.1 hs).1
      have e0 : j - v.stays.length = 0 := by simpa using hj2
      have e1 : j - S1.length = 0 := by omega
      rw [e0] at hs
      rw [e1] at hp
      injection hs with hs
      injection hp with hp
      subst hs
      subst hp
      exact new_rs l x b
  · show live i = (get v.live i).getD false
    rw [h1]
    exact h.lv i
  · show (if i = x.proc then some S.length else now i) = get (put v.now x.proc v.stays.length) i
    rw [get_put, h2, hl1]
    split
    · rfl
    · exact h.nw i
  · have hi : (if i = x.proc then some S.length else now i) = some k := hi
    by_cases e : i = x.proc
    · rw [if_pos e] at hi
      injection hi with hi
      subst hi
      exact ⟨newP x, by rw [← hl2]; simp, rfl, e.symm⟩
    · rw [if_neg e] at hi
      obtain ⟨p, k1, k2⟩ := keep i k e hi
      exact ⟨p, by rw [List.getElem?_append_left (List.getElem?_eq_some_iff.1 k1).1]; exact k1, k2⟩
theorem dup_iff (h : Rel l t P.stays P.live P.now) (hm : Mems P.mems P.stays) (x : Ev) : (∃ o ∈ t.stays, dupJ x o = true) ↔ ptoldB P x = true ∨ ∃ o ∈ P.stays, dupB x o = true := by
  unfold dupJ dupB ptoldB
  constructor
  · rintro ⟨s, hs, hd⟩
    obtain ⟨k, hk⟩ := List.mem_iff_getElem?.1 hs
    have hl : k < P.stays.length := by rw [← h.len]; exact (List.getElem?_eq_some_iff.1 hk).1
    have hp : P.stays[k]? = some P.stays[k] := List.getElem?_eq_getElem hl
    have hr := h.st k _ _ hk hp
    have hm1 := hm.1 k _ hp
    simp only [Bool.and_eq_true, decide_eq_true_eq, Bool.or_eq_true, Bool.not_eq_true', beq_eq_false_iff_ne] at hd
    obtain ⟨e1, e2 | e2⟩ := hd
    · left
      rw [hr.cf, e1] at hm1
      rw [hm1, hr.mem]
      simpa using e2
    · right
      refine ⟨_, List.getElem_mem hl, ?_⟩
      rw [hr.cf, hr.proc]
      simp [e1, e2]
  · rintro (hd | ⟨p, hp, hd⟩)
    · cases hmx : P.mems (conf x) with
      | none => rw [hmx] at hd; cases hd
      | some m =>
        rw [hmx] at hd
        obtain ⟨k, o, hk, e1, e2⟩ := hm.2 _ _ hmx
        obtain ⟨s, hs, hr⟩ := h.get hk
        refine ⟨s, List.mem_of_getElem? hs, ?_⟩
        rw [← hr.cf, ← hr.mem, e1, e2]
        have hd : (!(m == x.mem)) = true := hd
        simp [hd]
    · obtain ⟨k, hk⟩ := List.mem_iff_getElem?.1 hp
      obtain ⟨s, hs, hr⟩ := h.get hk
      refine ⟨s, List.mem_of_getElem? hs, ?_⟩
      rw [← hr.cf, ← hr.proc]
      simp only [Bool.and_eq_true, decide_eq_true_eq] at hd
      simp [hd.1, hd.2]
theorem mems_enter {S1 : List PS} (hm : Mems P.mems P.stays) (hl : S1.length = P.stays.length) (hs : ∀ (k : Nat) (o q : PS), P.stays[k]? = some o → S1[k]? = some q → q.conf = o.conf ∧ q.mem = o.mem) (hd : ∀ o ∈ P.stays, o.conf = conf x → o.mem = x.mem) : Mems (ptell P x).mems (S1 ++ [newP x]) := by
  have hget : ∀ (k : Nat) (q : PS), S1[k]? = some q → ∃ o, P.stays[k]? = some o ∧ q.conf = o.conf ∧ q.mem = o.mem := fun k q hk => by
    have hk2 : k < P.stays.length := by rw [← hl]; exact (List.getElem?_eq_some_iff.1 hk).1
    exact ⟨_, List.getElem?_eq_getElem hk2, hs k _ q (List.getElem?_eq_getElem hk2) hk⟩
  refine ⟨fun k q hk => ?_, fun c m hc => ?_⟩
  · show (if q.conf = conf x then some x.mem else P.mems q.conf) = some q.mem
    rcases Nat.lt_or_ge k S1.length with hj | hj
    · rw [List.getElem?_append_left hj] at hk
      obtain ⟨o, k1, k2, k3⟩ := hget k q hk
      rw [k2, k3]
      split
      · rename_i e
        rw [hd o (List.mem_of_getElem? k1) e]
      · exact hm.1 k o k1
    · rw [List.getElem?_append_right hj] at hk
      have hj2 := (List.getElem?_eq_some_iff.1 hk).1
      rw [show k - S1.length = 0 by simpa using hj2] at hk
      injection hk with hk
      subst hk
      exact if_pos rfl
  · have hc : (if c = conf x then some x.mem else P.mems c) = some m := hc
    by_cases e : c = conf x
    · rw [if_pos e] at hc
      injection hc with hc
      exact ⟨S1.length, newP x, by simp, e.symm, hc⟩
    · rw [if_neg e] at hc
      obtain ⟨k, o, k1, k2, k3⟩ := hm.2 c m hc
      have hk2 : k < S1.length := by rw [hl]; exact (List.getElem?_eq_some_iff.1 k1).1
      obtain ⟨e1, e2⟩ := hs k o S1[k] k1 (List.getElem?_eq_getElem hk2)
      exact ⟨k, S1[k], by rw [List.getElem?_append_left hk2]; exact List.getElem?_eq_getElem hk2, e1.trans k2, e2.trans k3⟩
theorem inv_regular (h : InvT l n t P) (hx : l[n]? = some x) (hk : x.kind = 3) : InvT l (n + 1) (t.regular l n x ((get t.live x.proc).getD false) (get t.now x.proc)) (pregular P x) := by
  have hle := (step_pregular P x).broken
  obtain ⟨h1, h2, h3, h4, h5⟩ := h
  have hk1 : x.kind ≠ 1 := by omega
  have hk2 : x.kind ≠ 2 := by omega
  have hs1 := snd_keep h2 hx (isSend_no hk1)
  have hs2 := sen_keep h3 hx hk2
  have hno := not2 hx hk2
  rw [← h1.lv, ← h1.nw]
  obtain ⟨A, hA⟩ : ∃ A, A = (!P.live x.proc || !hasB x.mem x.proc) := ⟨_, rfl⟩
  obtain ⟨u, hu⟩ : ∃ u, u = (t.br 1 A).dups x t.stays := ⟨_, rfl⟩
  obtain ⟨Z, hZ⟩ : ∃ Z, Z = dupZ x P.stays (brk 1 (brk 1 P.broken A) (ptoldB P x)) := ⟨_, rfl⟩
  have hus : u.stays = t.stays ∧ u.live = t.live ∧ u.now = t.now := by
    obtain ⟨a1, a2, a3, _⟩ := t.br_stays 1 A
    obtain ⟨b1, b2, b3⟩ := dups_now x t.stays (t.br 1 A)
    rw [hu]
    exact ⟨b3.trans a1, b1.trans a2, b2.trans a3⟩
  have hub : ∀ q, badB u q ↔ badB t q ∨ (q = 1 ∧ (A = true ∨ ∃ o ∈ t.stays, dupJ x o = true)) := fun q => by
    rw [hu, badB_dups, badB_br, or_assoc, ← and_or_left]
  have hLZ : ∀ {S2 : Int → Prop}, Led P.broken S2 → Led Z (Or1 (Or1 (Or1 S2 1 (A = true)) 1 (ptoldB P x = true)) 1 (∃ o ∈ P.stays, dupB x o = true)) := fun h => by
    rw [hZ]
    exact led_dup ((h.brk (by decide) _).brk (by decide) _) x P.stays
  have hdm : Mems P.mems P.stays → ¬ (∃ o ∈ t.stays, dupJ x o = true) → ∀ o ∈ P.stays, o.conf = conf x → o.mem = x.mem := fun hm hnd o ho hc => by
    obtain ⟨k, hk⟩ := List.mem_iff_getElem?.1 ho
    obtain ⟨s, hs, hr⟩ := h1.get hk
    refine Classical.byContradiction fun hne => hnd ⟨s, List.mem_of_getElem? hs, ?_⟩
    unfold dupJ
    rw [← hr.cf, ← hr.mem, hc]
    have hne : (o.mem == x.mem) = false := by simpa using hne
    simp [hne]
  have hreg : t.regular l n x (P.live x.proc) (P.now x.proc) = (u.went l x n (P.now x.proc)).enter x (P.now x.proc) := by
    unfold J.regular
    rw [← hA, ← hu]
  have hpreg : pregular P x = { pregMid (ptell P x) x Z with
      now := fun p => if p = x.proc then some P.stays.length else P.now p
      stays := (pregMid (ptell P x) x Z).stays ++ [newP x] } := by
    unfold pregular
    rw [← hA, ← hZ]
  rw [hreg]
  rw [hpreg] at hle ⊢
  cases hn : P.now x.proc with
  | none =>
    have em : pregMid (ptell P x) x Z = { ptell P x with broken := Z } := by
      unfold pregMid
      rw [show (ptell P x).now x.proc = none from hn]
    have ew : u.went l x n none = u := rfl
    rw [em] at hle ⊢
    rw [ew]
    have hb : ∀ q, badB (u.enter x none) q ↔ badB t q ∨ (q = 1 ∧ (A = true ∨ ∃ o ∈ t.stays, dupJ x o = true)) ∨ (q = 2 ∧ False) := fun q => by
      show badB u q ↔ _
      rw [hub]
      simp
    refine ⟨?_, hs1, hs2, bad12 h4 hb, ?_⟩
    · refine rel_enter h1 x none (by rw [hus.1]; exact h1.len) rfl (fun j s p hs hp => h1.st j s p (hus.1 ▸ hs) hp) hus.2.1 hus.2.2 (fun i k _ hi => h1.nowk i k hi)
    · refine bro_next (N1 := A = true ∨ ∃ o ∈ t.stays, dupJ x o = true) h5 ((hb 1).trans (by simp)) hle (fun j1 j2 j3 => ⟨_, hLZ j3, fun hN => ?_, fun hN => ⟨?_, fun q => ?_⟩⟩)
      · rw [dup_iff h1 j2] at hN
        unfold Or1
        rcases hN with hN | hN | hN
        · exact .inl (.inl (.inr ⟨rfl, hN⟩))
        · exact .inl (.inr ⟨rfl, hN⟩)
        · exact .inr ⟨rfl, hN⟩
      · exact mems_enter (S1 := P.stays) j2 rfl (fun k o q k1 k2 => by
          rw [k1] at k2
          injection k2 with k2
          subst k2
          exact ⟨rfl, rfl⟩) (hdm j2 (fun h => hN (.inr h)))
      · obtain ⟨a3, a4, a5, a6⟩ := s_app (S := P.stays) (p := newP x) rfl rfl rfl
        show _ ↔ FS l (n + 1) _ (P.stays ++ [newP x]) q
        rw [fs_next hb (S := P.stays) (A3 := False) (A4 := False) (A5 := False) (A6 := False) (by simp [a3]) (by simp [a4]) (by simp [a5]) (by simp [a6]) q]
        rw [dup_iff h1 j2] at hN ⊢
        unfold Or1
        generalize FS l n t P.stays q = X0
        generalize (∃ o ∈ P.stays, dupB x o = true) = X1 at *
        obtain ⟨n1, n2⟩ := hno
        clear hle h1 h2 h3 h4 h5 hs1 hs2 hu hub hLZ hdm hreg hpreg hb j1 j2 j3 a3 a4 a5 a6 em ew hZ hus
        grind (splits := 60)
  | some k =>
    obtain ⟨p, hp, hw, hpr⟩ := h1.nowk _ _ hn
    obtain ⟨s, hs, hr⟩ := h1.get hp
    have em : pregMid (ptell P x) x Z = { ptell P x with stays := P.stays.set k { p with went := true }, broken := closeTo (P.stays.set k { p with went := true }) { p with went := true } k P.stays.length (wayZ x p Z) } := by
      unfold pregMid
      rw [show (ptell P x).now x.proc = some k from hn]
      simp only
      rw [show (ptell P x).stays[k]? = some p from hp]
      simp only
      unfold pclose
      rw [show ({ ptell P x with broken := wayZ x p Z } : PM).stays[k]? = some p from hp]
      rfl
    have ew : u.went l x n (some k) = ((u.setS k { s with nx := some n }).br 1 (decide (keyZ (x.ce : Int) x.cr s.cf.1 s.cf.2 ≤ 0))).br 1 (wayJ l x s) := by
      unfold J.went
      simp only
      rw [hus.1, hs]
    rw [em] at hle ⊢
    rw [ew]
    obtain ⟨K, hK⟩ : ∃ K, K = decide (keyZ (x.ce : Int) x.cr s.cf.1 s.cf.2 ≤ 0) := ⟨_, rfl⟩
    obtain ⟨W, hW⟩ : ∃ W, W = wayJ l x s := ⟨_, rfl⟩
    rw [← hK, ← hW]
    have hwz : wayZ x p Z = brk 1 (brk 1 Z K) W := by
      have e2 : wayB x p = W := by
        rw [hW]
        unfold wayB wayJ
        rw [hr.tr]
        cases s.tr <;> rfl
      unfold wayZ
      rw [e2, hK, hr.cf]
    obtain ⟨v, hv⟩ : ∃ v, v = ((u.setS k { s with nx := some n }).br 1 K).br 1 W := ⟨_, rfl⟩
    rw [← hv]
    rw [hwz] at hle ⊢
    have hvs : v.stays = t.stays.set k { s with nx := some n } ∧ v.live = t.live ∧ v.now = t.now := by
      obtain ⟨a1, a2, a3, _⟩ := (u.setS k { s with nx := some n }).br_stays 1 K
      obtain ⟨b1, b2, b3, _⟩ := ((u.setS k { s with nx := some n }).br 1 K).br_stays 1 W
      rw [hv]
      refine ⟨(b1.trans a1).trans ?_, (b2.trans a2).trans hus.2.1, (b3.trans a3).trans hus.2.2⟩
      unfold J.setS
      rw [hus.1]
    have hb : ∀ q, badB (v.enter x (some k)) q ↔ badB t q ∨ (q = 1 ∧ ((A = true ∨ ∃ o ∈ t.stays, dupJ x o = true) ∨ K = true ∨ W = true)) ∨ (q = 2 ∧ False) := fun q => by
      show badB v q ↔ _
      rw [hv, badB_br, badB_br]
      show ((badB u q ∨ _) ∨ _) ↔ _
      rw [hub]
      generalize (∃ o ∈ t.stays, dupJ x o = true) = Y
      generalize badB t q = Y2
      simp only [and_false, or_false, and_or_left, or_assoc]
    refine ⟨?_, hs1, hs2, bad12 h4 hb, ?_⟩
    · refine rel_enter (S1 := P.stays.set k { p with went := true }) h1 x (some k) (by rw [hvs.1, List.length_set]; exact h1.len) (by simp) (fun j a b ha hbb => ?_) hvs.2.1 hvs.2.2 (fun i j hi hj => ?_)
      · rw [hvs.1] at ha
        by_cases e : j = k
        · subst e
          rw [set_k hp] at hbb
          have hl2 := (List.getElem?_eq_some_iff.1 hs).1
          rw [show (t.stays.set j { s with nx := some n })[j]? = some { s with nx := some n } by simp [hl2]] at ha
          injection ha with ha
          injection hbb with hbb
          subst ha
          subst hbb
          exact ⟨hr.proc, hr.cf, hr.mem, hr.g0, hr.g1, hr.all, hr.tr, rfl, hr.cnt, hr.tn⟩
        · rw [set_ne e] at hbb
          rw [List.getElem?_set_ne (Ne.symm e)] at ha
          exact h1.st j a b ha hbb
      · obtain ⟨q, e1, e2, e3⟩ := h1.nowk i j hj
        have e : j ≠ k := fun e => by
          subst e
          rw [hp] at e1
          injection e1 with e1
          subst e1
          exact hi (e3.symm.trans hpr)
        exact ⟨q, (set_ne e).trans e1, e2, e3⟩
    · refine bro_next (N1 := (A = true ∨ ∃ o ∈ t.stays, dupJ x o = true) ∨ K = true ∨ W = true) h5 ((hb 1).trans (by simp)) hle (fun j1 j2 j3 => ?_)
      have L1 := ((hLZ j3).brk (r := 1) (by decide) K).brk (r := 1) (by decide) W
      have L2 := led_closeTo L1 (P.stays.set k { p with went := true }) { p with went := true } rfl k P.stays.length (by simp)
      refine ⟨_, L2, fun hN => ?_, fun hN => ⟨?_, fun q => ?_⟩⟩
      · rw [dup_iff h1 j2] at hN
        unfold Or1
        rcases hN with (hN | hN | hN) | hN | hN
        · exact .inl (.inl (.inl (.inl (.inl (.inl (.inr ⟨rfl, hN⟩))))))
        · exact .inl (.inl (.inl (.inl (.inl (.inr ⟨rfl, hN⟩)))))
        · exact .inl (.inl (.inl (.inl (.inr ⟨rfl, hN⟩))))
        · exact .inl (.inl (.inl (.inr ⟨rfl, hN⟩)))
        · exact .inl (.inl (.inr ⟨rfl, hN⟩))
      · refine mems_enter (S1 := P.stays.set k { p with went := true }) j2 (by simp) (fun j o q k1 k2 => ?_) (hdm j2 (fun h => hN (.inl (.inr h))))
        by_cases e : j = k
        · subst e
          rw [set_k hp] at k2
          rw [hp] at k1
          injection k1 with k1
          injection k2 with k2
          subst k1
          subst k2
          exact ⟨rfl, rfl⟩
        · rw [set_ne e, k1] at k2
          injection k2 with k2
          subst k2
          exact ⟨rfl, rfl⟩
      · obtain ⟨a3, a4, a5, a6⟩ := s_app (S := P.stays.set k { p with went := true }) (p := newP x) rfl rfl rfl
        have c6 : (∃ (j : Nat) (o : PS), j < P.stays.length ∧ (P.stays.set k { p with went := true })[j]? = some o ∧ o.conf = ({ p with went := true } : PS).conf ∧ Ow { p with went := true } o) ↔ ∃ (j : Nat) (o : PS), (P.stays.set k { p with went := true })[j]? = some o ∧ o.conf = ({ p with went := true } : PS).conf ∧ Ow { p with went := true } o := by
          constructor
          · rintro ⟨j, o, _, h⟩
            exact ⟨j, o, h⟩
          · rintro ⟨j, o, h, h2⟩
            exact ⟨j, o, by have := (List.getElem?_eq_some_iff.1 h).1; simpa using this, h, h2⟩
        have c5 : (∃ (j : Nat) (o : PS), j < P.stays.length ∧ j ≠ k ∧ (P.stays.set k { p with went := true })[j]? = some o ∧ P5 o { p with went := true }) ↔ ∃ (j : Nat) (o : PS), j ≠ k ∧ (P.stays.set k { p with went := true })[j]? = some o ∧ P5 o { p with went := true } := by
          constructor
          · rintro ⟨j, o, _, h⟩
            exact ⟨j, o, h⟩
          · rintro ⟨j, o, e, h, h2⟩
            exact ⟨j, o, by have := (List.getElem?_eq_some_iff.1 h).1; simpa using this, e, h, h2⟩
        rw [c5, c6]
        show _ ↔ FS l (n + 1) _ (P.stays.set k { p with went := true } ++ [newP x]) q
        rw [fs_next hb (S := P.stays) (A3 := False) (A4 := False) (a3.trans (s3_set hp (by simp))) (a4.trans (s4_set hp (by simp))) (a5.trans (s5_gone hp hw)) (a6.trans (s6_gone hp hw rfl)) q]
        rw [dup_iff h1 j2] at hN ⊢
        unfold Or1
        generalize FS l n t P.stays q = X0
        generalize (∃ o ∈ P.stays, dupB x o = true) = X1 at *
        generalize (∃ (j : Nat) (o : PS), j ≠ k ∧ (P.stays.set k { p with went := true })[j]? = some o ∧ P5 o { p with went := true }) = X2
        generalize (∃ (j : Nat) (o : PS), (P.stays.set k { p with went := true })[j]? = some o ∧ o.conf = ({ p with went := true } : PS).conf ∧ Ow { p with went := true } o) = X3
        obtain ⟨n1, n2⟩ := hno
        clear hle h1 h2 h3 h4 h5 hs1 hs2 hu hub hLZ hdm hreg hpreg hb j1 j2 j3 a3 a4 a5 a6 em ew hZ hus L1 L2 c5 c6 hvs hv hwz hW hK hr hs hp hw hpr hn hA
        simp only [and_or_left]
        grind (splits := 80)
end
end Go.Proofs.Ytogagkgkmoppmaa
namespace Go.Proofs.Ytogagkgkmoppmaa
set_option linter.unusedVariables false
set_option linter.unusedSimpArgs false
open Go.RowKit GM
/-- of a stay what Evs asks -/
def coreS (s : JS) : Int × ConfK × Nat × List (Nat × Bool) × Option Nat × Option Nat := (s.proc, s.cf, s.mem, s.gots, s.tr, s.nx)
theorem RS.core {l : List Ev} {s s' : JS} {p : PS} (h : RS l s p) (e : coreS s' = coreS s) : RS l s' p := by
  unfold coreS at e
  simp only [Prod.mk.injEq] at e
  obtain ⟨e1, e2, e3, e4, e5, e6⟩ := e
  have hp : ∀ b, partJ l s' b = partJ l s b := fun b => by unfold partJ; rw [e4]
  exact ⟨e1 ▸ h.proc, e2 ▸ h.cf, e3 ▸ h.mem, by rw [hp]; exact h.g0, by rw [hp]; exact h.g1, by rw [e4]; exact h.all, by rw [e5]; exact h.tr, by rw [e6]; exact h.went, h.cnt, h.tn⟩
/-- two judges that differ in what Evs does not ask -/
structure Sim (t t' : J) : Prop where
  stays : t'.stays.map coreS = t.stays.map coreS
  live : t'.live = t.live
  now : t'.now = t.now
  bad : t'.bad = t.bad
theorem Sim.refl (t : J) : Sim t t := ⟨rfl, rfl, rfl, rfl⟩
theorem Sim.wr {t t' : J} (h : Sim t t') (r : Int) (b : Bool) : Sim t (t'.wr r b) := ⟨h.stays, h.live, h.now, h.bad⟩
theorem Sim.setS {t t' : J} (h : Sim t t') {k : Nat} {o s : JS} (hk : t'.stays[k]? = some o) (e : coreS s = coreS o) : Sim t (t'.setS k s) := by
  refine ⟨?_, h.live, h.now, h.bad⟩
  rw [← h.stays]
  show (t'.stays.set k s).map coreS = _
  apply List.ext_getElem?
  intro j
  rw [List.getElem?_map, List.getElem?_map]
  by_cases hj : j = k
  · subst hj
    have hl := (List.getElem?_eq_some_iff.1 hk).1
    rw [hk, show (t'.stays.set j s)[j]? = some s by simp [hl]]
    show some (coreS s) = some (coreS o)
    rw [e]
  · rw [List.getElem?_set_ne (Ne.symm hj)]
theorem sim_upper (l : List Ev) (nm : Nat → List NameK) (t : J) (i : Nat) (x : Ev) (s : Option Nat) : Sim t (t.upper l nm i x s) := by
  unfold J.upper
  split
  · split
    · exact .refl t
    · split
      · exact .refl t
      · rename_i o ho
        exact (Sim.refl t).setS ho rfl
  · split
    · unfold J.mine
      split
      · exact (Sim.refl t).wr 3 true
      · split
        · exact .refl t
        · rename_i o ho
          split
          · exact (Sim.refl t).wr 3 true
          · unfold J.mineTo
            split
            · exact ((Sim.refl t).wr 3 _).setS ho rfl
            · split
              · exact (Sim.refl t).wr 3 _
              · split
                · exact ((Sim.refl t).wr 3 _).setS ho rfl
                · split
                  · exact (Sim.refl t).setS ho rfl
                  · exact .refl t
    · exact .refl t
section
variable {l : List Ev} {nm : Nat → List NameK} {n : Nat} {t : J} {P : PM} {x : Ev}
theorem inv_sim (h : InvT l n t P) {t' : J} (hs : Sim t t') : InvT l n t' P := by
  obtain ⟨h1, h2, h3, h4, h5⟩ := h
  have hlen : t'.stays.length = t.stays.length := by
    have := congrArg List.length hs.stays
    simpa using this
  have hb : ∀ q, badB t' q ↔ badB t q := fun q => by unfold badB; rw [hs.bad]
  refine ⟨⟨hlen.trans h1.len, fun k s p hk hp => ?_, by rw [hs.live]; exact h1.lv, by rw [hs.now]; exact h1.nw, h1.nowk⟩, h2, h3, fun q hq => h4 q ((hb q).1 hq), ?_⟩
  · obtain ⟨s0, hk0, hr⟩ := h1.get hp
    have e := congrArg (fun L : List _ => L[k]?) hs.stays
    simp only [List.getElem?_map, hk, hk0, Option.map_some, Option.some.injEq] at e
    exact hr.core e
  · rcases h5 with ⟨a, b⟩ | ⟨a, b, c⟩
    · exact .inl ⟨(hb 1).2 a, b⟩
    · exact .inr ⟨fun h => a ((hb 1).1 h), b, c.congr fun q => by unfold FS; rw [hb q]⟩
theorem inv_other (h : InvT l n t P) (hx : l[n]? = some x) (hk1 : x.kind ≠ 1) (hk2 : x.kind ≠ 2) : InvT l (n + 1) t P := by
  obtain ⟨h1, h2, h3, h4, h5⟩ := h
  refine ⟨h1, snd_keep h2 hx (isSend_no hk1), sen_keep h3 hx hk2, h4, ?_⟩
  have h := bro_br h5 hx hk2 false
  have e1 : t.br 1 false = t := by unfold J.br; simp
  have e2 : brk 1 P.broken false = P.broken := by unfold brk; simp
  rw [e1, e2] at h
  exact h
theorem inv_kind (h : InvT l n t P) (hx : l[n]? = some x) : InvT l (n + 1) (t.step l nm n x) (pkind P x) := by
  unfold J.step pkind
  by_cases k5 : x.kind = 5
  · have := inv_start h hx (.inl k5)
    rw [show decide (x.kind = 5) = true by simpa using k5] at this
    rw [if_pos k5, if_pos (.inl k5)]
    exact this
  · rw [if_neg k5]
    by_cases k6 : x.kind = 6
    · have := inv_start h hx (.inr k6)
      rw [show decide (x.kind = 5) = false by simpa using k5] at this
      rw [if_pos k6, if_pos (.inr k6)]
      exact this
    · rw [if_neg k6, if_neg (show ¬ (x.kind = 5 ∨ x.kind = 6) from fun h => h.elim k5 k6)]
      by_cases k3 : x.kind = 3
      · rw [if_pos k3, if_pos k3]
        exact inv_regular h hx k3
      · rw [if_neg k3, if_neg k3]
        by_cases k1 : x.kind = 1
        · rw [if_pos (.inl k1), if_pos k1]
          exact inv_send h hx k1
        · rw [if_neg k1]
          by_cases k2 : x.kind = 2
          · rw [if_pos (.inr (.inl k2)), if_pos k2]
            exact inv_deliver h hx k2
          · rw [if_neg k2]
            by_cases k4 : x.kind = 4
            · rw [if_pos (.inr (.inr k4)), if_pos k4]
              exact inv_trans h hx k4
            · rw [if_neg (show ¬ (x.kind = 1 ∨ x.kind = 2 ∨ x.kind = 4) from fun h => h.elim k1 (fun h => h.elim k2 k4)), if_neg k4]
              exact inv_other (inv_sim h (sim_upper l nm t n x _)) hx k1 k2
theorem inv_mark (h : InvT l n t P) : InvT l n t (pmark P) := by
  unfold pmark
  split
  · exact h
  · exact h
theorem inv_add (h : InvT l n t P) (hx : l[n]? = some x) : InvT l (n + 1) (t.step l nm n x) (padd P x) := by
  have h0 : InvT l n t { P with len := P.len + 1 } := h
  exact inv_mark (inv_kind h0 hx)
end
theorem badB_J0 (q : Int) : ¬ badB J0 q := by
  unfold badB J0 GM.get
  simp
theorem inv_zero (l : List Ev) : InvT l 0 J0 PM0 := by
  refine ⟨⟨rfl, fun k s p hs => (by cases hs), fun i => rfl, fun i => rfl, fun i k h => (by cases h)⟩, fun k => rfl, fun h => rfl, fun q hq => absurd hq (badB_J0 q), .inr ⟨badB_J0 1, ⟨fun k o hk => (by cases hk), fun c m hc => (by cases hc)⟩, .inl ⟨rfl, fun q hq => ?_⟩⟩⟩
  rcases hq with h | ⟨_, i, h, _⟩ | ⟨_, ⟨i, h, _⟩ | ⟨k, s, h, _⟩⟩ | ⟨_, k, s, h, _⟩ | ⟨_, i, j, a, b, h, _⟩ | ⟨_, i, j, a, b, h, _⟩
  · exact badB_J0 q h
  · omega
  · omega
  · cases h
  · cases h
  · cases h
  · cases h
theorem inv_all (l : List Ev) (nm : Nat → List NameK) : ∀ n, n ≤ l.length → InvT l n (thru l nm n) (told (l.take n))
  | 0, _ => inv_zero l
  | n + 1, hn => by
    have h := inv_all l nm n (by omega)
    have hx : l[n]? = some l[n] := List.getElem?_eq_getElem (by omega)
    have e : told (l.take (n + 1)) = padd (told (l.take n)) l[n] := by rw [List.take_succ_eq_append_getElem (by omega), told_snoc]
    rw [e]
    have e2 : thru l nm (n + 1) = (thru l nm n).step l nm n l[n] := by
      show (match l[n]? with
        | none => thru l nm n
        | some x => (thru l nm n).step l nm n x) = _
      rw [hx]
    rw [e2]
    exact inv_add h hx
theorem led_first (t : J) : ∀ (n : Nat) (r : Int), 0 < r → Led (firstBad t n r) (fun q => r ≤ q ∧ q < r + n ∧ badB t q)
  | 0, r, _ => .inl ⟨rfl, fun q hq => by omega⟩
  | n + 1, r, hr => by
    show Led (if (GM.get t.bad r).getD false = true then r else firstBad t n (r + 1)) _
    by_cases hb : (GM.get t.bad r).getD false = true
    · rw [if_pos hb]
      exact .inr ⟨hr, ⟨Int.le_refl _, by omega, hb⟩, fun q hq => hq.1⟩
    · rw [if_neg hb]
      refine (led_first t n (r + 1) (by omega)).congr fun q => ?_
      constructor
      · rintro ⟨h1, h2, h3⟩
        exact ⟨by omega, by omega, h3⟩
      · rintro ⟨h1, h2, h3⟩
        have : q ≠ r := fun e => hb (e ▸ h3)
        exact ⟨by omega, by omega, h3⟩
section
variable {l : List Ev}
abbrev allG (l : List Ev) (L : List (Nat × Bool)) : List Msg := L.map fun g => bare (gotM l g)
theorem key_iff (L : List (Nat × Bool)) : (∃ (i : Nat) (g : Nat × Bool), L[i]? = some g ∧ Key1 l L i g) ↔ Ord3 (allG l L) := by
  unfold Key1 Ord3 allG
  have hl : ∀ a b : Msg, lessJ a b = true ↔ lessM (bare a) (bare b) := fun a b => by
    unfold lessJ lessM
    rw [decide_eq_true_eq]
    exact Iff.rfl
  constructor
  · rintro ⟨i, g, hg, p, h0, hp, h⟩
    refine ⟨i - 1, _, _, by rw [List.getElem?_map, hp]; rfl, by rw [show i - 1 + 1 = i by omega, List.getElem?_map, hg]; rfl, (hl _ _).1 h⟩
  · rintro ⟨i, y, z, h1, h2, h3⟩
    rw [List.getElem?_map] at h1 h2
    obtain ⟨p, hp, rfl⟩ := Option.map_eq_some_iff.1 h1
    obtain ⟨g, hg, rfl⟩ := Option.map_eq_some_iff.1 h2
    exact ⟨i + 1, g, hg, p, by omega, hp, (hl _ _).2 h3⟩
theorem cntG_F (L : List (Nat × Bool)) (q : Int) : cntG l L q = cntF (allG l L) q := by
  unfold cntG cntF allG
  rw [List.filter_map, List.length_map]
  rfl
theorem dep_iff (L : List (Nat × Bool)) : (∃ (i : Nat) (g : Nat × Bool), L[i]? = some g ∧ Dep l (L.take i) (gotM l g).ds) ↔ Dep4 (allG l L) := by
  unfold Dep Dep4 DepM
  constructor
  · rintro ⟨i, g, hg, d, h1, h2⟩
    refine ⟨i, bare (gotM l g), by unfold allG; rw [List.getElem?_map, hg]; rfl, d, h1, ?_⟩
    rw [cntG_F] at h2
    unfold allG at h2 ⊢
    rw [← List.map_take]
    exact h2
  · rintro ⟨i, z, hz, d, h1, h2⟩
    unfold allG at hz h2
    rw [List.getElem?_map] at hz
    obtain ⟨g, hg, rfl⟩ := Option.map_eq_some_iff.1 hz
    rw [← List.map_take] at h2
    exact ⟨i, g, hg, d, h1, by rw [cntG_F]; exact h2⟩
theorem par_iff {a b : JS} {p q : PS} (ha : RS l a p) (hb : RS l b q) : Par l a b ↔ P5 p q := by
  have hnm : ∀ o : JS, diffJ.newMem l o = (match o.tr with
    | none => 0
    | some e => evM l e) := fun _ => rfl
  unfold Par P5 pairJ diffJ
  rw [hnm, hnm, ha.cf, hb.cf, ha.proc, hb.proc, ha.went, hb.went, ha.tr, hb.tr, ha.g0, hb.g0, ha.g1, hb.g1, sameL_bare, sameL_bare]
  cases a.tr with
  | none => simp
  | some e =>
    cases b.tr with
    | none => simp
    | some f =>
      simp only [Option.map_some, Option.some.injEq, exists_eq_left', Bool.and_eq_true, decide_eq_true_eq, Bool.not_eq_true', decide_eq_false_iff_not, exists_and_left, Bool.or_assoc]
      constructor
      · rintro ⟨⟨⟨⟨⟨h1, h2⟩, h3⟩, h4⟩, h5⟩, h6⟩
        exact ⟨h1, h2, h3, h4, h5, h6⟩
      · rintro ⟨h1, h2, h3, h4, h5, h6⟩
        exact ⟨⟨⟨⟨⟨h1, h2⟩, h3⟩, h4⟩, h5⟩, h6⟩
theorem saf_iff {a b : JS} {p q : PS} (ha : RS l a p) (hb : RS l b q) : Saf l a b ↔ Ow q p := by
  have hhas : ∀ m, (q.p0 ++ q.p1).any (sameM (bare m)) = hasJ l b m := fun m => by
    rw [hb.all, List.any_map]
    unfold hasJ
    congr 1
    funext g
    show sameM (bare m) (bare (gotM l g)) = sameM (gotM l g) m
    rw [sameM_bare, sameM_symm]
  have hmem : ∀ (c : Bool) (m : Msg), m ∈ (partJ l a c).map bare ↔ ∃ g ∈ a.gots, g.2 = c ∧ bare (gotM l g) = m := fun c m => by
    unfold partJ
    simp only [List.mem_map, List.mem_filter, beq_iff_eq]
    constructor
    · rintro ⟨y, ⟨g, ⟨h1, h2⟩, rfl⟩, rfl⟩
      exact ⟨g, h1, h2, rfl⟩
    · rintro ⟨g, h1, h2, rfl⟩
      exact ⟨_, ⟨g, ⟨h1, h2⟩, rfl⟩, rfl⟩
  have hown : ∀ (c : Bool) (mem : Nat), OwL q.proc (q.p0 ++ q.p1) mem ((partJ l a c).map bare) ↔ ∃ g ∈ a.gots, g.2 = c ∧ ((gotM l g).service = 2 ∧ hasB mem b.proc = true) ∧ hasJ l b (gotM l g) = false := fun c mem => by
    unfold OwL
    constructor
    · rintro ⟨m, hm, h1, h2⟩
      obtain ⟨g, k1, k2, rfl⟩ := (hmem c m).1 hm
      exact ⟨g, k1, k2, by rw [← hb.proc]; exact h1, by rw [← hhas]; exact h2⟩
    · rintro ⟨g, k1, k2, h1, h2⟩
      exact ⟨_, (hmem c _).2 ⟨g, k1, k2, rfl⟩, by rw [hb.proc]; exact h1, by rw [hhas]; exact h2⟩
  unfold Saf Ow
  rw [ha.g0, ha.g1, hown, ha.mem]
  have htn := ha.tn
  rw [ha.tr, ha.g1] at htn
  rw [ha.tr]
  constructor
  · rintro ⟨i, g, hg, ⟨h1, h2⟩, h3⟩
    have hgm := List.mem_of_getElem? hg
    unfold memJ at h2
    cases hg2 : g.2 with
    | false =>
      rw [hg2] at h2
      exact .inl ⟨g, hgm, hg2, ⟨h1, h2⟩, h3⟩
    | true =>
      rw [hg2, if_pos rfl] at h2
      cases htr : a.tr with
      | none =>
        rw [htr] at htn
        have hin := (hmem true _).2 ⟨g, hgm, hg2, rfl⟩
        rw [htn rfl] at hin
        cases hin
      | some e =>
        rw [htr] at h2
        exact .inr ⟨_, rfl, (hown true _).2 ⟨g, hgm, hg2, ⟨h1, h2⟩, h3⟩⟩
  · rintro (⟨g, hgm, hg2, ⟨h1, h2⟩, h3⟩ | ⟨t, ht, h⟩)
    · obtain ⟨i, hi⟩ := List.mem_iff_getElem?.1 hgm
      exact ⟨i, g, hi, ⟨h1, by unfold memJ; rw [hg2]; exact h2⟩, h3⟩
    · obtain ⟨g, hgm, hg2, ⟨h1, h2⟩, h3⟩ := (hown true _).1 h
      obtain ⟨i, hi⟩ := List.mem_iff_getElem?.1 hgm
      obtain ⟨e, he, rfl⟩ := Option.map_eq_some_iff.1 ht
      exact ⟨i, g, hi, ⟨h1, by unfold memJ; rw [hg2, if_pos rfl, he]; exact h2⟩, h3⟩
theorem found_iff {t : J} {S : List PS} {live : Int → Bool} {now : Int → Option Nat} (h : Rel l t S live now) (n : Nat) (q : Int) : (badB t q ∨ Found l t n q) ↔ FS l n t S q := by
  have hto : ∀ {k : Nat} {s : JS}, t.stays[k]? = some s → ∃ p, S[k]? = some p ∧ RS l s p := fun {k s} hk => by
    have hl : k < S.length := by rw [← h.len]; exact (List.getElem?_eq_some_iff.1 hk).1
    exact ⟨_, List.getElem?_eq_getElem hl, h.st k s _ hk (List.getElem?_eq_getElem hl)⟩
  have e3 : (∃ (k : Nat) (s : JS), t.stays[k]? = some s ∧ ∃ (i : Nat) (g : Nat × Bool), s.gots[i]? = some g ∧ Key1 l s.gots i g) ↔ S3 S := by
    unfold S3
    constructor
    · rintro ⟨k, s, hk, hh⟩
      obtain ⟨p, hp, hr⟩ := hto hk
      exact ⟨k, p, hp, by rw [hr.all]; exact (key_iff _).1 hh⟩
    · rintro ⟨k, p, hp, hh⟩
      obtain ⟨s, hs, hr⟩ := h.get hp
      exact ⟨k, s, hs, (key_iff _).2 (by rw [hr.all] at hh; exact hh)⟩
  have e4 : (∃ (k : Nat) (s : JS), t.stays[k]? = some s ∧ ∃ (i : Nat) (g : Nat × Bool), s.gots[i]? = some g ∧ Dep l (s.gots.take i) (gotM l g).ds) ↔ S4 S := by
    unfold S4
    constructor
    · rintro ⟨k, s, hk, hh⟩
      obtain ⟨p, hp, hr⟩ := hto hk
      exact ⟨k, p, hp, by rw [hr.all]; exact (dep_iff _).1 hh⟩
    · rintro ⟨k, p, hp, hh⟩
      obtain ⟨s, hs, hr⟩ := h.get hp
      exact ⟨k, s, hs, (dep_iff _).2 (by rw [hr.all] at hh; exact hh)⟩
  have e5 : (∃ (i j : Nat) (a b : JS), j < i ∧ t.stays[i]? = some a ∧ t.stays[j]? = some b ∧ Par l a b) ↔ S5 S := by
    unfold S5
    constructor
    · rintro ⟨i, j, a, b, hij, hi, hj, hh⟩
      obtain ⟨p, hp, hr⟩ := hto hi
      obtain ⟨q, hq, hr2⟩ := hto hj
      exact ⟨i, j, p, q, hp, hq, by omega, (par_iff hr hr2).1 hh⟩
    · rintro ⟨i, j, p, q, hp, hq, hij, hh⟩
      obtain ⟨a, ha, hr⟩ := h.get hp
      obtain ⟨b, hb, hr2⟩ := h.get hq
      rcases Nat.lt_or_gt_of_ne hij with hlt | hlt
      · exact ⟨j, i, b, a, hlt, hb, ha, (par_iff hr2 hr).2 hh.symm⟩
      · exact ⟨i, j, a, b, hlt, ha, hb, (par_iff hr hr2).2 hh⟩
  have e6 : (∃ (i j : Nat) (a b : JS), t.stays[i]? = some a ∧ t.stays[j]? = some b ∧ (a.cf = b.cf ∧ b.nx.isSome = true) ∧ Saf l a b) ↔ S6 S := by
    unfold S6
    constructor
    · rintro ⟨i, j, a, b, hi, hj, ⟨h1, h2⟩, hh⟩
      obtain ⟨p, hp, hr⟩ := hto hi
      obtain ⟨q, hq, hr2⟩ := hto hj
      exact ⟨i, j, p, q, hp, hq, ⟨by rw [hr.cf, hr2.cf]; exact h1, by rw [hr2.went]; exact h2⟩, (saf_iff hr hr2).1 hh⟩
    · rintro ⟨i, j, p, q, hp, hq, ⟨h1, h2⟩, hh⟩
      obtain ⟨a, ha, hr⟩ := h.get hp
      obtain ⟨b, hb, hr2⟩ := h.get hq
      exact ⟨i, j, a, b, ha, hb, ⟨by rw [← hr.cf, ← hr2.cf]; exact h1, by rw [← hr2.went]; exact h2⟩, (saf_iff hr hr2).2 hh⟩
  unfold Found Tog FS
  rw [← e3, ← e4, ← e5, ← e6]
  have eo : (∃ (k : Nat) (s : JS), t.stays[k]? = some s ∧ Onc l s q) ↔ (q = 3 ∧ ∃ (k : Nat) (s : JS), t.stays[k]? = some s ∧ ∃ (i : Nat) (g : Nat × Bool), s.gots[i]? = some g ∧ Key1 l s.gots i g) ∨ (q = 4 ∧ ∃ (k : Nat) (s : JS), t.stays[k]? = some s ∧ ∃ (i : Nat) (g : Nat × Bool), s.gots[i]? = some g ∧ Dep l (s.gots.take i) (gotM l g).ds) := by
    unfold Onc
    constructor
    · rintro ⟨k, s, hk, i, g, hg, ⟨h1, h2⟩ | ⟨h1, h2⟩⟩
      · exact .inl ⟨h1, k, s, hk, i, g, hg, h2⟩
      · exact .inr ⟨h1, k, s, hk, i, g, hg, h2⟩
    · rintro (⟨h1, k, s, hk, i, g, hg, h2⟩ | ⟨h1, k, s, hk, i, g, hg, h2⟩)
      · exact ⟨k, s, hk, i, g, hg, .inl ⟨h1, h2⟩⟩
      · exact ⟨k, s, hk, i, g, hg, .inr ⟨h1, h2⟩⟩
  rw [eo]
  clear eo e3 e4 e5 e6 hto h
  generalize (∃ i, i < n ∧ Beh l i) = X1
  generalize (∃ i, i < n ∧ Twi l i) = X2
  generalize (∃ (k : Nat) (s : JS), t.stays[k]? = some s ∧ ∃ (i : Nat) (g : Nat × Bool), s.gots[i]? = some g ∧ Key1 l s.gots i g) = X3
  generalize (∃ (k : Nat) (s : JS), t.stays[k]? = some s ∧ ∃ (i : Nat) (g : Nat × Bool), s.gots[i]? = some g ∧ Dep l (s.gots.take i) (gotM l g).ds) = X4
  generalize (∃ (i j : Nat) (a b : JS), j < i ∧ t.stays[i]? = some a ∧ t.stays[j]? = some b ∧ Par l a b) = X5
  generalize (∃ (i j : Nat) (a b : JS), t.stays[i]? = some a ∧ t.stays[j]? = some b ∧ (a.cf = b.cf ∧ b.nx.isSome = true) ∧ Saf l a b) = X6
  generalize badB t q = X0
  simp only [and_or_left]
  grind (splits := 60)
end
/-- the law, in plain -/
theorem told_evs (l : List Ev) (nm : Nat → List NameK) : (told l).broken = evsJ l nm := by
  obtain ⟨h1, _, _, h4, h5⟩ := inv_all l nm l.length (Nat.le_refl _)
  rw [List.take_length] at h1 h5
  have hf : ∀ q, badB (judged l nm) q ↔ FS l l.length (thru l nm l.length) (told l).stays q := fun q => (judged_bad l nm q).trans (found_iff h1 l.length q)
  have hE : Led (evsJ l nm) (fun q => 1 ≤ q ∧ q < 1 + (6 : Nat) ∧ badB (judged l nm) q) := led_first (judged l nm) 6 1 (by decide)
  rcases h5 with ⟨a, b⟩ | ⟨a, b, c⟩
  · rw [b]
    exact (hE.one ⟨by omega, by omega, (hf 1).2 (.inl a)⟩).symm
  · refine c.uniq (hE.congr fun q => ?_)
    rw [hf q]
    constructor
    · exact fun h => h.2.2
    · intro h
      refine ⟨?_, ?_, h⟩
      · rcases h with h | ⟨h, _⟩ | ⟨h, _⟩ | ⟨h, _⟩ | ⟨h, _⟩ | ⟨h, _⟩
        · have := h4 q h; omega
        all_goals omega
      · rcases h with h | ⟨h, _⟩ | ⟨h, _⟩ | ⟨h, _⟩ | ⟨h, _⟩ | ⟨h, _⟩
        · have := h4 q h; omega
        all_goals omega
end Go.Proofs.Ytogagkgkmoppmaa
