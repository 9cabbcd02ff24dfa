/-
  A judge beside a monitor, in plain: a configuration is entered; each event; the whole trace.
  Conditions: those that each theorem names.
-/
import Derived.Test.YtogagkgkmoppmaaGreatDoorJuXZs
import Derived.Test.YtogagkgkmoppmaaGreatDoorJuKZs
import Derived.Test.YtogagkgkmoppmaaGreatDoorJuVZs
namespace Go.Proofs.YtogagkgkmoppmaaGreatDoor
set_option linter.unusedVariables false
set_option linter.unusedSimpArgs false
open Go.RowKit GM
theorem badB_dups (x : Ev) : ∀ (L : List JS) (t : J) (q : Int), badB (J.dups x L t) q ↔ badB t q ∨ (q = 1 ∧ ∃ o ∈ L, dupJ x o = true)
  | [], t, q => by simp [J.dups]
  | o :: L, t, q => by
    have h := badB_dups x L (t.br 1 (dupJ x o)) q
    have e : J.dups x (o :: L) t = J.dups x L (t.br 1 (dupJ x o)) := rfl
    rw [e, h, badB_br]
    simp only [List.mem_cons]
    constructor
    · rintro ((h | ⟨h, k⟩) | ⟨h, u, k1, k2⟩)
      · exact .inl h
      · exact .inr ⟨h, o, .inl rfl, k⟩
      · exact .inr ⟨h, u, .inr k1, k2⟩
    · rintro (g | ⟨g, u, e | k1, k2⟩)
      · exact .inl (.inl g)
      · exact .inl (.inr ⟨g, e ▸ k2⟩)
      · exact .inr ⟨g, u, k1, k2⟩
theorem dups_now (x : Ev) : ∀ (L : List JS) (t : J), (J.dups x L t).live = t.live ∧ (J.dups x L t).now = t.now ∧ (J.dups x L t).stays = t.stays := fun L t => ⟨(dups_stays x L t).2.2, (dups_stays x L t).2.1, (dups_stays x L t).1⟩
theorem new_rs (l : List Ev) (x : Ev) (b : Option Nat) : RS l (newJ x b) (newP x) := ⟨rfl, rfl, rfl, rfl, rfl, rfl, rfl, rfl, fun _ => rfl, fun _ => rfl⟩
section
variable {l : List Ev} {n : Nat} {t : J} {P : PM} {x : Ev}
theorem rel_enter {S S1 : List PS} {live : Int → Bool} {now : Int → Option Nat} (h : Rel l t S live now) {v : J} (x : Ev) (b : Option Nat) (hl1 : v.stays.length = S.length) (hl2 : S1.length = S.length)
    (st1 : ∀ (j : Nat) (s : JS) (p : PS), v.stays[j]? = some s → S1[j]? = some p → RS l s p) (h1 : v.live = t.live) (h2 : v.now = t.now) (keep : ∀ (i : Int) (k : Nat), i ≠ x.proc → now i = some k → ∃ p : PS, S1[k]? = some p ∧ p.went = false ∧ p.proc = i) :
    Rel l (v.enter x b) (S1 ++ [newP x]) live (fun p => if p = x.proc then some S.length else now p) := by
  refine ⟨by simp [J.enter, hl1, hl2], fun j s p hs hp => ?_, fun i => ?_, fun i => ?_, fun i k hi => ?_⟩
  · have hs : (v.stays ++ [newJ x b])[j]? = some s := hs
    rcases Nat.lt_or_ge j S.length with hj | hj
    · rw [List.getElem?_append_left (by omega)] at hs hp
      exact st1 j s p hs hp
    · rw [List.getElem?_append_right (by omega)] at hs hp
      have hj2 := (List.getElem?_eq_some_iff.1 hs).1
      have e0 : j - v.stays.length = 0 := by simpa using hj2
      have e1 : j - S1.length = 0 := by omega
      rw [e0] at hs
      rw [e1] at hp
      injection hs with hs
      injection hp with hp
      subst hs
      subst hp
      exact new_rs l x b
  · show live i = (get v.live i).getD false
    rw [h1]
    exact h.lv i
  · show (if i = x.proc then some S.length else now i) = get (put v.now x.proc v.stays.length) i
    rw [get_put, h2, hl1]
    split
    · rfl
    · exact h.nw i
  · have hi : (if i = x.proc then some S.length else now i) = some k := hi
    by_cases e : i = x.proc
    · rw [if_pos e] at hi
      injection hi with hi
      subst hi
      exact ⟨newP x, by rw [← hl2]; simp, rfl, e.symm⟩
    · rw [if_neg e] at hi
      obtain ⟨p, k1, k2⟩ := keep i k e hi
      exact ⟨p, by rw [List.getElem?_append_left (List.getElem?_eq_some_iff.1 k1).1]; exact k1, k2⟩
theorem dup_iff (h : Rel l t P.stays P.live P.now) (hm : Mems P.mems P.stays) (x : Ev) : (∃ o ∈ t.stays, dupJ x o = true) ↔ ptoldB P x = true ∨ ∃ o ∈ P.stays, dupB x o = true := by
  unfold dupJ dupB ptoldB
  constructor
  · rintro ⟨s, hs, hd⟩
    obtain ⟨k, hk⟩ := List.mem_iff_getElem?.1 hs
    have hl : k < P.stays.length := by rw [← h.len]; exact (List.getElem?_eq_some_iff.1 hk).1
    have hp : P.stays[k]? = some P.stays[k] := List.getElem?_eq_getElem hl
    have hr := h.st k _ _ hk hp
    have hm1 := hm.1 k _ hp
    simp only [Bool.and_eq_true, decide_eq_true_eq, Bool.or_eq_true, Bool.not_eq_true', beq_eq_false_iff_ne] at hd
    obtain ⟨e1, e2 | e2⟩ := hd
    · left
      rw [hr.cf, e1] at hm1
      rw [hm1, hr.mem]
      simpa using e2
    · right
      refine ⟨_, List.getElem_mem hl, ?_⟩
      rw [hr.cf, hr.proc]
      simp [e1, e2]
  · rintro (hd | ⟨p, hp, hd⟩)
    · cases hmx : P.mems (conf x) with
      | none => rw [hmx] at hd; cases hd
      | some m =>
        rw [hmx] at hd
        obtain ⟨k, o, hk, e1, e2⟩ := hm.2 _ _ hmx
        obtain ⟨s, hs, hr⟩ := h.get hk
        refine ⟨s, List.mem_of_getElem? hs, ?_⟩
        rw [← hr.cf, ← hr.mem, e1, e2]
        have hd : (!(m == x.mem)) = true := hd
        simp [hd]
    · obtain ⟨k, hk⟩ := List.mem_iff_getElem?.1 hp
      obtain ⟨s, hs, hr⟩ := h.get hk
      refine ⟨s, List.mem_of_getElem? hs, ?_⟩
      rw [← hr.cf, ← hr.proc]
      simp only [Bool.and_eq_true, decide_eq_true_eq] at hd
      simp [hd.1, hd.2]
theorem mems_enter {S1 : List PS} (hm : Mems P.mems P.stays) (hl : S1.length = P.stays.length) (hs : ∀ (k : Nat) (o q : PS), P.stays[k]? = some o → S1[k]? = some q → q.conf = o.conf ∧ q.mem = o.mem) (hd : ∀ o ∈ P.stays, o.conf = conf x → o.mem = x.mem) : Mems (ptell P x).mems (S1 ++ [newP x]) := by
  have hget : ∀ (k : Nat) (q : PS), S1[k]? = some q → ∃ o, P.stays[k]? = some o ∧ q.conf = o.conf ∧ q.mem = o.mem := fun k q hk => by
    have hk2 : k < P.stays.length := by rw [← hl]; exact (List.getElem?_eq_some_iff.1 hk).1
    exact ⟨_, List.getElem?_eq_getElem hk2, hs k _ q (List.getElem?_eq_getElem hk2) hk⟩
  refine ⟨fun k q hk => ?_, fun c m hc => ?_⟩
  · show (if q.conf = conf x then some x.mem else P.mems q.conf) = some q.mem
    rcases Nat.lt_or_ge k S1.length with hj | hj
    · rw [List.getElem?_append_left hj] at hk
      obtain ⟨o, k1, k2, k3⟩ := hget k q hk
      rw [k2, k3]
      split
      · rename_i e
        rw [hd o (List.mem_of_getElem? k1) e]
      · exact hm.1 k o k1
    · rw [List.getElem?_append_right hj] at hk
      have hj2 := (List.getElem?_eq_some_iff.1 hk).1
      rw [show k - S1.length = 0 by simpa using hj2] at hk
      injection hk with hk
      subst hk
      exact if_pos rfl
  · have hc : (if c = conf x then some x.mem else P.mems c) = some m := hc
    by_cases e : c = conf x
    · rw [if_pos e] at hc
      injection hc with hc
      exact ⟨S1.length, newP x, by simp, e.symm, hc⟩
    · rw [if_neg e] at hc
      obtain ⟨k, o, k1, k2, k3⟩ := hm.2 c m hc
      have hk2 : k < S1.length := by rw [hl]; exact (List.getElem?_eq_some_iff.1 k1).1
      obtain ⟨e1, e2⟩ := hs k o S1[k] k1 (List.getElem?_eq_getElem hk2)
      exact ⟨k, S1[k], by rw [List.getElem?_append_left hk2]; exact List.getElem?_eq_getElem hk2, e1.trans k2, e2.trans k3⟩
theorem inv_regular (h : InvT l n t P) (hx : l[n]? = some x) (hk : x.kind = 3) : InvT l (n + 1) (t.regular l n x ((get t.live x.proc).getD false) (get t.now x.proc)) (pregular P x) := by
  have hle := (step_pregular P x).broken
  obtain ⟨h1, h2, h3, h4, h5⟩ := h
  have hk1 : x.kind ≠ 1 := by omega
  have hk2 : x.kind ≠ 2 := by omega
  have hs1 := snd_keep h2 hx (isSend_no hk1)
  have hs2 := sen_keep h3 hx hk2
  have hno := not2 hx hk2
  rw [← h1.lv, ← h1.nw]
  obtain ⟨A, hA⟩ : ∃ A, A = (!P.live x.proc || !hasB x.mem x.proc) := ⟨_, rfl⟩
  obtain ⟨u, hu⟩ : ∃ u, u = (t.br 1 A).dups x t.stays := ⟨_, rfl⟩
  obtain ⟨Z, hZ⟩ : ∃ Z, Z = dupZ x P.stays (brk 1 (brk 1 P.broken A) (ptoldB P x)) := ⟨_, rfl⟩
  have hus : u.stays = t.stays ∧ u.live = t.live ∧ u.now = t.now := by
    obtain ⟨a1, a2, a3, _⟩ := t.br_stays 1 A
    obtain ⟨b1, b2, b3⟩ := dups_now x t.stays (t.br 1 A)
    rw [hu]
    exact ⟨b3.trans a1, b1.trans a2, b2.trans a3⟩
  have hub : ∀ q, badB u q ↔ badB t q ∨ (q = 1 ∧ (A = true ∨ ∃ o ∈ t.stays, dupJ x o = true)) := fun q => by
    rw [hu, badB_dups, badB_br, or_assoc, ← and_or_left]
  have hLZ : ∀ {S2 : Int → Prop}, Led P.broken S2 → Led Z (Or1 (Or1 (Or1 S2 1 (A = true)) 1 (ptoldB P x = true)) 1 (∃ o ∈ P.stays, dupB x o = true)) := fun h => by
    rw [hZ]
    exact led_dup ((h.brk (by decide) _).brk (by decide) _) x P.stays
  have hdm : Mems P.mems P.stays → ¬ (∃ o ∈ t.stays, dupJ x o = true) → ∀ o ∈ P.stays, o.conf = conf x → o.mem = x.mem := fun hm hnd o ho hc => by
    obtain ⟨k, hk⟩ := List.mem_iff_getElem?.1 ho
    obtain ⟨s, hs, hr⟩ := h1.get hk
    refine Classical.byContradiction fun hne => hnd ⟨s, List.mem_of_getElem? hs, ?_⟩
    unfold dupJ
    rw [← hr.cf, ← hr.mem, hc]
    have hne : (o.mem == x.mem) = false := by simpa using hne
    simp [hne]
  have hreg : t.regular l n x (P.live x.proc) (P.now x.proc) = (u.went l x n (P.now x.proc)).enter x (P.now x.proc) := by
    unfold J.regular
    rw [← hA, ← hu]
  have hpreg : pregular P x = { pregMid (ptell P x) x Z with
      now := fun p => if p = x.proc then some P.stays.length else P.now p
      stays := (pregMid (ptell P x) x Z).stays ++ [newP x] } := by
    unfold pregular
    rw [← hA, ← hZ]
  rw [hreg]
  rw [hpreg] at hle ⊢
  cases hn : P.now x.proc with
  | none =>
    have em : pregMid (ptell P x) x Z = { ptell P x with broken := Z } := by
      unfold pregMid
      rw [show (ptell P x).now x.proc = none from hn]
    have ew : u.went l x n none = u := rfl
    rw [em] at hle ⊢
    rw [ew]
    have hb : ∀ q, badB (u.enter x none) q ↔ badB t q ∨ (q = 1 ∧ (A = true ∨ ∃ o ∈ t.stays, dupJ x o = true)) ∨ (q = 2 ∧ False) := fun q => by
      show badB u q ↔ _
      rw [hub]
      simp
    refine ⟨?_, hs1, hs2, bad12 h4 hb, ?_⟩
    · refine rel_enter h1 x none (by rw [hus.1]; exact h1.len) rfl (fun j s p hs hp => h1.st j s p (hus.1 ▸ hs) hp) hus.2.1 hus.2.2 (fun i k _ hi => h1.nowk i k hi)
    · refine bro_next (N1 := A = true ∨ ∃ o ∈ t.stays, dupJ x o = true) h5 ((hb 1).trans (by simp)) hle (fun j1 j2 j3 => ⟨_, hLZ j3, fun hN => ?_, fun hN => ⟨?_, fun q => ?_⟩⟩)
      · rw [dup_iff h1 j2] at hN
        unfold Or1
        rcases hN with hN | hN | hN
        · exact .inl (.inl (.inr ⟨rfl, hN⟩))
        · exact .inl (.inr ⟨rfl, hN⟩)
        · exact .inr ⟨rfl, hN⟩
      · exact mems_enter (S1 := P.stays) j2 rfl (fun k o q k1 k2 => by
          rw [k1] at k2
          injection k2 with k2
          subst k2
          exact ⟨rfl, rfl⟩) (hdm j2 (fun h => hN (.inr h)))
      · obtain ⟨a3, a4, a5, a6⟩ := s_app (S := P.stays) (p := newP x) rfl rfl rfl
        show _ ↔ FS l (n + 1) _ (P.stays ++ [newP x]) q
        rw [fs_next hb (S := P.stays) (A3 := False) (A4 := False) (A5 := False) (A6 := False) (by simp [a3]) (by simp [a4]) (by simp [a5]) (by simp [a6]) q]
        rw [dup_iff h1 j2] at hN ⊢
        unfold Or1
        generalize FS l n t P.stays q = X0
        generalize (∃ o ∈ P.stays, dupB x o = true) = X1 at *
        obtain ⟨n1, n2⟩ := hno
        clear hle h1 h2 h3 h4 h5 hs1 hs2 hu hub hLZ hdm hreg hpreg hb j1 j2 j3 a3 a4 a5 a6 em ew hZ hus
        grind (splits := 60)
  | some k =>
    obtain ⟨p, hp, hw, hpr⟩ := h1.nowk _ _ hn
    obtain ⟨s, hs, hr⟩ := h1.get hp
    have em : pregMid (ptell P x) x Z = { ptell P x with stays := P.stays.set k { p with went := true }, broken := closeTo (P.stays.set k { p with went := true }) { p with went := true } k P.stays.length (wayZ x p Z) } := by
      unfold pregMid
      rw [show (ptell P x).now x.proc = some k from hn]
      simp only
      rw [show (ptell P x).stays[k]? = some p from hp]
      simp only
      unfold pclose
      rw [show ({ ptell P x with broken := wayZ x p Z } : PM).stays[k]? = some p from hp]
      rfl
    have ew : u.went l x n (some k) = ((u.setS k { s with nx := some n }).br 1 (decide (keyZ (x.ce : Int) x.cr s.cf.1 s.cf.2 ≤ 0))).br 1 (wayJ l x s) := by
      unfold J.went
      simp only
      rw [hus.1, hs]
    rw [em] at hle ⊢
    rw [ew]
    obtain ⟨K, hK⟩ : ∃ K, K = decide (keyZ (x.ce : Int) x.cr s.cf.1 s.cf.2 ≤ 0) := ⟨_, rfl⟩
    obtain ⟨W, hW⟩ : ∃ W, W = wayJ l x s := ⟨_, rfl⟩
    rw [← hK, ← hW]
    have hwz : wayZ x p Z = brk 1 (brk 1 Z K) W := by
      have e2 : wayB x p = W := by
        rw [hW]
        unfold wayB wayJ
        rw [hr.tr]
        cases s.tr <;> rfl
      unfold wayZ
      rw [e2, hK, hr.cf]
    obtain ⟨v, hv⟩ : ∃ v, v = ((u.setS k { s with nx := some n }).br 1 K).br 1 W := ⟨_, rfl⟩
    rw [← hv]
    rw [hwz] at hle ⊢
    have hvs : v.stays = t.stays.set k { s with nx := some n } ∧ v.live = t.live ∧ v.now = t.now := by
      obtain ⟨a1, a2, a3, _⟩ := (u.setS k { s with nx := some n }).br_stays 1 K
      obtain ⟨b1, b2, b3, _⟩ := ((u.setS k { s with nx := some n }).br 1 K).br_stays 1 W
      rw [hv]
      refine ⟨(b1.trans a1).trans ?_, (b2.trans a2).trans hus.2.1, (b3.trans a3).trans hus.2.2⟩
      unfold J.setS
      rw [hus.1]
    have hb : ∀ q, badB (v.enter x (some k)) q ↔ badB t q ∨ (q = 1 ∧ ((A = true ∨ ∃ o ∈ t.stays, dupJ x o = true) ∨ K = true ∨ W = true)) ∨ (q = 2 ∧ False) := fun q => by
      show badB v q ↔ _
      rw [hv, badB_br, badB_br]
      show ((badB u q ∨ _) ∨ _) ↔ _
      rw [hub]
      generalize (∃ o ∈ t.stays, dupJ x o = true) = Y
      generalize badB t q = Y2
      simp only [and_false, or_false, and_or_left, or_assoc]
    refine ⟨?_, hs1, hs2, bad12 h4 hb, ?_⟩
    · refine rel_enter (S1 := P.stays.set k { p with went := true }) h1 x (some k) (by rw [hvs.1, List.length_set]; exact h1.len) (by simp) (fun j a b ha hbb => ?_) hvs.2.1 hvs.2.2 (fun i j hi hj => ?_)
      · rw [hvs.1] at ha
        by_cases e : j = k
        · subst e
          rw [set_k hp] at hbb
          have hl2 := (List.getElem?_eq_some_iff.1 hs).1
          rw [show (t.stays.set j { s with nx := some n })[j]? = some { s with nx := some n } by simp [hl2]] at ha
          injection ha with ha
          injection hbb with hbb
          subst ha
          subst hbb
          exact ⟨hr.proc, hr.cf, hr.mem, hr.g0, hr.g1, hr.all, hr.tr, rfl, hr.cnt, hr.tn⟩
        · rw [set_ne e] at hbb
          rw [List.getElem?_set_ne (Ne.symm e)] at ha
          exact h1.st j a b ha hbb
      · obtain ⟨q, e1, e2, e3⟩ := h1.nowk i j hj
        have e : j ≠ k := fun e => by
          subst e
          rw [hp] at e1
          injection e1 with e1
          subst e1
          exact hi (e3.symm.trans hpr)
        exact ⟨q, (set_ne e).trans e1, e2, e3⟩
    · refine bro_next (N1 := (A = true ∨ ∃ o ∈ t.stays, dupJ x o = true) ∨ K = true ∨ W = true) h5 ((hb 1).trans (by simp)) hle (fun j1 j2 j3 => ?_)
      have L1 := ((hLZ j3).brk (r := 1) (by decide) K).brk (r := 1) (by decide) W
      have L2 := led_closeTo L1 (P.stays.set k { p with went := true }) { p with went := true } rfl k P.stays.length (by simp)
      refine ⟨_, L2, fun hN => ?_, fun hN => ⟨?_, fun q => ?_⟩⟩
      · rw [dup_iff h1 j2] at hN
        unfold Or1
        rcases hN with (hN | hN | hN) | hN | hN
        · exact .inl (.inl (.inl (.inl (.inl (.inl (.inr ⟨rfl, hN⟩))))))
        · exact .inl (.inl (.inl (.inl (.inl (.inr ⟨rfl, hN⟩)))))
        · exact .inl (.inl (.inl (.inl (.inr ⟨rfl, hN⟩))))
        · exact .inl (.inl (.inl (.inr ⟨rfl, hN⟩)))
        · exact .inl (.inl (.inr ⟨rfl, hN⟩))
      · refine mems_enter (S1 := P.stays.set k { p with went := true }) j2 (by simp) (fun j o q k1 k2 => ?_) (hdm j2 (fun h => hN (.inl (.inr h))))
        by_cases e : j = k
        · subst e
          rw [set_k hp] at k2
          rw [hp] at k1
          injection k1 with k1
          injection k2 with k2
          subst k1
          subst k2
          exact ⟨rfl, rfl⟩
        · rw [set_ne e, k1] at k2
          injection k2 with k2
          subst k2
          exact ⟨rfl, rfl⟩
      · obtain ⟨a3, a4, a5, a6⟩ := s_app (S := P.stays.set k { p with went := true }) (p := newP x) rfl rfl rfl
        have c6 : (∃ (j : Nat) (o : PS), j < P.stays.length ∧ (P.stays.set k { p with went := true })[j]? = some o ∧ o.conf = ({ p with went := true } : PS).conf ∧ Ow { p with went := true } o) ↔ ∃ (j : Nat) (o : PS), (P.stays.set k { p with went := true })[j]? = some o ∧ o.conf = ({ p with went := true } : PS).conf ∧ Ow { p with went := true } o := by
          constructor
          · rintro ⟨j, o, _, h⟩
            exact ⟨j, o, h⟩
          · rintro ⟨j, o, h, h2⟩
            exact ⟨j, o, by have := (List.getElem?_eq_some_iff.1 h).1; simpa using this, h, h2⟩
        have c5 : (∃ (j : Nat) (o : PS), j < P.stays.length ∧ j ≠ k ∧ (P.stays.set k { p with went := true })[j]? = some o ∧ P5 o { p with went := true }) ↔ ∃ (j : Nat) (o : PS), j ≠ k ∧ (P.stays.set k { p with went := true })[j]? = some o ∧ P5 o { p with went := true } := by
          constructor
          · rintro ⟨j, o, _, h⟩
            exact ⟨j, o, h⟩
          · rintro ⟨j, o, e, h, h2⟩
            exact ⟨j, o, by have := (List.getElem?_eq_some_iff.1 h).1; simpa using this, e, h, h2⟩
        rw [c5, c6]
        show _ ↔ FS l (n + 1) _ (P.stays.set k { p with went := true } ++ [newP x]) q
        rw [fs_next hb (S := P.stays) (A3 := False) (A4 := False) (a3.trans (s3_set hp (by simp))) (a4.trans (s4_set hp (by simp))) (a5.trans (s5_gone hp hw)) (a6.trans (s6_gone hp hw rfl)) q]
        rw [dup_iff h1 j2] at hN ⊢
        unfold Or1
        generalize FS l n t P.stays q = X0
        generalize (∃ o ∈ P.stays, dupB x o = true) = X1 at *
        generalize (∃ (j : Nat) (o : PS), j ≠ k ∧ (P.stays.set k { p with went := true })[j]? = some o ∧ P5 o { p with went := true }) = X2
        generalize (∃ (j : Nat) (o : PS), (P.stays.set k { p with went := true })[j]? = some o ∧ o.conf = ({ p with went := true } : PS).conf ∧ Ow { p with went := true } o) = X3
        obtain ⟨n1, n2⟩ := hno
        clear hle h1 h2 h3 h4 h5 hs1 hs2 hu hub hLZ hdm hreg hpreg hb j1 j2 j3 a3 a4 a5 a6 em ew hZ hus L1 L2 c5 c6 hvs hv hwz hW hK hr hs hp hw hpr hn hA
        simp only [and_or_left]
        grind (splits := 80)
end
end Go.Proofs.YtogagkgkmoppmaaGreatDoor
namespace Go.Proofs.YtogagkgkmoppmaaGreatDoor
set_option linter.unusedVariables false
set_option linter.unusedSimpArgs false
open Go.RowKit GM
/-- of a stay what Evs asks -/
def coreS (s : JS) : Int × ConfK × Nat × List (Nat × Bool) × Option Nat × Option Nat := (s.proc, s.cf, s.mem, s.gots, s.tr, s.nx)
theorem RS.core {l : List Ev} {s s' : JS} {p : PS} (h : RS l s p) (e : coreS s' = coreS s) : RS l s' p := by
  unfold coreS at e
  simp only [Prod.mk.injEq] at e
  obtain ⟨e1, e2, e3, e4, e5, e6⟩ := e
  have hp : ∀ b, partJ l s' b = partJ l s b := fun b => by unfold partJ; rw [e4]
  exact ⟨e1 ▸ h.proc, e2 ▸ h.cf, e3 ▸ h.mem, by rw [hp]; exact h.g0, by rw [hp]; exact h.g1, by rw [e4]; exact h.all, by rw [e5]; exact h.tr, by rw [e6]; exact h.went, h.cnt, h.tn⟩
/-- two judges that differ in what Evs does not ask -/
structure Sim (t t' : J) : Prop where
  stays : t'.stays.map coreS = t.stays.map coreS
  live : t'.live = t.live
  now : t'.now = t.now
  bad : t'.bad = t.bad
theorem Sim.refl (t : J) : Sim t t := ⟨rfl, rfl, rfl, rfl⟩
theorem Sim.wr {t t' : J} (h : Sim t t') (r : Int) (b : Bool) : Sim t (t'.wr r b) := ⟨h.stays, h.live, h.now, h.bad⟩
theorem Sim.setS {t t' : J} (h : Sim t t') {k : Nat} {o s : JS} (hk : t'.stays[k]? = some o) (e : coreS s = coreS o) : Sim t (t'.setS k s) := by
  refine ⟨?_, h.live, h.now, h.bad⟩
  rw [← h.stays]
  show (t'.stays.set k s).map coreS = _
  apply List.ext_getElem?
  intro j
  rw [List.getElem?_map, List.getElem?_map]
  by_cases hj : j = k
  · subst hj
    have hl := (List.getElem?_eq_some_iff.1 hk).1
    rw [hk, show (t'.stays.set j s)[j]? = some s by simp [hl]]
    show some (coreS s) = some (coreS o)
    rw [e]
  · rw [List.getElem?_set_ne (Ne.symm hj)]
theorem sim_upper (l : List Ev) (nm : Nat → List NameK) (t : J) (i : Nat) (x : Ev) (s : Option Nat) : Sim t (t.upper l nm i x s) := by
  unfold J.upper
  split
  · split
    · exact .refl t
    · split
      · exact .refl t
      · rename_i o ho
        exact (Sim.refl t).setS ho rfl
  · split
    · unfold J.mine
      split
      · exact (Sim.refl t).wr 3 true
      · split
        · exact .refl t
        · rename_i o ho
          split
          · exact (Sim.refl t).wr 3 true
          · unfold J.mineTo
            split
            · exact ((Sim.refl t).wr 3 _).setS ho rfl
            · split
              · exact (Sim.refl t).wr 3 _
              · split
                · exact ((Sim.refl t).wr 3 _).setS ho rfl
                · split
                  · exact (Sim.refl t).setS ho rfl
                  · exact .refl t
    · exact .refl t
section
variable {l : List Ev} {nm : Nat → List NameK} {n : Nat} {t : J} {P : PM} {x : Ev}
theorem inv_sim (h : InvT l n t P) {t' : J} (hs : Sim t t') : InvT l n t' P := by
  obtain ⟨h1, h2, h3, h4, h5⟩ := h
  have hlen : t'.stays.length = t.stays.length := by
    have := congrArg List.length hs.stays
    simpa using this
  have hb : ∀ q, badB t' q ↔ badB t q := fun q => by unfold badB; rw [hs.bad]
  refine ⟨⟨hlen.trans h1.len, fun k s p hk hp => ?_, by rw [hs.live]; exact h1.lv, by rw [hs.now]; exact h1.nw, h1.nowk⟩, h2, h3, fun q hq => h4 q ((hb q).1 hq), ?_⟩
  · obtain ⟨s0, hk0, hr⟩ := h1.get hp
    have e := congrArg (fun L : List _ => L[k]?) hs.stays
    simp only [List.getElem?_map, hk, hk0, Option.map_some, Option.some.injEq] at e
    exact hr.core e
  · rcases h5 with ⟨a, b⟩ | ⟨a, b, c⟩
    · exact .inl ⟨(hb 1).2 a, b⟩
    · exact .inr ⟨fun h => a ((hb 1).1 h), b, c.congr fun q => by unfold FS; rw [hb q]⟩
theorem inv_other (h : InvT l n t P) (hx : l[n]? = some x) (hk1 : x.kind ≠ 1) (hk2 : x.kind ≠ 2) : InvT l (n + 1) t P := by
  obtain ⟨h1, h2, h3, h4, h5⟩ := h
  refine ⟨h1, snd_keep h2 hx (isSend_no hk1), sen_keep h3 hx hk2, h4, ?_⟩
  have h := bro_br h5 hx hk2 false
  have e1 : t.br 1 false = t := by unfold J.br; simp
  have e2 : brk 1 P.broken false = P.broken := by unfold brk; simp
  rw [e1, e2] at h
  exact h
theorem inv_kind (h : InvT l n t P) (hx : l[n]? = some x) : InvT l (n + 1) (t.step l nm n x) (pkind P x) := by
  unfold J.step pkind
  by_cases k5 : x.kind = 5
  · have := inv_start h hx (.inl k5)
    rw [show decide (x.kind = 5) = true by simpa using k5] at this
    rw [if_pos k5, if_pos (.inl k5)]
    exact this
  · rw [if_neg k5]
    by_cases k6 : x.kind = 6
    · have := inv_start h hx (.inr k6)
      rw [show decide (x.kind = 5) = false by simpa using k5] at this
      rw [if_pos k6, if_pos (.inr k6)]
      exact this
    · rw [if_neg k6, if_neg (show ¬ (x.kind = 5 ∨ x.kind = 6) from fun h => h.elim k5 k6)]
      by_cases k3 : x.kind = 3
      · rw [if_pos k3, if_pos k3]
        exact inv_regular h hx k3
      · rw [if_neg k3, if_neg k3]
        by_cases k1 : x.kind = 1
        · rw [if_pos (.inl k1), if_pos k1]
          exact inv_send h hx k1
        · rw [if_neg k1]
          by_cases k2 : x.kind = 2
          · rw [if_pos (.inr (.inl k2)), if_pos k2]
            exact inv_deliver h hx k2
          · rw [if_neg k2]
            by_cases k4 : x.kind = 4
            · rw [if_pos (.inr (.inr k4)), if_pos k4]
              exact inv_trans h hx k4
            · rw [if_neg (show ¬ (x.kind = 1 ∨ x.kind = 2 ∨ x.kind = 4) from fun h => h.elim k1 (fun h => h.elim k2 k4)), if_neg k4]
              exact inv_other (inv_sim h (sim_upper l nm t n x _)) hx k1 k2
theorem inv_mark (h : InvT l n t P) : InvT l n t (pmark P) := by
  unfold pmark
  split
  · exact h
  · exact h
theorem inv_add (h : InvT l n t P) (hx : l[n]? = some x) : InvT l (n + 1) (t.step l nm n x) (padd P x) := by
  have h0 : InvT l n t { P with len := P.len + 1 } := h
  exact inv_mark (inv_kind h0 hx)
end
theorem badB_J0 (q : Int) : ¬ badB J0 q := by
  unfold badB J0 GM.get
  simp
theorem inv_zero (l : List Ev) : InvT l 0 J0 PM0 := by
  refine ⟨⟨rfl, fun k s p hs => (by cases hs), fun i => rfl, fun i => rfl, fun i k h => (by cases h)⟩, fun k => rfl, fun h => rfl, fun q hq => absurd hq (badB_J0 q), .inr ⟨badB_J0 1, ⟨fun k o hk => (by cases hk), fun c m hc => (by cases hc)⟩, .inl ⟨rfl, fun q hq => ?_⟩⟩⟩
  rcases hq with h | ⟨_, i, h, _⟩ | ⟨_, ⟨i, h, _⟩ | ⟨k, s, h, _⟩⟩ | ⟨_, k, s, h, _⟩ | ⟨_, i, j, a, b, h, _⟩ | ⟨_, i, j, a, b, h, _⟩
  · exact badB_J0 q h
  · omega
  · omega
  · cases h
  · cases h
  · cases h
  · cases h
theorem inv_all (l : List Ev) (nm : Nat → List NameK) : ∀ n, n ≤ l.length → InvT l n (thru l nm n) (told (l.take n))
  | 0, _ => inv_zero l
  | n + 1, hn => by
    have h := inv_all l nm n (by omega)
    have hx : l[n]? = some l[n] := List.getElem?_eq_getElem (by omega)
    have e : told (l.take (n + 1)) = padd (told (l.take n)) l[n] := by rw [List.take_succ_eq_append_getElem (by omega), told_snoc]
    rw [e]
    have e2 : thru l nm (n + 1) = (thru l nm n).step l nm n l[n] := by
      show (match l[n]? with
        | none => thru l nm n
        | some x => (thru l nm n).step l nm n x) = _
      rw [hx]
    rw [e2]
    exact inv_add h hx
theorem led_first (t : J) : ∀ (n : Nat) (r : Int), 0 < r → Led (firstBad t n r) (fun q => r ≤ q ∧ q < r + n ∧ badB t q)
  | 0, r, _ => .inl ⟨rfl, fun q hq => by omega⟩
  | n + 1, r, hr => by
    show Led (if (GM.get t.bad r).getD false = true then r else firstBad t n (r + 1)) _
    by_cases hb : (GM.get t.bad r).getD false = true
    · rw [if_pos hb]
      exact .inr ⟨hr, ⟨Int.le_refl _, by omega, hb⟩, fun q hq => hq.1⟩
    · rw [if_neg hb]
      refine (led_first t n (r + 1) (by omega)).congr fun q => ?_
      constructor
      · rintro ⟨h1, h2, h3⟩
        exact ⟨by omega, by omega, h3⟩
      · rintro ⟨h1, h2, h3⟩
        have : q ≠ r := fun e => hb (e ▸ h3)
        exact ⟨by omega, by omega, h3⟩
section
variable {l : List Ev}
abbrev allG (l : List Ev) (L : List (Nat × Bool)) : List Msg := L.map fun g => bare (gotM l g)
theorem key_iff (L : List (Nat × Bool)) : (∃ (i : Nat) (g : Nat × Bool), L[i]? = some g ∧ Key1 l L i g) ↔ Ord3 (allG l L) := by
  unfold Key1 Ord3 allG
  have hl : ∀ a b : Msg, lessJ a b = true ↔ lessM (bare a) (bare b) := fun a b => by
    unfold lessJ lessM
    rw [decide_eq_true_eq]
    exact Iff.rfl
  constructor
  · rintro ⟨i, g, hg, p, h0, hp, h⟩
    refine ⟨i - 1, _, _, by rw [List.getElem?_map, hp]; rfl, by rw [show i - 1 + 1 = i by omega, List.getElem?_map, hg]; rfl, (hl _ _).1 h⟩
  · rintro ⟨i, y, z, h1, h2, h3⟩
    rw [List.getElem?_map] at h1 h2
    obtain ⟨p, hp, rfl⟩ := Option.map_eq_some_iff.1 h1
    obtain ⟨g, hg, rfl⟩ := Option.map_eq_some_iff.1 h2
    exact ⟨i + 1, g, hg, p, by omega, hp, (hl _ _).2 h3⟩
theorem cntG_F (L : List (Nat × Bool)) (q : Int) : cntG l L q = cntF (allG l L) q := by
  unfold cntG cntF allG
  rw [List.filter_map, List.length_map]
  rfl
theorem dep_iff (L : List (Nat × Bool)) : (∃ (i : Nat) (g : Nat × Bool), L[i]? = some g ∧ Dep l (L.take i) (gotM l g).ds) ↔ Dep4 (allG l L) := by
  unfold Dep Dep4 DepM
  constructor
  · rintro ⟨i, g, hg, d, h1, h2⟩
    refine ⟨i, bare (gotM l g), by unfold allG; rw [List.getElem?_map, hg]; rfl, d, h1, ?_⟩
    rw [cntG_F] at h2
    unfold allG at h2 ⊢
    rw [← List.map_take]
    exact h2
  · rintro ⟨i, z, hz, d, h1, h2⟩
    unfold allG at hz h2
    rw [List.getElem?_map] at hz
    obtain ⟨g, hg, rfl⟩ := Option.map_eq_some_iff.1 hz
    rw [← List.map_take] at h2
    exact ⟨i, g, hg, d, h1, by rw [cntG_F]; exact h2⟩
theorem par_iff {a b : JS} {p q : PS} (ha : RS l a p) (hb : RS l b q) : Par l a b ↔ P5 p q := by
  have hnm : ∀ o : JS, diffJ.newMem l o = (match o.tr with
    | none => 0
    | some e => evM l e) := fun _ => rfl
  unfold Par P5 pairJ diffJ
  rw [hnm, hnm, ha.cf, hb.cf, ha.proc, hb.proc, ha.went, hb.went, ha.tr, hb.tr, ha.g0, hb.g0, ha.g1, hb.g1, sameL_bare, sameL_bare]
  cases a.tr with
  | none => simp
  | some e =>
    cases b.tr with
    | none => simp
    | some f =>
      simp only [Option.map_some, Option.some.injEq, exists_eq_left', Bool.and_eq_true, decide_eq_true_eq, Bool.not_eq_true', decide_eq_false_iff_not, exists_and_left, Bool.or_assoc]
      constructor
      · rintro ⟨⟨⟨⟨⟨h1, h2⟩, h3⟩, h4⟩, h5⟩, h6⟩
        exact ⟨h1, h2, h3, h4, h5, h6⟩
      · rintro ⟨h1, h2, h3, h4, h5, h6⟩
        exact ⟨⟨⟨⟨⟨h1, h2⟩, h3⟩, h4⟩, h5⟩, h6⟩
theorem saf_iff {a b : JS} {p q : PS} (ha : RS l a p) (hb : RS l b q) : Saf l a b ↔ Ow q p := by
  have hhas : ∀ m, (q.p0 ++ q.p1).any (sameM (bare m)) = hasJ l b m := fun m => by
    rw [hb.all, List.any_map]
    unfold hasJ
    congr 1
    funext g
    show sameM (bare m) (bare (gotM l g)) = sameM (gotM l g) m
    rw [sameM_bare, sameM_symm]
  have hmem : ∀ (c : Bool) (m : Msg), m ∈ (partJ l a c).map bare ↔ ∃ g ∈ a.gots, g.2 = c ∧ bare (gotM l g) = m := fun c m => by
    unfold partJ
    simp only [List.mem_map, List.mem_filter, beq_iff_eq]
    constructor
    · rintro ⟨y, ⟨g, ⟨h1, h2⟩, rfl⟩, rfl⟩
      exact ⟨g, h1, h2, rfl⟩
    · rintro ⟨g, h1, h2, rfl⟩
      exact ⟨_, ⟨g, ⟨h1, h2⟩, rfl⟩, rfl⟩
  have hown : ∀ (c : Bool) (mem : Nat), OwL q.proc (q.p0 ++ q.p1) mem ((partJ l a c).map bare) ↔ ∃ g ∈ a.gots, g.2 = c ∧ ((gotM l g).service = 2 ∧ hasB mem b.proc = true) ∧ hasJ l b (gotM l g) = false := fun c mem => by
    unfold OwL
    constructor
    · rintro ⟨m, hm, h1, h2⟩
      obtain ⟨g, k1, k2, rfl⟩ := (hmem c m).1 hm
      exact ⟨g, k1, k2, by rw [← hb.proc]; exact h1, by rw [← hhas]; exact h2⟩
    · rintro ⟨g, k1, k2, h1, h2⟩
      exact ⟨_, (hmem c _).2 ⟨g, k1, k2, rfl⟩, by rw [hb.proc]; exact h1, by rw [hhas]; exact h2⟩
  unfold Saf Ow
  rw [ha.g0, ha.g1, hown, ha.mem]
  have htn := ha.tn
  rw [ha.tr, ha.g1] at htn
  rw [ha.tr]
  constructor
  · rintro ⟨i, g, hg, ⟨h1, h2⟩, h3⟩
    have hgm := List.mem_of_getElem? hg
    unfold memJ at h2
    cases hg2 : g.2 with
    | false =>
      rw [hg2] at h2
      exact .inl ⟨g, hgm, hg2, ⟨h1, h2⟩, h3⟩
    | true =>
      rw [hg2, if_pos rfl] at h2
      cases htr : a.tr with
      | none =>
        rw [htr] at htn
        have hin := (hmem true _).2 ⟨g, hgm, hg2, rfl⟩
        rw [htn rfl] at hin
        cases hin
      | some e =>
        rw [htr] at h2
        exact .inr ⟨_, rfl, (hown true _).2 ⟨g, hgm, hg2, ⟨h1, h2⟩, h3⟩⟩
  · rintro (⟨g, hgm, hg2, ⟨h1, h2⟩, h3⟩ | ⟨t, ht, h⟩)
    · obtain ⟨i, hi⟩ := List.mem_iff_getElem?.1 hgm
      exact ⟨i, g, hi, ⟨h1, by unfold memJ; rw [hg2]; exact h2⟩, h3⟩
    · obtain ⟨g, hgm, hg2, ⟨h1, h2⟩, h3⟩ := (hown true _).1 h
      obtain ⟨i, hi⟩ := List.mem_iff_getElem?.1 hgm
      obtain ⟨e, he, rfl⟩ := Option.map_eq_some_iff.1 ht
      exact ⟨i, g, hi, ⟨h1, by unfold memJ; rw [hg2, if_pos rfl, he]; exact h2⟩, h3⟩
theorem found_iff {t : J} {S : List PS} {live : Int → Bool} {now : Int → Option Nat} (h : Rel l t S live now) (n : Nat) (q : Int) : (badB t q ∨ Found l t n q) ↔ FS l n t S q := by
  have hto : ∀ {k : Nat} {s : JS}, t.stays[k]? = some s → ∃ p, S[k]? = some p ∧ RS l s p := fun {k s} hk => by
    have hl : k < S.length := by rw [← h.len]; exact (List.getElem?_eq_some_iff.1 hk).1
    exact ⟨_, List.getElem?_eq_getElem hl, h.st k s _ hk (List.getElem?_eq_getElem hl)⟩
  have e3 : (∃ (k : Nat) (s : JS), t.stays[k]? = some s ∧ ∃ (i : Nat) (g : Nat × Bool), s.gots[i]? = some g ∧ Key1 l s.gots i g) ↔ S3 S := by
    unfold S3
    constructor
    · rintro ⟨k, s, hk, hh⟩
      obtain ⟨p, hp, hr⟩ := hto hk
      exact ⟨k, p, hp, by rw [hr.all]; exact (key_iff _).1 hh⟩
    · rintro ⟨k, p, hp, hh⟩
      obtain ⟨s, hs, hr⟩ := h.get hp
      exact ⟨k, s, hs, (key_iff _).2 (by rw [hr.all] at hh; exact hh)⟩
  have e4 : (∃ (k : Nat) (s : JS), t.stays[k]? = some s ∧ ∃ (i : Nat) (g : Nat × Bool), s.gots[i]? = some g ∧ Dep l (s.gots.take i) (gotM l g).ds) ↔ S4 S := by
    unfold S4
    constructor
    · rintro ⟨k, s, hk, hh⟩
      obtain ⟨p, hp, hr⟩ := hto hk
      exact ⟨k, p, hp, by rw [hr.all]; exact (dep_iff _).1 hh⟩
    · rintro ⟨k, p, hp, hh⟩
      obtain ⟨s, hs, hr⟩ := h.get hp
      exact ⟨k, s, hs, (dep_iff _).2 (by rw [hr.all] at hh; exact hh)⟩
  have e5 : (∃ (i j : Nat) (a b : JS), j < i ∧ t.stays[i]? = some a ∧ t.stays[j]? = some b ∧ Par l a b) ↔ S5 S := by
    unfold S5
    constructor
    · rintro ⟨i, j, a, b, hij, hi, hj, hh⟩
      obtain ⟨p, hp, hr⟩ := hto hi
      obtain ⟨q, hq, hr2⟩ := hto hj
      exact ⟨i, j, p, q, hp, hq, by omega, (par_iff hr hr2).1 hh⟩
    · rintro ⟨i, j, p, q, hp, hq, hij, hh⟩
      obtain ⟨a, ha, hr⟩ := h.get hp
      obtain ⟨b, hb, hr2⟩ := h.get hq
      rcases Nat.lt_or_gt_of_ne hij with hlt | hlt
      · exact ⟨j, i, b, a, hlt, hb, ha, (par_iff hr2 hr).2 hh.symm⟩
      · exact ⟨i, j, a, b, hlt, ha, hb, (par_iff hr hr2).2 hh⟩
  have e6 : (∃ (i j : Nat) (a b : JS), t.stays[i]? = some a ∧ t.stays[j]? = some b ∧ (a.cf = b.cf ∧ b.nx.isSome = true) ∧ Saf l a b) ↔ S6 S := by
    unfold S6
    constructor
    · rintro ⟨i, j, a, b, hi, hj, ⟨h1, h2⟩, hh⟩
      obtain ⟨p, hp, hr⟩ := hto hi
      obtain ⟨q, hq, hr2⟩ := hto hj
      exact ⟨i, j, p, q, hp, hq, ⟨by rw [hr.cf, hr2.cf]; exact h1, by rw [hr2.went]; exact h2⟩, (saf_iff hr hr2).1 hh⟩
    · rintro ⟨i, j, p, q, hp, hq, ⟨h1, h2⟩, hh⟩
      obtain ⟨a, ha, hr⟩ := h.get hp
      obtain ⟨b, hb, hr2⟩ := h.get hq
      exact ⟨i, j, a, b, ha, hb, ⟨by rw [← hr.cf, ← hr2.cf]; exact h1, by rw [← hr2.went]; exact h2⟩, (saf_iff hr hr2).2 hh⟩
  unfold Found Tog FS
  rw [← e3, ← e4, ← e5, ← e6]
  have eo : (∃ (k : Nat) (s : JS), t.stays[k]? = some s ∧ Onc l s q) ↔ (q = 3 ∧ ∃ (k : Nat) (s : JS), t.stays[k]? = some s ∧ ∃ (i : Nat) (g : Nat × Bool), s.gots[i]? = some g ∧ Key1 l s.gots i g) ∨ (q = 4 ∧ ∃ (k : Nat) (s : JS), t.stays[k]? = some s ∧ ∃ (i : Nat) (g : Nat × Bool), s.gots[i]? = some g ∧ Dep l (s.gots.take i) (gotM l g).ds) := by
    unfold Onc
    constructor
    · rintro ⟨k, s, hk, i, g, hg, ⟨h1, h2⟩ | ⟨h1, h2⟩⟩
      · exact .inl ⟨h1, k, s, hk, i, g, hg, h2⟩
      · exact .inr ⟨h1, k, s, hk, i, g, hg, h2⟩
    · rintro (⟨h1, k, s, hk, i, g, hg, h2⟩ | ⟨h1, k, s, hk, i, g, hg, h2⟩)
      · exact ⟨k, s, hk, i, g, hg, .inl ⟨h1, h2⟩⟩
      · exact ⟨k, s, hk, i, g, hg, .inr ⟨h1, h2⟩⟩
  rw [eo]
  clear eo e3 e4 e5 e6 hto h
  generalize (∃ i, i < n ∧ Beh l i) = X1
  generalize (∃ i, i < n ∧ Twi l i) = X2
  generalize (∃ (k : Nat) (s : JS), t.stays[k]? = some s ∧ ∃ (i : Nat) (g : Nat × Bool), s.gots[i]? = some g ∧ Key1 l s.gots i g) = X3
  generalize (∃ (k : Nat) (s : JS), t.stays[k]? = some s ∧ ∃ (i : Nat) (g : Nat × Bool), s.gots[i]? = some g ∧ Dep l (s.gots.take i) (gotM l g).ds) = X4
  generalize (∃ (i j : Nat) (a b : JS), j < i ∧ t.stays[i]? = some a ∧ t.stays[j]? = some b ∧ Par l a b) = X5
  generalize (∃ (i j : Nat) (a b : JS), t.stays[i]? = some a ∧ t.stays[j]? = some b ∧ (a.cf = b.cf ∧ b.nx.isSome = true) ∧ Saf l a b) = X6
  generalize badB t q = X0
  simp only [and_or_left]
  grind (splits := 60)
end
/-- the law, in plain -/
theorem told_evs (l : List Ev) (nm : Nat → List NameK) : (told l).broken = evsJ l nm := by
  obtain ⟨h1, _, _, h4, h5⟩ := inv_all l nm l.length (Nat.le_refl _)
  rw [List.take_length] at h1 h5
  have hf : ∀ q, badB (judged l nm) q ↔ FS l l.length (thru l nm l.length) (told l).stays q := fun q => (judged_bad l nm q).trans (found_iff h1 l.length q)
  have hE : Led (evsJ l nm) (fun q => 1 ≤ q ∧ q < 1 + (6 : Nat) ∧ badB (judged l nm) q) := led_first (judged l nm) 6 1 (by decide)
  rcases h5 with ⟨a, b⟩ | ⟨a, b, c⟩
  · rw [b]
    exact (hE.one ⟨by omega, by omega, (hf 1).2 (.inl a)⟩).symm
  · refine c.uniq (hE.congr fun q => ?_)
    rw [hf q]
    constructor
    · exact fun h => h.2.2
    · intro h
      refine ⟨?_, ?_, h⟩
      · rcases h with h | ⟨h, _⟩ | ⟨h, _⟩ | ⟨h, _⟩ | ⟨h, _⟩ | ⟨h, _⟩
        · have := h4 q h; omega
        all_goals omega
      · rcases h with h | ⟨h, _⟩ | ⟨h, _⟩ | ⟨h, _⟩ | ⟨h, _⟩ | ⟨h, _⟩
        · have := h4 q h; omega
        all_goals omega
end Go.Proofs.YtogagkgkmoppmaaGreatDoor
namespace Go.Proofs.YtogagkgkmoppmaaGreatDoor
set_option linter.unusedVariables false
set_option linter.unusedSimpArgs false
open Go.RowKit GM
set_option maxRecDepth 100000 in
set_option maxHeartbeats 8000000 in
theorem erased_none {wB w : World} {g o : Nat} {l : List Ev} {nm : Nat → List NameK} {R : List Pc} (h : At wB R w) (hT : Tr wB g o l nm) (ad : Option Addr) (had : 0 < l.length → ad = some ⟨g, o, none⟩) (cap : Nat) (hl : l.length ≤ 5000) (p : Int) (hs : ∀ s ∈ (thru l nm l.length).stays, s.nx = none) :
    Calls Tryz.prog 9 #[.slice ad l.length cap, .int .i64 p] w fun e w' => e = .returned (.tuple #[.slice none 0 0, .slice none 0 0]) ∧ At wB R w' := by
  have HR := Lib.hid (through_any h hT ad had cap hl)
  obtain ⟨t, ht⟩ : ∃ t, t = thru l nm l.length := ⟨_, rfl⟩
  have HT := Lib.hid (And.intro hl hs)
  rw [← ht] at HT HR
  clear h hT had hl hs ht
  generalize hln : l.length = ln at *
  have HLN := Lib.hid hln
  clear hln
  go_enter Tryz.func9, Tryz.ntmps9
  go_wp2_with fail
  refine HR.out.mono ?_
  rintro e w1 ⟨H, rfl, M, hA, hJ, hP, hH⟩
  obtain ⟨TT, hTT⟩ : ∃ T, T = H.T := ⟨_, rfl⟩
  obtain ⟨ns, hns⟩ : ∃ k, k = M.stays.length := ⟨_, rfl⟩
  have hn9 : ns ≤ 5000 := by rw [hns]; exact Nat.le_trans hJ.n HT.out.1
  obtain ⟨sa, hsa⟩ : ∃ k, k = M.sa := ⟨_, rfl⟩
  obtain ⟨sc, hsc⟩ : ∃ k, k = M.sc := ⟨_, rfl⟩
  have c1 : w1.cell? ⟨TT, 1, none⟩ = some (.slice sa ns sc) := by
    rw [hTT, ← hH, hsa, hns, hsc]
    exact tcell hA.own 1 (v := .slice M.sa M.stays.length M.sc) rfl ⟨w1, br w1⟩
  have hnx : ∀ x ∈ M.stays, x.s.nx = none := fun x hx => HT.out.2 x.s (by rw [← hP]; exact List.mem_map_of_mem hx)
  have H0 := Lib.hid hA
  have HH := Lib.hid (And.intro hnx (And.intro hns hsa))
  rw [← hTT]
  clear hA hJ hP hH hTT hns hsa hsc hnx HR
  go_wp2_with fail
  clear c1
  go_loopw [6, 7, 20] (fun a b i wr => ∃ k : Nat, k ≤ ns ∧ a = .slice none 0 0 ∧ b = .slice none 0 0 ∧ i = .int .i64 (k : Int) ∧ Hid (At wB (jparts g o l M ++ R) wr)) (fun _ _ i _ => ns - (intOf i).toNat)
  case atStart => exact ⟨0, by omega, rfl, rfl, rfl, H0⟩
  case round =>
    obtain ⟨k, hk, rfl, rfl, rfl, HW⟩ := hrel
    by_cases hkn : k < ns
    · have hr1 : decide ((k : Int) < (ns : Int)) = true := by rw [decide_eq_true_eq]; omega
      have hr2 : decide (k < ns) = true := by rw [decide_eq_true_eq]; omega
      have hr3 : (k : Int) < (ns : Int) := by omega
      have hkl : k < M.stays.length := by rw [← HH.out.2.1]; exact hkn
      obtain ⟨b, hsb, _, hcell⟩ := jown_nth (M := M) HW.out.own hkl
      obtain ⟨y, hy⟩ : ∃ y, y = M.stays[k] := ⟨_, rfl⟩
      have hym : y ∈ M.stays := hy ▸ List.getElem_mem hkl
      rw [← hy] at hcell
      obtain ⟨yb, hyb⟩ : ∃ z, z = y.b := ⟨_, rfl⟩
      unfold ptrV at hcell
      rw [← hyb] at hcell
      have hst := jown_st HW.out.own hym
      rw [← hyb] at hst
      have y0 : wr.cell? ⟨yb, 0, none⟩ = some (.int .i64 y.s.proc) := cell_of_row _ _ 0 _ _ _ hst
      have y6 : wr.cell? ⟨yb, 6, none⟩ = some (.pointer none) := by
        have h : wr.cell? ⟨yb, 6, none⟩ = some (evP g o y.s.nx) := cell_of_row _ _ 6 _ _ _ hst
        rw [HH.out.1 y hym] at h
        exact h
      have hsa' : sa = some ⟨b, 0, none⟩ := HH.out.2.2.trans hsb
      have HKN := Lib.hid hkn
      rw [hsa']
      clear hkl hsb hy hym hyb hst hsa' hkn H0
      generalize y.s.proc = yp at *
      by_cases hpp : yp = p
      · have d1 : (yp != p) = false := by simpa using hpp
        clear hpp
        go_wp2_with fail
        exact ⟨⟨k + 1, HKN.out, rfl, rfl, by go_num, HW⟩, by have := HKN.out; simp [intOf]; omega⟩
      · have d1 : (yp != p) = true := by simpa using hpp
        clear hpp
        go_wp2_with fail
        exact ⟨⟨k + 1, HKN.out, rfl, rfl, by go_num, HW⟩, by have := HKN.out; simp [intOf]; omega⟩
    · have hr1 : decide ((k : Int) < (ns : Int)) = false := by rw [decide_eq_false_iff_not]; omega
      have hr2 : decide (k < ns) = false := by rw [decide_eq_false_iff_not]; omega
      have HE := Lib.hid (show At wB R wr from ⟨HW.out.own.sub (List.sublist_append_right _ _), HW.out.bel⟩)
      clear HW H0 hkn
      go_wp2_with fail
      go_ret2
      exact ⟨rfl, HE.out⟩
end Go.Proofs.YtogagkgkmoppmaaGreatDoor
namespace Go.Proofs.YtogagkgkmoppmaaGreatDoor
set_option linter.unusedVariables false
set_option linter.unusedSimpArgs false
open Go.RowKit GM
def mA : Msg := ⟨0, 1, 1, 0, [], ⟨#[]⟩, none, 0⟩
def eA1 : Ev := ⟨5, 0, 0, 0, 0, 0, 0, zeroM, 0, 0, 0, 0, none, 0, 0, ⟨#[]⟩⟩
def eA2 : Ev := ⟨3, 0, 1, 0, 0, 0, 1, zeroM, 0, 0, 0, 0, none, 0, 0, ⟨#[]⟩⟩
def eA3 : Ev := ⟨1, 0, 1, 0, 0, 0, 0, mA, 0, 0, 0, 0, none, 0, 0, ⟨#[]⟩⟩
def eA4 : Ev := ⟨2, 0, 1, 0, 0, 0, 0, mA, 0, 0, 0, 0, none, 0, 0, ⟨#[]⟩⟩
def eA9 : Ev := ⟨9, 0, 0, 0, 0, 0, 0, zeroM, 0, 0, 0, 0, none, 0, 0, ⟨#[]⟩⟩
def lA : List Ev := [eA1, eA2, eA3, eA4]
def nmA : Nat → List NameK := fun _ => []
theorem evsA0 : evsJ [] nmA = 0 := by kernel_rfl
theorem evsA4 : evsJ lA nmA = 0 := by kernel_rfl
theorem evsA2 : evsJ [eA1, eA2] nmA = 0 := by kernel_rfl
theorem evsA3 : evsJ [eA1, eA2, eA4] nmA = 2 := by kernel_rfl
theorem evsA1 : evsJ [eA2, eA3, eA4] nmA = 1 := by kernel_rfl
theorem namA9 : (thru [eA9] nmA 1).named = 3 := by kernel_rfl
theorem namA0 : (thru [] nmA 0).named = 0 := by kernel_rfl
theorem nxA : (thru lA nmA 4).stays.map (·.nx) = [none] := by kernel_rfl
abbrev rowsE (l : List Ev) : List Value := l.flatMap fun x => (evA x).toList
theorem at_nilA (w : World) : At w [] w := ⟨⟨fun p hp => (by cases hp), fun p hp => (by cases hp), List.Pairwise.nil⟩, br w⟩
def rows2 : List Value := rowsE [eA1, eA2]
theorem rows2_one : ∀ u ∈ rows2, u.oneCell' = true := by decide
theorem evA4_one : ∀ u ∈ (evA eA4).toList.toArray.toList, u.oneCell' = true := by decide
theorem evA_len (x : Ev) : (evA x).toList.length = 19 := rfl
theorem rowsE_at : ∀ (l : List Ev) (i : Nat) (hi : i < l.length) (j : Nat) (u : Value), (evA l[i]).toList[j]? = some u → (rowsE l)[i * 19 + j]? = some u
  | x :: l, 0, hi, j, u, h => by
    have hj : j < 19 := by
      have h := (List.getElem?_eq_some_iff.1 h).1
      rw [evA_len] at h
      exact h
    show ((evA x).toList ++ rowsE l)[0 * 19 + j]? = some u
    rw [List.getElem?_append_left (by rw [evA_len]; omega), Nat.zero_mul, Nat.zero_add]
    exact h
  | x :: l, i + 1, hi, j, u, h => by
    show ((evA x).toList ++ rowsE l)[(i + 1) * 19 + j]? = some u
    rw [List.getElem?_append_right (by rw [evA_len]; omega), evA_len, show (i + 1) * 19 + j - 19 = i * 19 + j by omega]
    exact rowsE_at l i (by simpa using hi) j u h
def Bare (l : List Ev) : Prop := ∀ x ∈ l, x.m.ds = [] ∧ x.m.pay = ⟨#[]⟩ ∧ x.st = ⟨#[]⟩ ∧ x.nl = 0
theorem tr_cells {w : World} {g o : Nat} {l : List Ev} (hg : g < w.heap.size) (hl : l.length ≤ 500) (hb : Bare l) (hr : ∀ (j : Nat) (u : Value), (rowsE l)[j]? = some u → w.cell? ⟨g, o + j, none⟩ = some u) : Tr w g o l nmA := by
  refine ⟨by omega, fun i hi => ⟨hg, fun j u hu => ?_, ?_⟩, fun i hi => ?_⟩
  · rw [Nat.add_assoc]
    exact hr _ u (rowsE_at l i hi j u hu)
  · obtain ⟨h1, h2, h3, h4⟩ := hb l[i] (List.getElem_mem hi)
    refine ⟨?_, ?_, ?_, ?_, ?_, ?_⟩
    · rw [h1]
      exact ⟨rfl, fun h => by simp at h⟩
    · rw [h1]
      intro q hq
      cases hq
    · rw [h1]
      decide
    · rw [h2]
      decide
    · rw [h3]
      decide
    · rw [h4]
      decide
  · obtain ⟨h1, h2, h3, h4⟩ := hb l[i] (List.getElem_mem hi)
    rw [h4]
    exact ⟨rfl, rfl, fun h => by simp at h⟩
theorem bareA : Bare [eA1, eA2, eA3, eA4, eA9] := by
  intro x hx
  simp only [List.mem_cons, List.not_mem_nil, or_false] at hx
  rcases hx with rfl | rfl | rfl | rfl | rfl <;> exact ⟨rfl, rfl, rfl, rfl⟩
theorem Bare.sub {l l' : List Ev} (h : Bare l) (hs : ∀ x ∈ l', x ∈ l) : Bare l' := fun x hx => h x (hs x hx)
theorem evs_at {w : World} {g o n cap : Nat} {l : List Ev} {z : Int} (hT : Tr w g o l nmA) (hl : l.length ≤ 500) (hn : l.length = n) (hz : evsJ l nmA = z) : Calls Tryz.prog 7 #[.slice (some ⟨g, o, none⟩) n cap] w fun e w' => e = .returned (.int .i64 z) ∧ Below w.heap.size w w' := by
  subst hn
  exact (evs_any (at_nilA w) hT (some ⟨g, o, none⟩) (fun _ => rfl) cap (by omega)).mono fun e w' ⟨h1, h2⟩ => ⟨by rw [h1, hz], h2.bel⟩
theorem tr_nil (w : World) : Tr w 0 0 [] nmA := ⟨by simp, fun i hi => by simp at hi, fun i hi => by simp at hi⟩
theorem evs_nil (w : World) : Calls Tryz.prog 7 #[.slice none 0 0] w fun e w' => e = .returned (.int .i64 0) ∧ Below w.heap.size w w' :=
  (evs_any (l := []) (at_nilA w) (tr_nil w) none (fun h => by simp at h) 0 (by simp)).mono fun e w' ⟨h1, h2⟩ => ⟨by rw [h1, evsA0], h2.bel⟩
theorem views_nil (w : World) : Calls Tryz.prog 8 #[.slice none 0 0, .int .i64 3] w fun e w' => e = .returned (.int .i64 0) ∧ Below w.heap.size w w' :=
  (views_any (l := []) (at_nilA w) (tr_nil w) none (fun h => by simp at h) 0 (by simp) (fun x hx => by cases hx) (fun x hx => by cases hx) rfl 3 (by decide) (by decide)).mono fun e w' ⟨h1, h2⟩ => ⟨by rw [h1]; exact congrArg _ (congrArg _ namA0), h2.bel⟩
theorem evs_row (w : World) (ad : Option Addr) (cap : Nat) {b : Nat} (h : w.ownsRow b 36 19 (.slice ad 3 cap) 3 (rowsE [eA1, eA2, eA4])) : Calls Tryz.prog 7 #[.slice ad 3 cap] w fun e w' => e = .returned (.int .i64 2) ∧ Below w.heap.size w w' := by
  obtain ⟨g, c, hv, _, hlt⟩ := h.form (by decide)
  injection hv with e1 e2 e3
  subst e1
  refine evs_at (l := [eA1, eA2, eA4]) (tr_cells hlt (by decide) (bareA.sub (by simp)) (fun j u hu => ?_)) (by decide) rfl evsA3
  have := h.cells (g := g) rfl j u hu
  rwa [show (⟨g, 0, none⟩ : Addr).add j = ⟨g, 0 + j, none⟩ from by unfold Addr.add; split <;> simp_all] at this
theorem views_row (w : World) : Calls Tryz.prog 8 #[.slice (some ⟨w.heap.size, 0, none⟩) 1 1, .int .i64 1] (w.alloc (.cells (evA eA9) 36)) fun e w' => e = .returned (.int .i64 3) ∧ Below (w.alloc (.cells (evA eA9) 36)).heap.size (w.alloc (.cells (evA eA9) 36)) w' := by
  have hT : Tr (w.alloc (.cells (evA eA9) 36)) w.heap.size 0 [eA9] nmA := tr_cells (by simp) (by decide) (bareA.sub (by simp)) (fun j u hu => by
    rw [cell_of_row _ _ _ _ _ _ (heap_alloc_new w _), Nat.zero_add]
    have h : (rowsE [eA9]) = (evA eA9).toList := rfl
    rw [h] at hu
    simpa using hu)
  exact (views_any (l := [eA9]) (at_nilA _) hT (some ⟨w.heap.size, 0, none⟩) (fun _ => rfl) 1 (by decide) (fun x hx => by
    obtain rfl := List.mem_singleton.1 hx
    decide) (fun x hx _ => by
    obtain rfl := List.mem_singleton.1 hx
    decide) rfl 1 (by decide) (by decide)).mono fun e w' ⟨h1, h2⟩ => ⟨by rw [h1]; exact congrArg _ (congrArg _ namA9), h2.bel⟩
def rowA : Array Value := #[.int .i64 5, .int .i64 0, .int .u64 0, .int .i64 0, .int .u64 0, .int .i64 0, .int .u64 0, .int .i64 0, .int .u32 0, .int .u64 0, .int .i64 0, .slice none 0 0, .string ⟨#[]⟩, .int .u64 0, .int .u64 0, .int .i64 0, .int .u64 0, .slice none 0 0, .string ⟨#[]⟩, .int .i64 3, .int .i64 0, .int .u64 1, .int .i64 0, .int .u64 0, .int .i64 0, .int .u64 1, .int .i64 0, .int .u32 0, .int .u64 0, .int .i64 0, .slice none 0 0, .string ⟨#[]⟩, .int .u64 0, .int .u64 0, .int .i64 0, .int .u64 0, .slice none 0 0, .string ⟨#[]⟩, .int .i64 1, .int .i64 0, .int .u64 1, .int .i64 0, .int .u64 0, .int .i64 0, .int .u64 0, .int .i64 0, .int .u32 1, .int .u64 1, .int .i64 0, .slice none 0 0, .string ⟨#[]⟩, .int .u64 0, .int .u64 0, .int .i64 0, .int .u64 0, .slice none 0 0, .string ⟨#[]⟩, .int .i64 2, .int .i64 0, .int .u64 1, .int .i64 0, .int .u64 0, .int .i64 0, .int .u64 0, .int .i64 0, .int .u32 1, .int .u64 1, .int .i64 0, .slice none 0 0, .string ⟨#[]⟩, .int .u64 0, .int .u64 0, .int .i64 0, .int .u64 0, .slice none 0 0, .string ⟨#[]⟩]
theorem rowA_eq : rowA.toList = rowsE lA := rfl
theorem infoE27 : (Tryz.prog.info? 36).map (fun i => (i.zero, i.size, i.bytes)) = some (some (.agg (evA ⟨0, 0, 0, 0, 0, 0, 0, zeroM, 0, 0, 0, 0, none, 0, 0, ⟨#[]⟩⟩)), 19, 200) := by kernel_rfl
end Go.Proofs.YtogagkgkmoppmaaGreatDoor
