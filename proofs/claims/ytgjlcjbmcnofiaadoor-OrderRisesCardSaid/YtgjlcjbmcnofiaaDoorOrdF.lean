/-
  Honest senders' messages: the plain law of orders that are fed; what senders send, opened; stamped.
  Conditions: those that each theorem names.
-/
import Derived.Test.YtgjlcjbmcnofiaaDoorOrdJ
import Derived.Test.YtgjlcjbmcnofiaaDoorOrdK
import Derived.Test.YtgjlcjbmcnofiaaDoorOrdN
import Derived.Deep.CutBlock
import Derived.Deep.DeepCutAuto
namespace Go.Proofs.YtgjlcjbmcnofiaaDoor
set_option linter.unusedVariables false
set_option linter.unusedSimpArgs false
open Go.RowKit
/-- a sender's messages -/
def sentP (M : List Msg) (p : Nat) : List Msg := M.filter fun m => decide (m.frm = (p : Int))
/-- messages of honest senders 0 to 3 -/
structure Hon (M : List Msg) : Prop where
  frm : ∀ m ∈ M, ∃ p : Nat, p < 4 ∧ m.frm = (p : Int)
  seq : ∀ (p j : Nat) (m : Msg), (sentP M p)[j]? = some m → m.seq = j + 1
  rise : M.Pairwise fun a b => a.frm = b.frm → a.stamp < b.stamp
  pos : ∀ m ∈ M, 0 < m.stamp
  ds : ∀ m ∈ M, m.ds = []
theorem mem_sentP {M : List Msg} {p : Nat} {m : Msg} : m ∈ sentP M p ↔ m ∈ M ∧ m.frm = (p : Int) := by simp [sentP]
theorem sentP_app (A B : List Msg) (p : Nat) : sentP (A ++ B) p = sentP A p ++ sentP B p := by simp [sentP]
theorem sentP_none {M : List Msg} (h : Hon M) {p : Nat} (hp : 4 ≤ p) : sentP M p = [] := by
  unfold sentP
  rw [List.filter_eq_nil_iff]
  intro m hm
  obtain ⟨q, hq, e⟩ := h.frm m hm
  simp only [decide_eq_true_eq, e]
  omega
theorem Hon.keys {M : List Msg} (h : Hon M) : M.Pairwise fun a b => keyM a ≠ keyM b := by
  refine h.rise.imp fun {a b} hab e => ?_
  unfold keyM at e
  simp only [Prod.mk.injEq] at e
  have := hab e.2
  omega
/-- the sorted messages rise strictly -/
theorem Hon.sorted {M : List Msg} (h : Hon M) : (sortM M).Pairwise fun a b => keyLt (keyM a) (keyM b) := by
  have h1 : (sortM M).Pairwise fun a b => keyM a ≠ keyM b := (sortM_same M).1.pairwise h.keys (fun e => Ne.symm e)
  have h2 : (sortM M).Pairwise leM := sortM_srt M
  refine List.Pairwise.imp₂ ?_ h2 h1
  intro a b hle hne
  unfold leM at hle
  have : keyM a ≠ keyM b := hne
  unfold keyLt at *
  rcases ha : keyM a with ⟨a1, a2⟩
  rcases hb : keyM b with ⟨b1, b2⟩
  rw [ha, hb] at hle this
  simp only [ne_eq, Prod.mk.injEq, not_and] at *
  omega
theorem sentP_sort {M : List Msg} (h : Hon M) (p : Nat) : sentP (sortM M) p = sentP M p := by
  refine srt_uniq _ _ (List.Pairwise.sublist List.filter_sublist (sortM_srt M)) ?_ ⟨((sortM_same M).1.symm).filter _, fun k => ?_⟩
  · have h1 : (sentP M p).Pairwise fun a b => a.frm = b.frm → a.stamp < b.stamp := List.Pairwise.sublist List.filter_sublist h.rise
    refine List.Pairwise.imp_of_mem ?_ h1
    intro a b ha hb hab
    have h2 := hab ((mem_sentP.1 ha).2.trans (mem_sentP.1 hb).2.symm)
    exact leM_of_lt (.inl (by show (a.stamp : Int) < b.stamp; omega))
  · unfold sentP
    rw [List.filter_filter, List.filter_filter]
    have := (sortM_same M).2 k
    have e1 : ∀ l : List Msg, l.filter (fun a => (keyM a == k) && decide (a.frm = (p : Int))) = (l.filter fun m => keyM m == k).filter fun m => decide (m.frm = (p : Int)) := fun l => by
      rw [List.filter_filter]
      congr 1
      funext a
      rw [Bool.and_comm]
    rw [e1, e1, this]
theorem Hon.riseP {M : List Msg} (h : Hon M) (p : Nat) : (sentP M p).Pairwise fun a b => a.stamp < b.stamp := by
  have h1 : (sentP M p).Pairwise fun a b => a.frm = b.frm → a.stamp < b.stamp := List.Pairwise.sublist List.filter_sublist h.rise
  refine List.Pairwise.imp_of_mem ?_ h1
  intro a b ha hb hab
  exact hab ((mem_sentP.1 ha).2.trans (mem_sentP.1 hb).2.symm)
/-- what an order holds that was fed the first at_ p messages of each p, and has delivered the first n of all -/
structure Fed (M : List Msg) (at_ : Nat → Nat) (n : Nat) (O : PO) : Prop where
  mb : ∀ p, p < 4 → p ∈ listS O.mb
  me : 4 ≤ O.me
  oth : listS O.H.o = [0, 1, 2, 3]
  lo : ∀ p, O.lo p = 0
  R : ∀ p, (O.R p).map core = ((sentP M p).take (at_ p)).map core
  le : ∀ p, at_ p ≤ (sentP M p).length
  hd : ∀ p, p < 4 → ∀ m ∈ (sentP M p).drop (at_ p), O.H.hd p < m.stamp
  wt : ∀ p, O.H.wt p = []
  cm : ∀ p, p < 4 → at_ p ≤ O.H.cm p
  dn : ∀ p, O.dn p = (sentP ((sortM M).take n) p).length
  got : ∀ p, O.dn p ≤ at_ p
  n : n ≤ M.length
section
variable {M : List Msg} {at_ : Nat → Nat} {n : Nat} {O : PO}
theorem Fed.split (h : Fed M at_ n O) (hM : Hon M) (p : Nat) : sentP M p = sentP ((sortM M).take n) p ++ sentP ((sortM M).drop n) p := by
  rw [← sentP_app, List.take_append_drop, sentP_sort hM]
theorem Fed.first (h : Fed M at_ n O) (hM : Hon M) (p : Nat) : (sentP M p)[O.dn p]? = (sentP ((sortM M).drop n) p)[0]? := by
  rw [h.split hM p, h.dn p, List.getElem?_append_right (Nat.le_refl _), Nat.sub_self]
theorem Fed.len (h : Fed M at_ n O) (p : Nat) : (O.R p).length = at_ p := by
  have := congrArg List.length (h.R p)
  simp only [List.length_map, List.length_take] at this
  have := h.le p
  omega
theorem Fed.next (h : Fed M at_ n O) (hM : Hon M) {p : Nat} (hp : p < 64) : (nextO O p).map core = if O.dn p < at_ p then ((sentP ((sortM M).drop n) p)[0]?).map core else none := by
  unfold nextO getZ
  have hb : procB (p : Int) = true := by unfold procB; simp; omega
  have hl := h.len p
  rw [h.lo]
  simp only [hb, Int.toNat_natCast, true_and, Nat.zero_add, Nat.sub_zero, Nat.add_sub_cancel]
  by_cases e : O.dn p < at_ p
  · rw [if_pos e, if_pos ⟨by omega, by omega⟩, ← h.first hM p, gm_get (by omega)]
    have h1 := congrArg (fun l => l[O.dn p]?) (h.R p)
    simp only [List.getElem?_map] at h1
    rw [List.getElem?_take_of_lt e] at h1
    rw [← h1, List.getElem?_eq_getElem (by omega)]
  · rw [if_neg e, if_neg (by omega)]
    rfl
/-- a next one is of those that weren't delivered -/
theorem Fed.next_mem (h : Fed M at_ n O) (hM : Hon M) {p : Nat} (hp : p < 64) {m : Msg} (hm : nextO O p = some m) : ∃ x ∈ (sortM M).drop n, core m = core x ∧ x.frm = (p : Int) ∧ O.dn p < at_ p := by
  have h1 := h.next hM hp
  rw [hm] at h1
  by_cases e : O.dn p < at_ p
  · rw [if_pos e] at h1
    cases hx : (sentP ((sortM M).drop n) p)[0]? with
    | none => rw [hx] at h1; cases h1
    | some x =>
      rw [hx] at h1
      have := List.mem_of_getElem? hx
      exact ⟨x, (mem_sentP.1 this).1, by simpa using h1, (mem_sentP.1 this).2, e⟩
  · rw [if_neg e] at h1
    cases h1
theorem leM_total (a b : Msg) : leM a b ∨ leM b a := by unfold leM keyLt; omega
/-- the head is the least next one -/
theorem head_least (O : PO) : ∀ (l : List Nat) (b : Option Msg) (m : Msg), l.foldl (headStep O) b = some m → (∀ c, b = some c → leM m c) ∧ ∀ p ∈ l, ∀ c, nextO O p = some c → leM m c
  | [], b, m, h => ⟨fun c hc => by
      have : b = some m := h
      rw [hc] at this
      injection this with this
      rw [this]
      exact leM_refl _, fun p hp => by cases hp⟩
  | q :: l, b, m, h => by
    obtain ⟨h1, h2⟩ := head_least O l (headStep O b q) m h
    have hs : (∀ c, b = some c → ∃ d, headStep O b q = some d ∧ leM d c) ∧ (∀ c, nextO O q = some c → ∃ d, headStep O b q = some d ∧ leM d c) := by
      unfold headStep
      cases hq : nextO O q with
      | none => exact ⟨fun c hc => ⟨c, hc, leM_refl _⟩, fun c hc => by cases hc⟩
      | some x =>
        cases b with
        | none => exact ⟨fun c hc => (by cases hc), fun c hc => ⟨x, rfl, by injection hc with hc; subst hc; exact leM_refl _⟩⟩
        | some y =>
          simp only
          by_cases hl : lessB x y = true
          · rw [if_pos hl]
            have hk : keyLt (keyM x) (keyM y) := (ltM_iff x y).1 hl
            exact ⟨fun c hc => ⟨x, rfl, by injection hc with hc; subst hc; exact leM_of_lt hk⟩, fun c hc => ⟨x, rfl, by injection hc with hc; subst hc; exact leM_refl _⟩⟩
          · rw [if_neg hl]
            have hk : ¬ keyLt (keyM x) (keyM y) := (ltM_not x y).1 (show lessB x y = false by simpa using hl)
            exact ⟨fun c hc => ⟨y, rfl, by injection hc with hc; subst hc; exact leM_refl _⟩, fun c hc => ⟨y, rfl, by injection hc with hc; subst hc; exact hk⟩⟩
    refine ⟨fun c hc => ?_, fun p hp c hc => ?_⟩
    · obtain ⟨d, hd, hl⟩ := hs.1 c hc
      exact leM_trans (h1 d hd) hl
    · rcases List.mem_cons.1 hp with rfl | hp
      · obtain ⟨d, hd, hl⟩ := hs.2 c hc
        exact leM_trans (h1 d hd) hl
      · exact h2 p hp c hc
theorem head_some (O : PO) : ∀ (l : List Nat) (b : Option Msg), l.foldl (headStep O) b = none → b = none ∧ ∀ p ∈ l, nextO O p = none
  | [], b, h => ⟨h, fun p hp => by cases hp⟩
  | q :: l, b, h => by
    obtain ⟨h1, h2⟩ := head_some O l (headStep O b q) h
    unfold headStep at h1
    cases hq : nextO O q with
    | none =>
      rw [hq] at h1
      refine ⟨h1, fun p hp => ?_⟩
      rcases List.mem_cons.1 hp with rfl | hp
      · exact hq
      · exact h2 p hp
    | some x =>
      rw [hq] at h1
      cases b with
      | none => cases h1
      | some y => simp only at h1; split at h1 <;> cases h1
theorem low_le : ∀ (l : List Nat) (f : Nat → Nat) (c : Nat), lowOf f l c ≤ c ∧ ∀ p ∈ l, lowOf f l c ≤ f p
  | [], f, c => ⟨Nat.le_refl _, fun p hp => by cases hp⟩
  | q :: l, f, c => by
    obtain ⟨h1, h2⟩ := low_le l f (min c (f q))
    show lowOf f l (min c (f q)) ≤ c ∧ ∀ p ∈ q :: l, lowOf f l (min c (f q)) ≤ f p
    refine ⟨by omega, fun p hp => ?_⟩
    rcases List.mem_cons.1 hp with rfl | hp
    · omega
    · exact h2 p hp
theorem low_ge : ∀ (l : List Nat) (f : Nat → Nat) (c k : Nat), k ≤ c → (∀ p ∈ l, k ≤ f p) → k ≤ lowOf f l c
  | [], f, c, k, h, _ => h
  | q :: l, f, c, k, h, hl => low_ge l f (min c (f q)) k (by have := hl q (by simp); omega) (fun p hp => hl p (by simp [hp]))
theorem mark_le (O : PO) (s : Int) : O.mark s ≤ O.H.all := by
  unfold PO.mark
  split
  · exact (low_le _ _ _).1
  · exact Nat.le_refl _
theorem core_key {a b : Msg} (h : core a = core b) : keyM a = keyM b ∧ a.frm = b.frm ∧ a.stamp = b.stamp ∧ a.seq = b.seq := by
  have e := core_iff.1 h
  unfold keyM
  exact ⟨by rw [e.1, e.2.2.1], e.1, e.2.2.1, e.2.1⟩
theorem leM_core {a b c d : Msg} (h1 : core a = core c) (h2 : core b = core d) (h : leM a b) : leM c d := by
  unfold leM at *
  rw [← (core_key h1).1, ← (core_key h2).1]
  exact h
/-- the least one that isn't delivered -/
theorem sorted_first {M : List Msg} (hM : Hon M) {n : Nat} (hn : n < M.length) : ∃ g, (sortM M)[n]? = some g ∧ g ∈ (sortM M).drop n ∧ (∃ q : Nat, q < 4 ∧ g.frm = (q : Int) ∧ (sentP ((sortM M).drop n) q)[0]? = some g) ∧ ∀ x ∈ (sortM M).drop n, x = g ∨ keyLt (keyM g) (keyM x) := by
  have hl := sortM_len M
  have hd : (sortM M).drop n = (sortM M)[n]'(by omega) :: (sortM M).drop (n + 1) := List.drop_eq_getElem_cons (by omega)
  refine ⟨(sortM M)[n]'(by omega), List.getElem?_eq_getElem _, by rw [hd]; exact List.mem_cons_self, ?_, fun x hx => ?_⟩
  · have hm : (sortM M)[n]'(by omega) ∈ M := (sortM_same M).1.mem_iff.2 (List.getElem_mem _)
    obtain ⟨q, hq, e⟩ := hM.frm _ hm
    refine ⟨q, hq, e, ?_⟩
    rw [hd]
    unfold sentP
    rw [List.filter_cons, if_pos (by simpa using e)]
    rfl
  · rw [hd] at hx
    rcases List.mem_cons.1 hx with rfl | hx
    · exact .inl rfl
    · have h1 := hM.sorted
      rw [← List.take_append_drop n (sortM M), hd] at h1
      have h2 := (List.pairwise_append.1 h1).2.1
      exact .inr ((List.pairwise_cons.1 h2).1 x hx)
/-- what is ripe is the least one that isn't delivered -/
theorem Fed.ripe (h : Fed M at_ n O) (hM : Hon M) {m : Msg} (hr : O.ripe = some m) : ∃ g, (sortM M)[n]? = some g ∧ core m = core g ∧ Fed M at_ (n + 1) (O.took m) := by
  have hh := ripe_head hr
  have hst : m.stamp ≤ O.mark m.service := by
    unfold PO.ripe at hr
    rw [hh] at hr
    simp only at hr
    split at hr
    · cases hr
    · omega
  obtain ⟨p, hp, hpm⟩ := head_next hh
  have hp64 := (mem_listS.1 hp).1
  obtain ⟨x, hx, hcx, hxp, hgp⟩ := h.next_mem hM hp64 hpm
  have hn : n < M.length := by
    have : 0 < ((sortM M).drop n).length := List.length_pos_of_mem hx
    rw [List.length_drop, sortM_len] at this
    omega
  obtain ⟨g, hg, hgm, ⟨q, hq, hqf, hq0⟩, hgl⟩ := sorted_first hM hn
  have hxg : x = g := by
    rcases hgl x hx with e | e
    · exact e
    · exfalso
      have hq4 : q ∈ listS O.H.o := by
        rw [h.oth]
        have : q = 0 ∨ q = 1 ∨ q = 2 ∨ q = 3 := by omega
        rcases this with rfl | rfl | rfl | rfl <;> simp
      have hall : O.H.all ≤ O.H.hd q := (low_le _ _ _).2 q hq4
      by_cases hgot : O.dn q < at_ q
      · have h1 := h.next hM (p := q) (by omega)
        rw [if_pos hgot, hq0] at h1
        cases hy : nextO O q with
        | none => rw [hy] at h1; cases h1
        | some y =>
          rw [hy] at h1
          have hcy : core y = core g := by simpa using h1
          have hle : leM m y := (head_least O _ _ _ hh).2 q (h.mb q hq) y hy
          exact (leM_core hcx hcy hle) e
      · have hmem : g ∈ (sentP M q).drop (at_ q) := by
          have h1 := h.first hM q
          rw [hq0] at h1
          have h2 : O.dn q = at_ q := by have := h.got q; omega
          rw [h2] at h1
          have : ((sentP M q).drop (at_ q))[0]? = some g := by rw [List.getElem?_drop]; simpa using h1
          exact List.mem_of_getElem? this
        have h1 := h.hd q hq g hmem
        have h2 := mark_le O m.service
        have h3 := (core_key hcx).2.2.1
        unfold keyLt keyM at e
        simp only at e
        omega
  subst hxg
  have hfp : m.frm = (p : Int) := (core_key hcx).2.1.trans hxp
  have hpn : m.frm.toNat = p := by rw [hfp]; simp
  have hpq : q = p := by
    have := hqf.symm.trans hxp
    omega
  subst hpq
  refine ⟨x, hg, hcx, h.mb, h.me, h.oth, h.lo, h.R, h.le, h.hd, h.wt, h.cm, fun r => ?_, fun r => ?_, hn⟩
  · show upd O.dn m.frm.toNat (O.dn m.frm.toNat + 1) r = _
    rw [hpn]
    have ht : (sortM M).take (n + 1) = (sortM M).take n ++ [x] := by rw [List.take_add_one, hg]; rfl
    rw [ht, sentP_app, List.length_append]
    by_cases e : r = q
    · subst e
      rw [upd_same, h.dn]
      have : sentP [x] r = [x] := by unfold sentP; simp [hqf]
      rw [this]
      rfl
    · rw [upd_ne _ _ e, h.dn]
      have : sentP [x] r = [] := by
        unfold sentP
        simp only [List.filter_cons, List.filter_nil]
        rw [if_neg]
        simp only [decide_eq_true_eq, hqf]
        omega
      rw [this]
      rfl
  · show upd O.dn m.frm.toNat (O.dn m.frm.toNat + 1) r ≤ at_ r
    rw [hpn]
    by_cases e : r = q
    · subst e
      rw [upd_same]
      omega
    · rw [upd_ne _ _ e]
      exact h.got r
theorem Fed.drn {L : List Msg} {O' : PO} (hd : Drn O L O') (hM : Hon M) (h : Fed M at_ n O) : Fed M at_ (n + L.length) O' ∧ ((sortM M).take n ++ L).map core = ((sortM M).take (n + L.length)).map core := by
  induction hd with
  | nil => exact ⟨h, by simp⟩
  | @snoc O1 L m hd hr ih =>
    obtain ⟨h1, h2⟩ := ih
    obtain ⟨g, hg, hc, h3⟩ := h1.ripe hM hr
    refine ⟨by rw [List.length_append]; exact h3, ?_⟩
    rw [List.length_append, List.length_singleton, ← Nat.add_assoc, List.take_add_one, hg, ← List.append_assoc, List.map_append, h2, List.map_append]
    simp [hc]
/-- where all were fed, and all was heard, all is delivered -/
theorem Fed.full (h : Fed M at_ n O) (hM : Hon M) (hall : ∀ p, p < 4 → at_ p = (sentP M p).length) (hs : ∀ m ∈ M, m.stamp ≤ O.H.safe) (hr : O.ripe = none) : n = M.length := by
  rcases Nat.lt_or_ge n M.length with hn | hn
  · exfalso
    obtain ⟨g, hg, hgm, ⟨q, hq, hqf, hq0⟩, hgl⟩ := sorted_first hM hn
    have hgot : O.dn q < at_ q := by
      rw [hall q hq]
      have h1 := h.first hM q
      rw [hq0] at h1
      exact (List.getElem?_eq_some_iff.1 h1).1
    have h1 := h.next hM (p := q) (by omega)
    rw [if_pos hgot, hq0] at h1
    unfold PO.ripe at hr
    cases hh : O.head with
    | none =>
      have := (head_some O _ _ hh).2 q (h.mb q hq)
      rw [this] at h1
      cases h1
    | some m =>
      rw [hh] at hr
      simp only at hr
      split at hr
      · next hlt =>
        obtain ⟨p, hp, hpm⟩ := head_next hh
        obtain ⟨x, hx, hcx, _, _⟩ := h.next_mem hM (mem_listS.1 hp).1 hpm
        have hxM : x ∈ M := (sortM_same M).1.mem_iff.2 (List.mem_of_mem_drop hx)
        have h3 := hs x hxM
        have h4 := (core_key hcx).2.2.1
        have h5 : O.H.safe ≤ O.mark m.service := by
          unfold PO.mark
          split
          · exact Nat.le_refl _
          · exact (low_le _ _ _).1
        omega
      · cases hr
  · have := h.n
    omega
theorem count_nil (H : HZ) (p : Nat) (h : H.wt p = []) : H.count p = H.setWt p [] := by unfold HZ.count; rw [h]; rfl
/-- the next message of a sender comes -/
theorem Fed.take (h : Fed M at_ n O) (hM : Hon M) {p : Nat} (hp : p < 4) {m : Msg} (hm : (sentP M p)[at_ p]? = some m) : takeZ O m = 0 ∧ ∀ m', core m' = core m → Fed M (upd at_ p (at_ p + 1)) n (O.take m m') := by
  have hms := mem_sentP.1 (List.mem_of_getElem? hm)
  have hf : m.frm = (p : Int) := hms.2
  have hpn : m.frm.toNat = p := by rw [hf]; simp
  have hsq := hM.seq p _ m hm
  have hlt := (List.getElem?_eq_some_iff.1 hm).1
  have hl := h.len p
  refine ⟨?_, fun m' hc => ?_⟩
  · unfold takeZ
    rw [hf, if_pos (mem_hasS.1 (h.mb p hp))]
    unfold putK
    rw [hf]
    have hb : procB (p : Int) = true := by unfold procB; simp; omega
    rw [hb, if_neg (by simp), Int.toNat_natCast, h.lo, if_pos (by omega)]
  · have hne : ¬ m.frm = O.me := by have := h.me; omega
    have hho : hasS O.H.o m.frm = true := by
      rw [hf]
      refine mem_hasS.1 ?_
      rw [h.oth]
      have : p = 0 ∨ p = 1 ∨ p = 2 ∨ p = 3 := by omega
      rcases this with rfl | rfl | rfl | rfl <;> simp
    have hH : (O.take m m').H = ((((O.H.setC (max O.H.c m.stamp)).setCm p m.seq).setHd p (max (O.H.hd p) m.stamp)).setWt p []) := by
      unfold PO.take
      simp only [if_neg hne]
      unfold HZ.came
      rw [if_pos hho, hpn, count_nil _ _ (by exact h.wt p)]
    refine ⟨h.mb, h.me, by rw [hH]; exact h.oth, h.lo, fun r => ?_, fun r => ?_, fun r hr x hx => ?_, fun r => ?_, fun r hr => ?_, h.dn, fun r => ?_, h.n⟩
    · show ((upd O.R m.frm.toNat (O.R m.frm.toNat ++ [m'])) r).map core = _
      rw [hpn]
      by_cases e : r = p
      · subst e
        rw [upd_same, upd_same, List.map_append, h.R, List.take_add_one, hm, List.map_append]
        simp [hc]
      · rw [upd_ne _ _ e, upd_ne _ _ e, h.R]
    · by_cases e : r = p
      · subst e
        rw [upd_same]
        omega
      · rw [upd_ne _ _ e]
        exact h.le r
    · rw [hH]
      show upd O.H.hd p (max (O.H.hd p) m.stamp) r < x.stamp
      by_cases e : r = p
      · subst e
        rw [upd_same] at hx ⊢
        have h1 : x ∈ (sentP M r).drop (at_ r) := by
          rw [List.drop_eq_getElem_cons hlt]
          exact List.mem_cons_of_mem _ hx
        have h2 := h.hd r hr x h1
        have h3 := hM.riseP r
        rw [← List.take_append_drop (at_ r) (sentP M r), List.drop_eq_getElem_cons hlt] at h3
        have h4 := (List.pairwise_cons.1 (List.pairwise_append.1 h3).2.1).1 x hx
        rw [List.getElem?_eq_getElem hlt] at hm
        injection hm with hm
        rw [hm] at h4
        omega
      · rw [upd_ne _ _ e] at hx ⊢
        exact h.hd r hr x hx
    · rw [hH]
      show upd O.H.wt p [] r = []
      by_cases e : r = p
      · subst e; rw [upd_same]
      · rw [upd_ne _ _ e]; exact h.wt r
    · rw [hH]
      show upd at_ p (at_ p + 1) r ≤ upd O.H.cm p m.seq r
      by_cases e : r = p
      · subst e; rw [upd_same, upd_same]; omega
      · rw [upd_ne _ _ e, upd_ne _ _ e]; exact h.cm r hr
    · show O.dn r ≤ upd at_ p (at_ p + 1) r
      by_cases e : r = p
      · subst e; rw [upd_same]; have := h.got r; omega
      · rw [upd_ne _ _ e]; exact h.got r
theorem other_has (h : Fed M at_ n O) {p : Nat} (hp : p < 4) : hasS O.H.o (p : Int) = true := by
  refine mem_hasS.1 ?_
  rw [h.oth]
  have : p = 0 ∨ p = 1 ∨ p = 2 ∨ p = 3 := by omega
  rcases this with rfl | rfl | rfl | rfl <;> simp
/-- at the end all promise, and reached, the last stamp -/
structure Ended (M : List Msg) (n last k : Nat) (O : PO) : Prop where
  fed : Fed M (fun p => (sentP M p).length) n O
  heard : ∀ p, p < k → last ≤ O.H.hd p ∧ last ≤ O.H.rc p
variable {last p : Nat}
theorem Ended.told (h : Ended M n last p O) (hp : p < 4) : Ended M n last (p + 1) { O with H := (O.H.promise (p : Int) last (sentP M p).length).reached (p : Int) last } := by
  have ho := other_has h.fed hp
  have hP : O.H.promise (p : Int) last (sentP M p).length = (((O.H.setC (max O.H.c last)).setHd p (max (O.H.hd p) last)).setWt p []) := by
    unfold HZ.promise
    rw [if_pos ho, Int.toNat_natCast, h.fed.wt p, List.nil_append]
    unfold HZ.count
    have e1 : ((O.H.setC (max O.H.c last)).setWt p [(last, (sentP M p).length)]).wt p = [(last, (sentP M p).length)] := by
      show upd O.H.wt p _ p = _
      rw [upd_same]
    rw [e1]
    have hc := h.fed.cm p hp
    have e2 : decide ((sentP M p).length ≤ O.H.cm p) = true := by simpa using hc
    simp only [askL, List.foldl_cons, List.foldl_nil, askH]
    rw [if_pos (show (sentP M p).length ≤ ((O.H.setC (max O.H.c last)).setWt p [(last, (sentP M p).length)]).cm p from hc)]
    have e3 : List.filter (fun x : Nat × Nat => !decide (x.2 ≤ ((O.H.setC (max O.H.c last)).setWt p [(last, (sentP M p).length)]).cm p)) [(last, (sentP M p).length)] = [] := by
      rw [List.filter_cons, if_neg (by show ¬ (!decide ((sentP M p).length ≤ O.H.cm p)) = true; rw [e2]; decide)]
      rfl
    rw [e3]
    show HZ.setWt (HZ.setHd (HZ.setWt _ _ _) _ _) _ _ = _
    unfold HZ.setWt HZ.setHd HZ.setC
    simp only
    congr 1
    funext r
    by_cases e : r = p
    · subst e; rw [upd_same, upd_same]
    · rw [upd_ne _ _ e, upd_ne _ _ e, upd_ne _ _ e]
  have hR : (O.H.promise (p : Int) last (sentP M p).length).reached (p : Int) last = ((((O.H.setC (max O.H.c last)).setHd p (max (O.H.hd p) last)).setWt p []).setRc p (max (O.H.rc p) last)) := by
    rw [hP]
    unfold HZ.reached
    rw [if_pos (show hasS (((O.H.setC (max O.H.c last)).setHd p (max (O.H.hd p) last)).setWt p []).o (p : Int) = true from ho), Int.toNat_natCast]
    rfl
  rw [hR]
  refine ⟨⟨h.fed.mb, h.fed.me, h.fed.oth, h.fed.lo, h.fed.R, h.fed.le, fun r hr m hm => ?_, fun r => ?_, h.fed.cm, h.fed.dn, h.fed.got, h.fed.n⟩, fun r hr => ?_⟩
  · simp at hm
  · show upd O.H.wt p [] r = []
    by_cases e : r = p
    · subst e; rw [upd_same]
    · rw [upd_ne _ _ e]; exact h.fed.wt r
  · show last ≤ upd O.H.hd p (max (O.H.hd p) last) r ∧ last ≤ upd O.H.rc p (max (O.H.rc p) last) r
    by_cases e : r = p
    · subst e; rw [upd_same, upd_same]; omega
    · rw [upd_ne _ _ e, upd_ne _ _ e]; exact h.heard r (by omega)
theorem Ended.see (h : Ended M n last 4 O) (x : Nat) : Ended M n last 4 { O with H := O.H.setC x } := ⟨⟨h.fed.mb, h.fed.me, h.fed.oth, h.fed.lo, h.fed.R, h.fed.le, h.fed.hd, h.fed.wt, h.fed.cm, h.fed.dn, h.fed.got, h.fed.n⟩, h.heard⟩
theorem Ended.safe (h : Ended M n last 4 O) (hc : last ≤ O.H.c) : last ≤ O.H.safe := by
  have h1 : ∀ p ∈ listS O.H.o, p < 4 := fun p hp => by rw [h.fed.oth] at hp; simp at hp; omega
  exact low_ge _ _ _ _ (low_ge _ _ _ _ hc fun p hp => (h.heard p (h1 p hp)).1) fun p hp => (h.heard p (h1 p hp)).2
end
/-- a new order of a member that sends nothing -/
theorem Fed.new {M : List Msg} (me : Int) (hme : me = 4 ∨ me = 5 ∨ me = 6) (hM : Hon M) : Fed M (fun _ => 0) 0 (po0 me 15) := by
  refine ⟨?_, by show 4 ≤ me; omega, ?_, fun p => rfl, fun p => by simp [po0, R0], fun p => Nat.zero_le _, fun p hp m hm => ?_, fun p => rfl, fun p _ => Nat.zero_le _, fun p => by simp [po0, sentP], fun p => Nat.le_refl _, Nat.zero_le _⟩
  · intro p hp
    have : p = 0 ∨ p = 1 ∨ p = 2 ∨ p = 3 := by omega
    rcases hme with rfl | rfl | rfl <;> rcases this with rfl | rfl | rfl | rfl <;> decide +kernel
  · rcases hme with rfl | rfl | rfl <;> decide +kernel
  · have := hM.pos m (mem_sentP.1 (List.mem_of_mem_drop hm)).1
    exact this
end Go.Proofs.YtgjlcjbmcnofiaaDoor
namespace Go.Proofs.YtgjlcjbmcnofiaaDoor
set_option linter.unusedVariables false
set_option linter.unusedSimpArgs false
open Go.RowKit
/-- what a sender sends -/
structure SentO where
  frm : Int
  later : Int
  service : Int
  pay : ByteArray
instance : Inhabited SentO := ⟨⟨0, 0, 0, ⟨#[]⟩⟩⟩
def sentL (a : SentO) : List Value := [.int .i64 a.frm, .int .i64 a.later, .int .i64 a.service, .string a.pay]
def SentsO (w : World) (v : Value) (l : List SentO) : Prop := ∃ ad cap, v = .slice ad l.length cap ∧ l.length ≤ 9223372036854775807 ∧
  ∀ i (h : i < l.length), ∃ B O, ad = some ⟨B, O, none⟩ ∧ B < w.heap.size ∧ w.rangeAt B (O + i * 4) (sentL l[i]) ∧ l[i].pay.size ≤ 9223372036854775807
theorem SentsO.below {w w' : World} {v : Value} {l : List SentO} (h : SentsO w v l) (hb : Below w.heap.size w w') : SentsO w' v l := by
  obtain ⟨ad, cap, rfl, hl, h⟩ := h
  refine ⟨ad, cap, rfl, hl, fun i hi => ?_⟩
  obtain ⟨B, O, rfl, hB, hr, h1⟩ := h i hi
  exact ⟨B, O, rfl, Nat.lt_of_lt_of_le hB hb.size, fun j u hu => (hb.cell (p := ⟨B, O + i * 4 + j, none⟩) hB).trans (hr j u hu), h1⟩
def BytesO (w : World) (v : Value) (l : List Nat) : Prop := ∃ ad cap, v = .slice ad l.length cap ∧ l.length ≤ 9223372036854775807 ∧
  ∀ i (h : i < l.length), ∃ B O, ad = some ⟨B, O, none⟩ ∧ B < w.heap.size ∧ w.cell? ⟨B, O + i, none⟩ = some (.int .u8 (l[i] : Int)) ∧ l[i] < 256
theorem BytesO.below {w w' : World} {v : Value} {l : List Nat} (h : BytesO w v l) (hb : Below w.heap.size w w') : BytesO w' v l := by
  obtain ⟨ad, cap, rfl, hl, h⟩ := h
  refine ⟨ad, cap, rfl, hl, fun i hi => ?_⟩
  obtain ⟨B, O, rfl, hB, hr, h1⟩ := h i hi
  exact ⟨B, O, rfl, Nat.lt_of_lt_of_le hB hb.size, (hb.cell (p := ⟨B, O + i, none⟩) hB).trans hr, h1⟩
section
open Go.ChangeShapes Go.WideShapes Go.Deep
variable {H : Type} {enc : TypeId × Value → H} {w : World} {base : Nat} {spare : Nat → Bool} {held : Bool}
set_option maxRecDepth 100000 in
theorem sent_of {fuel : Nat} {cs : List Value} {x : DataW H × List MemPlace} (hl : cs.length = 4) (h : DataW.trod enc Tryd.prog w base spare held fuel 26 cs = some x) :
    ∃ a : SentO, cs = sentL a ∧ a.pay.size ≤ 9223372036854775807 := by
  obtain ⟨xs, k, hk, hxy, _, hxl, hf⟩ := DataW.trod_struct Tryd.underlying26 h
  have c2 : Tryd.prog.cellsOf 3 = 1 := by kernel_rfl
  have c4 : Tryd.prog.cellsOf 9 = 1 := by kernel_rfl
  match xs, hxl, cs, hl with
  | [y0, y1, y2, y3], _, [v0, v1, v2, v3], _ =>
    have g0 := hf 0 _ rfl
    have g1 := hf 1 _ rfl
    have g2 := hf 2 _ rfl
    have g3 := hf 3 _ rfl
    simp [c2, c4] at g0 g1 g2 g3
    obtain ⟨a0, e0, _⟩ := DataW.trod_int Tryd.underlying3 g0
    obtain ⟨a1, e1, _⟩ := DataW.trod_int Tryd.underlying3 g1
    obtain ⟨a2, e2, _⟩ := DataW.trod_int Tryd.underlying3 g2
    obtain ⟨a3, e3, _, hq⟩ := DataW.trod_string Tryd.underlying9 g3
    simp at e0 e1 e2 e3
    subst e0 e1 e2 e3
    exact ⟨⟨a0, a1, a2, a3⟩, rfl, by have := hq; unfold maxLen at this; exact this⟩
set_option maxRecDepth 100000 in
theorem sents_arg {r : Reach} {b0 : Nat} {v : Value} {d : DataW H} {p : List MemPlace} (hv : Value.okWide Tryd.prog w r b0 22 v) (h : DataW.Trod enc Tryd.prog w base spare held 22 v d p) : ∃ l, SentsO w v l := by
  obtain ⟨fuel, hf⟩ := h
  obtain ⟨a', len', cap', rfl⟩ := okWide_slice Tryd.underlying22 hv
  have hcs : (Value.slice a' len' cap').cells.toList = [Value.slice a' len' cap'] := by simp [Value.cells]
  have h9 : Tryd.prog.cellsOf 26 = 4 := by kernel_rfl
  rcases open_slice Tryd.underlying22 hf with ⟨h0, _⟩ | ⟨a, len, cap, m, n, D, Pl, h0, hb, hl, hm, hmm, _, hx⟩
  · rw [hcs] at h0
    simp at h0
    obtain ⟨_, rfl, _⟩ := h0
    exact ⟨[], _, _, rfl, by simp, fun i h => absurd h (by simp)⟩
  · rw [hcs] at h0
    simp at h0
    obtain ⟨rfl, rfl, rfl⟩ := h0
    have hlm : len' ≤ m := by rw [hmm]; split <;> omega
    have each : ∀ i, i < len' → ∃ x : SentO, (∀ j u, (sentL x)[j]? = some u → w.cell? ((a.add (i * 4)).add j) = some u) ∧ x.pay.size ≤ 9223372036854775807 := by
      intro i hi
      obtain ⟨cs', h1, h2⟩ := hx i (by omega)
      rw [h9] at h1
      obtain ⟨_, hlen, hcell⟩ := World.cells?_some h1
      obtain ⟨x, e, hq⟩ := sent_of hlen h2
      refine ⟨x, fun j u hu => ?_, hq⟩
      rw [← e] at hu
      have hj : j < 4 := by have := (List.getElem?_eq_some_iff.1 hu).1; omega
      exact (hcell j hj).trans hu
    obtain ⟨q, hq⟩ := choose_lt each
    refine ⟨(List.range len').map q, _, _, by simp; exact ⟨rfl, rfl⟩, by simp; unfold maxLen at hm; omega, fun i hi => ?_⟩
    have hi' : i < len' := by simpa using hi
    obtain ⟨b, off, spot⟩ := a
    have hz := (hq 0 (by omega)).1 0 _ rfl
    have hspot : spot = none := by simpa [Addr.add] using World.cell?_spot hz
    subst hspot
    refine ⟨b, off, rfl, ?_, ?_, ?_⟩
    · simpa [Addr.add] using block_lt hz
    · intro j u hu
      rw [List.getElem_map, List.getElem_range] at hu
      have := (hq i hi').1 j u hu
      rw [← this]
      congr 1
      unfold Addr.add
      split <;> split <;> simp_all <;> omega
    · rw [List.getElem_map, List.getElem_range]
      exact (hq i hi').2
set_option maxRecDepth 100000 in
theorem bytes_arg {r : Reach} {b0 : Nat} {v : Value} {d : DataW H} {p : List MemPlace} (hv : Value.okWide Tryd.prog w r b0 23 v) (h : DataW.Trod enc Tryd.prog w base spare held 23 v d p) : ∃ l, BytesO w v l := by
  obtain ⟨fuel, hf⟩ := h
  obtain ⟨a', len', cap', rfl⟩ := okWide_slice Tryd.underlying23 hv
  have hcs : (Value.slice a' len' cap').cells.toList = [Value.slice a' len' cap'] := by simp [Value.cells]
  have h9 : Tryd.prog.cellsOf 5 = 1 := by kernel_rfl
  rcases open_slice Tryd.underlying23 hf with ⟨h0, _⟩ | ⟨a, len, cap, m, n, D, Pl, h0, hb, hl, hm, hmm, _, hx⟩
  · rw [hcs] at h0
    simp at h0
    obtain ⟨_, rfl, _⟩ := h0
    exact ⟨[], _, _, rfl, by simp, fun i h => absurd h (by simp)⟩
  · rw [hcs] at h0
    simp at h0
    obtain ⟨rfl, rfl, rfl⟩ := h0
    have hlm : len' ≤ m := by rw [hmm]; split <;> omega
    have each : ∀ i, i < len' → ∃ x : Nat, w.cell? (a.add i) = some (.int .u8 (x : Int)) ∧ x < 256 := by
      intro i hi
      obtain ⟨cs', hc1, hc2⟩ := hx i (by omega)
      rw [h9, Nat.mul_one] at hc1
      obtain ⟨_, hlen, hcell⟩ := World.cells?_some hc1
      match cs', hlen with
      | [u], _ =>
        obtain ⟨z, e, _, hz⟩ := DataW.trod_int Tryd.underlying5 hc2
        simp at e
        subst e
        have hz2 : 0 ≤ z ∧ z ≤ 255 := by have := hz; simp [Lit.wf, IntKind.min, IntKind.max, IntKind.signed, IntKind.bits] at this; exact this
        have := hcell 0 (by simp)
        simp [Addr.add] at this
        obtain ⟨n, rfl⟩ := Int.eq_ofNat_of_zero_le hz2.1
        exact ⟨n, by simpa [Addr.add] using this, by omega⟩
    obtain ⟨q, hq⟩ := choose_lt each
    refine ⟨(List.range len').map q, _, _, by simp; exact ⟨rfl, rfl⟩, by simp; unfold maxLen at hm; omega, fun i hi => ?_⟩
    have hi' : i < len' := by simpa using hi
    obtain ⟨b, off, spot⟩ := a
    have hz := (hq 0 (by omega)).1
    have hspot : spot = none := by simpa [Addr.add] using World.cell?_spot hz
    subst hspot
    refine ⟨b, off, rfl, ?_, ?_, ?_⟩
    · simpa [Addr.add] using block_lt hz
    · rw [List.getElem_map, List.getElem_range]
      have := (hq i hi').1
      rw [← this]
      congr 1
      unfold Addr.add
      split <;> simp_all
    · rw [List.getElem_map, List.getElem_range]
      exact (hq i hi').2
end
end Go.Proofs.YtgjlcjbmcnofiaaDoor
namespace Go.Proofs.YtgjlcjbmcnofiaaDoor
set_option linter.unusedVariables false
set_option linter.unusedSimpArgs false
open Go.RowKit
theorem Hon.nil : Hon [] := ⟨fun m hm => (by cases hm), fun p j m h => (by simp [sentP] at h), List.Pairwise.nil, fun m hm => (by cases hm), fun m hm => (by cases hm)⟩
theorem sentP_snoc (M : List Msg) (m : Msg) (p : Nat) : sentP (M ++ [m]) p = if m.frm = (p : Int) then sentP M p ++ [m] else sentP M p := by
  rw [sentP_app]
  by_cases h : m.frm = (p : Int)
  · rw [if_pos h]; congr 1; unfold sentP; simp [h]
  · rw [if_neg h]; unfold sentP; simp [h]
theorem Hon.snoc {M : List Msg} (h : Hon M) {p : Nat} (hp : p < 4) {m : Msg} (hf : m.frm = (p : Int)) (hs : m.seq = (sentP M p).length + 1) (ht : ∀ x ∈ M, x.frm = (p : Int) → x.stamp < m.stamp) (h0 : 0 < m.stamp) (hd : m.ds = []) : Hon (M ++ [m]) := by
  refine ⟨fun x hx => ?_, fun q j x hx => ?_, List.pairwise_append.2 ⟨h.rise, List.pairwise_singleton _ _, fun a ha b hb e => ?_⟩, fun x hx => ?_, fun x hx => ?_⟩
  · rcases List.mem_append.1 hx with hx | hx
    · exact h.frm x hx
    · rw [List.mem_singleton.1 hx]; exact ⟨p, hp, hf⟩
  · rw [sentP_snoc] at hx
    by_cases e : m.frm = (q : Int)
    · obtain rfl : q = p := by omega
      rw [if_pos e] at hx
      by_cases hj : j < (sentP M q).length
      · rw [List.getElem?_append_left hj] at hx
        exact h.seq q j x hx
      · rw [List.getElem?_append_right (by omega)] at hx
        have hl := (List.getElem?_eq_some_iff.1 hx).1
        simp only [List.length_singleton] at hl
        have hj0 : j - (sentP M q).length = 0 := by omega
        rw [hj0] at hx
        have : m = x := by simpa using hx
        rw [← this, hs]
        omega
    · rw [if_neg e] at hx
      exact h.seq q j x hx
  · rw [List.mem_singleton.1 hb] at e ⊢
    exact ht a ha (e.trans hf)
  · rcases List.mem_append.1 hx with hx | hx
    · exact h.pos x hx
    · rw [List.mem_singleton.1 hx]; exact h0
  · rcases List.mem_append.1 hx with hx | hx
    · exact h.ds x hx
    · rw [List.mem_singleton.1 hx]; exact hd
def four (k : IntKind) (c : Nat → Nat) : Array Value := #[.int k (c 0 : Int), .int k (c 1 : Int), .int k (c 2 : Int), .int k (c 3 : Int)]
theorem four_get (k : IntKind) (c : Nat → Nat) {p : Nat} (hp : p < 4) : (four k c)[p]? = some (.int k (c p : Int)) := by
  rcases (by omega : p = 0 ∨ p = 1 ∨ p = 2 ∨ p = 3) with rfl | rfl | rfl | rfl <;> rfl
theorem four_set (k : IntKind) (c : Nat → Nat) {p : Nat} (hp : p < 4) (x : Nat) : (four k c).setIfInBounds p (.int k (x : Int)) = four k (upd c p x) := by
  rcases (by omega : p = 0 ∨ p = 1 ∨ p = 2 ∨ p = 3) with rfl | rfl | rfl | rfl <;> rfl
theorem u64_range (z : Int) : 0 ≤ IntKind.u64.wrap z ∧ IntKind.u64.wrap z < 18446744073709551616 := by
  have e : IntKind.u64.wrap z = z % 18446744073709551616 := by simp [IntKind.wrap, IntKind.signed, IntKind.bits]
  rw [e]
  omega
theorem mod4 (z : Int) : ∃ p : Nat, p < 4 ∧ wrap64 ((IntKind.u64.wrap z).tmod 4) = (p : Int) := by
  obtain ⟨h1, h2⟩ := u64_range z
  obtain ⟨n, hn⟩ := Int.eq_ofNat_of_zero_le h1
  refine ⟨n % 4, Nat.mod_lt _ (by decide), ?_⟩
  rw [hn]
  have e : ((n : Int).tmod 4) = ((n % 4 : Nat) : Int) := by rw [Int.tmod_eq_emod_of_nonneg (by omega)]; omega
  rw [e]
  unfold wrap64
  omega
/-- what was stamped so far; c: the clocks -/
structure Stp (M : List Msg) (c : Nat → Nat) : Prop where
  hon : Hon M
  top : ∀ m ∈ M, ∀ p : Nat, m.frm = (p : Int) → m.stamp ≤ c p
  low : ∀ p, p < 4 → c p ≤ 3 * M.length
  pay : ∀ m ∈ M, m.pay.size ≤ 500 ∧ m.da = none ∧ m.seq ≤ M.length
/-- .. in memory -/
structure StW (w : World) (CK CN : Nat) (u : Value) (M : List Msg) (wr : World) : Prop where
  ex : ∃ c, Stp M c ∧ wr.ownsRow w.heap.size 42 6 u M.length (rowsM M) ∧ wr.heap[CK]? = some (.cells (four .u64 c) 89 (0, 0)) ∧ wr.heap[CN]? = some (.cells (four .u32 fun p => (sentP M p).length) 34 (0, 0)) ∧ Below w.heap.size w wr ∧ w.heap.size ≤ CK ∧ w.heap.size ≤ CN
/-- p's clock was set on -/
structure Stb (M : List Msg) (p : Nat) (c : Nat → Nat) : Prop where
  hon : Hon M
  top : ∀ m ∈ M, ∀ r : Nat, m.frm = (r : Int) → m.stamp ≤ c r
  new : ∀ m ∈ M, m.frm = (p : Int) → m.stamp < c p
  pos : 0 < c p
  low : ∀ r, r < 4 → c r ≤ 3 * (M.length + 1)
  pay : ∀ m ∈ M, m.pay.size ≤ 500 ∧ m.da = none ∧ m.seq ≤ M.length
structure StB (w : World) (CK CN : Nat) (u : Value) (M : List Msg) (p : Nat) (nf : Nat → Nat) (wr : World) : Prop where
  ex : ∃ c, Stb M p c ∧ wr.ownsRow w.heap.size 42 6 u M.length (rowsM M) ∧ wr.heap[CK]? = some (.cells (four .u64 c) 89 (0, 0)) ∧ wr.heap[CN]? = some (.cells (four .u32 nf) 34 (0, 0)) ∧ Below w.heap.size w wr ∧ w.heap.size ≤ CK ∧ w.heap.size ≤ CN
theorem mod3 (z : Int) : ∃ d : Nat, d < 3 ∧ (IntKind.u64.wrap z).tmod 3 = (d : Int) := by
  obtain ⟨h1, h2⟩ := u64_range z
  obtain ⟨n, hn⟩ := Int.eq_ofNat_of_zero_le h1
  refine ⟨n % 3, Nat.mod_lt _ (by decide), ?_⟩
  rw [hn, Int.tmod_eq_emod_of_nonneg (by omega)]
  omega
theorem Stp.step {M : List Msg} {c : Nat → Nat} (h : Stp M c) {p d : Nat} (hp : p < 4) (hd : d < 3) : Stb M p (upd c p (c p + 1 + d)) := by
  refine ⟨h.hon, fun m hm r e => ?_, fun m hm e => ?_, ?_, fun r hr => ?_, h.pay⟩
  · have := h.top m hm r e
    by_cases er : r = p
    · subst er; rw [upd_same]; omega
    · rw [upd_ne _ _ er]; exact this
  · have := h.top m hm p e
    rw [upd_same]; omega
  · rw [upd_same]; omega
  · have := h.low r hr
    by_cases er : r = p
    · subst er; rw [upd_same]; omega
    · rw [upd_ne _ _ er]; omega
theorem sent_len (M : List Msg) (p : Nat) : (sentP M p).length ≤ M.length := List.length_filter_le _ _
/-- a message is sent -/
theorem Stb.send {M : List Msg} {c : Nat → Nat} {p : Nat} (h : Stb M p c) (hp : p < 4) {m : Msg} (hf : m.frm = (p : Int)) (hs : m.seq = (sentP M p).length + 1) (ht : m.stamp = c p) (hd : m.ds = []) (ha : m.da = none) (hy : m.pay.size ≤ 500) : Stp (M ++ [m]) c := by
  have hl : (M ++ [m]).length = M.length + 1 := by simp
  refine ⟨h.hon.snoc hp hf hs (fun x hx e => by rw [ht]; exact h.new x hx e) (by rw [ht]; exact h.pos) hd, fun x hx r e => ?_, fun r hr => by rw [hl]; exact h.low r hr, fun x hx => ?_⟩
  · rcases List.mem_append.1 hx with hx | hx
    · exact h.top x hx r e
    · rw [List.mem_singleton.1 hx] at e ⊢
      obtain rfl : r = p := by omega
      omega
  · rw [hl]
    rcases List.mem_append.1 hx with hx | hx
    · have := h.pay x hx
      exact ⟨this.1, this.2.1, by omega⟩
    · rw [List.mem_singleton.1 hx]
      exact ⟨hy, ha, by have := sent_len M p; omega⟩
theorem cnt_snoc {M : List Msg} {p : Nat} {m : Msg} (hf : m.frm = (p : Int)) : upd (fun r => (sentP M r).length) p ((sentP M p).length + 1) = fun r => (sentP (M ++ [m]) r).length := by
  funext r
  rw [sentP_snoc]
  by_cases e : r = p
  · subst e; rw [upd_same, if_pos hf]; simp
  · rw [upd_ne _ _ e, if_neg (by omega)]
theorem Stp.ok {M : List Msg} {c : Nat → Nat} (h : Stp M c) (hl : M.length ≤ 30) (w : World) {m : Msg} (hm : m ∈ M) : MsgOk w m := by
  obtain ⟨p, hp, e⟩ := h.hon.frm m hm
  have h1 := h.top m hm p e
  have h2 := h.low p hp
  have h3 := h.pay m hm
  have h4 := h.hon.ds m hm
  exact ⟨by rw [h4]; simp, by omega, by omega, by omega, fun i hi => by rw [h4] at hi; simp at hi⟩
set_option maxRecDepth 100000 in
set_option maxHeartbeats 16000000 in
theorem stamped_any (v vs : Value) (l : List SentO) (ss : List Nat) (w : World) (h : SentsO w v l) (hl : l.length ≤ 30) (hp : ∀ s ∈ l, s.pay.size ≤ 500) (hs : BytesO w vs ss) :
    Calls Tryd.prog 9 #[v, vs] w fun e w' => ∃ u M c, e = .returned u ∧ Stp M c ∧ M.length = l.length ∧ w'.ownsRow w.heap.size 42 6 u M.length (rowsM M) ∧ Below w.heap.size w w' := by
  have HL := Lib.hid h
  have HSS := Lib.hid hs
  have HP := Lib.hid hp
  obtain ⟨ad, cap, rfl, hl9, _⟩ := h
  obtain ⟨sa, sc, rfl, hsl, _⟩ := id hs
  obtain ⟨CK, hCK⟩ : ∃ x, x = w.heap.size := ⟨_, rfl⟩
  obtain ⟨w1, hw1⟩ : ∃ w1, w1 = w.alloc (.cells #[.int .u64 0, .int .u64 0, .int .u64 0, .int .u64 0] 89) := ⟨_, rfl⟩
  obtain ⟨CN, hCN⟩ : ∃ x, x = w1.heap.size := ⟨_, rfl⟩
  obtain ⟨w2, hw2⟩ : ∃ w2, w2 = w1.alloc (.cells #[.int .u32 0, .int .u32 0, .int .u32 0, .int .u32 0] 34) := ⟨_, rfl⟩
  have hx1 : w1.heap[CK]? = some (.cells (four .u64 fun _ => 0) 89 (0, 0)) := by rw [hw1, hCK]; exact heap_alloc_new w _
  have hb1 : Below w.heap.size w w1 := by rw [hw1]; exact ba (br w) _
  have hx2 : w2.heap[CN]? = some (.cells (four .u32 fun p => (sentP [] p).length) 34 (0, 0)) := by rw [hw2, hCN]; exact heap_alloc_new w1 _
  have hb2 : Below w1.heap.size w1 w2 := by rw [hw2]; exact ba (br w1) _
  have HO := Lib.hid (show StW w CK CN (.slice none 0 0) [] w2 from ⟨fun _ => 0, ⟨Hon.nil, fun m hm => (by cases hm), fun p hp => by simp, fun m hm => (by cases hm)⟩, ⟨rfl, .inl ⟨rfl, rfl⟩⟩, (hb2.block _ (Array.getElem?_eq_some_iff.1 hx1).1).trans hx1, hx2, bt hb1 hb2, by omega, by have := hb1.size; omega⟩)
  have HW := Lib.hid (And.intro hw1 (And.intro hCK (And.intro hw2 hCN)))
  clear hs hp hw1 hCK hw2 hCN hx1 hb1 hx2 hb2
  go_enter Tryd.func9, Tryd.ntmps9
  go_upto_region 3 with (fail)
  rw [← HW.out.1, ← HW.out.2.1]
  go_upto_region 4 with (fail)
  rw [← HW.out.2.2.1, ← HW.out.2.2.2]
  clear HW
  go_wp2_with fail
  go_loopw [5, 8] (fun u i wr => ∃ k : Nat, k ≤ l.length ∧ i = .int .i64 (k : Int) ∧ ∃ M, M.length = k ∧ Hid (StW w CK CN u M wr)) (fun _ i _ => l.length - (intOf i).toNat)
  case atStart => exact ⟨0, by omega, rfl, [], rfl, HO⟩
  case round =>
    obtain ⟨k, hk, rfl, M, hMk, HS⟩ := hrel
    by_cases hlt : k < l.length
    · have hbool : decide ((k : Int) < (l.length : Int)) = true := by simpa using hlt
      have hi0 : (k : Int) < (l.length : Int) := by omega
      obtain ⟨c, s1, s2, s3, s4, s5, s6, s7⟩ := HS.out.ex
      obtain ⟨ad', cap', e0, _, hm⟩ := id HL.out
      injection e0 with e0 e1 e2
      subst e0
      subst e2
      clear e1
      obtain ⟨g, o, rfl, hg, hrow, hpb⟩ := hm k hlt
      have hpk := HP.out l[k] (List.getElem_mem hlt)
      generalize l[k] = x at hrow hpb hpk
      have hrW : ∀ W, Below w.heap.size w W → W.rangeAt g (o + k * 4) (sentL x) := fun W hb j u hu => (hb.cell (p := ⟨g, o + k * 4 + j, none⟩) hg).trans (hrow j u hu)
      have y0 : wr.cell? ⟨g, o + k * 4, none⟩ = some (.int .i64 x.frm) := hrW wr s5 0 _ rfl
      obtain ⟨p, hp4, hpe⟩ := mod4 x.frm
      obtain ⟨au, cu, rfl⟩ := ownForm s2
      have HX := Lib.hid (And.intro hrW (And.intro hpb (And.intro hpk (And.intro hg hp4))))
      have hMl : M.length ≤ 30 := by omega
      have HM := Lib.hid (And.intro hMk (And.intro hk (And.intro hlt hl)))
      have HS2 := Lib.hid (show StW w CK CN (.slice au M.length cu) M wr from HS.out)
      clear hm s1 s2 s3 s4 s5 s6 s7 hrow hrW hpb hpk hg hp4 HS hMk hl
      go_upto_region 8 with (fail)
      clear y0
      rw [hpe]
      clear hpe
      go_upto_block 2 with (fail)
      go_cut [9] (fun s9 wx => s9 = .int .i64 (p : Int) ∧ Hid (StW w CK CN (.slice au M.length cu) M wx))
      case first =>
        go_wp2_with fail
        go_loopw [10] (fun j wr' => ∃ q : Nat, q ≤ M.length ∧ j = .int .i64 (q : Int) ∧ Hid (StW w CK CN (.slice au M.length cu) M wr')) (fun j _ => M.length - (intOf j).toNat)
        case atStart => exact ⟨0, by omega, rfl, HS2⟩
        case round =>
          obtain ⟨q, hq, rfl, HSq⟩ := hrel
          by_cases hqM : q < M.length
          · have hbq : decide ((q : Int) < (M.length : Int)) = true := by simpa using hqM
            have hbq2 : decide (q < M.length) = true := by simpa using hqM
            by_cases hks : k < ss.length
            · have hbs : decide ((k : Int) < (ss.length : Int)) = true := by simpa using hks
              have hbs2 : decide (k < ss.length) = true := by simpa using hks
              obtain ⟨c, s1, s2, s3, s4, s5, s6, s7⟩ := HSq.out.ex
              obtain ⟨_, _, e0, _, hsr⟩ := HSS.out.below s5
              injection e0 with e0 e1 e2
              subst e0
              subst e2
              clear e1
              obtain ⟨sg, so, rfl, hsg, hsk, hs256⟩ := hsr k hks
              generalize ss[k] = sk at hsk hs256
              have hsz : wr.heap.size = wr.heap.size := rfl
              obtain ⟨_, _, e0, _, hms⟩ := (RowsAt.of_own s2).rowsIn.msgsAt (own_len s2) (fun m hm => s1.ok hMl wr hm)
              injection e0 with e0 e1 e2
              subst e0
              subst e2
              clear e1
              obtain ⟨mg, mo, e3, hmg, hmr, _⟩ := hms q hqM
              subst e3
              have y2 : ∀ y : Bel wr, y.val.cell? ⟨mg, mo + q * 6 + 2, none⟩ = some (.int .u64 (M[q].stamp : Int)) := Bel.cell (hmr 2 _ rfl) hmg
              have yk : ∀ y : Bel wr, y.val.cell? ⟨sg, so + k, none⟩ = some (.int .u8 (sk : Int)) := Bel.cell hsk hsg
              have yc : ∀ y : Bel wr, y.val.cell? ⟨CK, p, none⟩ = some (.int .u64 (c p : Int)) := Bel.cell (by rw [cell_of_row _ _ p _ _ _ s3]; exact four_get _ _ HX.out.2.2.2.2) (Array.getElem?_eq_some_iff.1 s3).1
              have hp4 : (p : Int) < 4 := by have := HX.out.2.2.2.2; omega
              have hst : M[q].stamp ≤ 3 * M.length := by
                have hmM := List.getElem_mem (l := M) hqM
                obtain ⟨r, hr, e⟩ := s1.hon.frm _ hmM
                exact Nat.le_trans (s1.top _ hmM r e) (s1.low r hr)
              obtain ⟨st, hst2⟩ : ∃ st, st = M[q].stamp := ⟨_, rfl⟩
              rw [← hst2] at y2 hst
              obtain ⟨cp, hcp⟩ : ∃ x, x = c p := ⟨_, rfl⟩
              rw [← hcp] at yc
              have HC := Lib.hid (And.intro s1 (And.intro s2 (And.intro s3 (And.intro s4 (And.intro s5 (And.intro s6 (And.intro s7 (And.intro hst (And.intro hst2 hcp)))))))))
              have HQM := Lib.hid hqM
              clear s1 s2 s3 s4 s5 s6 s7 hst hst2 hcp hms hmr hsr hmg hsg hsk HSq HS2 hsz
              go_upto_region 11 with (fail)
              cases hsb : (bits BinOp.and IntKind.u8 ((sk : Int) / 2 ^ (q % 8)) 1 == 1)
              · refine wp_region_bel (by kernel_rfl) (by kernel_rfl) ?_
                repeat (go_big_quiet_step ((fail)))
                refine wpQuiet_nil ?_
                intro w3 hw3
                have HE := Lib.hid (show StW w CK CN (.slice (some ⟨mg, mo, none⟩) M.length cu) M w3 from by
                  obtain ⟨s1, s2, s3, s4, s5, s6, s7, _⟩ := HC.out
                  have hb3 := bel_out hw3
                  exact ⟨c, s1, own_keptS s2 (Kept.of_below (S := fun _ => False) hb3) (fun _ _ h => h), (hb3.block _ (Array.getElem?_eq_some_iff.1 s3).1).trans s3, (hb3.block _ (Array.getElem?_eq_some_iff.1 s4).1).trans s4, bt s5 hb3, s6, s7⟩)
                clear hw3 y2 yk yc HC
                go_wp2_with fail
                exact ⟨⟨q + 1, by have := HQM.out; omega, by go_num, HE⟩, by have := HQM.out; simp [intOf]; omega⟩
              · have hcm : ∀ w3, (∃ y : Bel wr, w3 = y.val) → (st ≤ cp → StW w CK CN (.slice (some ⟨mg, mo, none⟩) M.length cu) M w3) ∧ (cp < st → StW w CK CN (.slice (some ⟨mg, mo, none⟩) M.length cu) M (w3.setCell ⟨CK, p, none⟩ (.int .u64 (st : Int)))) ∧ w3.cell? ⟨mg, mo + q * 6 + 2, none⟩ = some (.int .u64 (st : Int)) ∧ w3.cell? ⟨CK, p, none⟩ = some (.int .u64 (cp : Int)) ∧ w3.frozen? ⟨CK, p, none⟩ = false := fun w3 hw3 => by
                  obtain ⟨s1, s2, s3, s4, s5, s6, s7, hst, hst2, hcp⟩ := HC.out
                  have hb3 := bel_out hw3
                  have t2 := own_keptS s2 (Kept.of_below (S := fun _ => False) hb3) (fun _ _ h => h)
                  have t3 := (hb3.block _ (Array.getElem?_eq_some_iff.1 s3).1).trans s3
                  have t4 := (hb3.block _ (Array.getElem?_eq_some_iff.1 s4).1).trans s4
                  obtain ⟨yy, rfl⟩ := hw3
                  refine ⟨fun _ => ⟨c, s1, t2, t3, t4, bt s5 hb3, s6, s7⟩, fun hlt => ?_, y2 yy, yc yy, frozen_of_row _ _ _ _ _ t3⟩
                  have hp := HX.out.2.2.2.2
                  have hk := kept_set yy.val CK p (.int .u64 (st : Int))
                  refine ⟨upd c p st, ⟨s1.hon, fun m hm r e => ?_, fun r hr => ?_, s1.pay⟩, own_keptS t2 hk (fun b hb e => ?_), ?_, hk.keep t4 (kind_ne t4 t3 (by decide)), hk.out (bt s5 hb3) (bt s5 hb3).size (fun b hb e => ?_), s6, s7⟩
                  · have := s1.top m hm r e
                    by_cases er : r = p
                    · subst er; rw [upd_same]; omega
                    · rw [upd_ne _ _ er]; exact this
                  · by_cases er : r = p
                    · subst er; rw [upd_same]; exact hst
                    · rw [upd_ne _ _ er]; exact s1.low r hr
                  · obtain ⟨c', fz, hc'⟩ := Lib.ownsRow_kind t2 b hb
                    exact kind_ne hc' t3 (by decide) e
                  · rw [setCell_block t3 p _, four_set _ _ hp]
                  · omega
                have HCM := Lib.hid hcm
                clear hcm
                by_cases hlt2 : cp < st
                · have hb1 : decide ((cp : Int) < (st : Int)) = true := by simpa using hlt2
                  have hb2 : decide (cp < st) = true := by simpa using hlt2
                  refine wp_region_bel (by kernel_rfl) (by kernel_rfl) ?_
                  repeat (go_big_quiet_step ((fail)))
                  refine wpQuiet_nil ?_
                  intro w3 hw3
                  obtain ⟨_, hE, z2, zc, zf⟩ := HCM.out w3 hw3
                  have HE := Lib.hid (hE hlt2)
                  clear hw3 y2 yk yc HC HCM hE
                  go_wp2_with fail
                  exact ⟨⟨q + 1, by have := HQM.out; omega, by go_num, HE⟩, by have := HQM.out; simp [intOf]; omega⟩
                · have hb1 : decide ((cp : Int) < (st : Int)) = false := by simpa using hlt2
                  have hb2 : decide (cp < st) = false := by simpa using hlt2
                  refine wp_region_bel (by kernel_rfl) (by kernel_rfl) ?_
                  repeat (go_big_quiet_step ((fail)))
                  refine wpQuiet_nil ?_
                  intro w3 hw3
                  obtain ⟨hE, _⟩ := HCM.out w3 hw3
                  have HE := Lib.hid (hE (by omega))
                  clear hw3 y2 yk yc HC HCM hE
                  go_wp2_with fail
                  exact ⟨⟨q + 1, by have := HQM.out; omega, by go_num, HE⟩, by have := HQM.out; simp [intOf]; omega⟩
            · have hbs : decide ((k : Int) < (ss.length : Int)) = false := by simpa using hks
              have hbs2 : decide (k < ss.length) = false := by simpa using hks
              have HE := Lib.hid HSq
              go_wp2_with fail
              go_meet
              exact ⟨rfl, HE.out⟩
          · have hbq : decide ((q : Int) < (M.length : Int)) = false := by simpa using hqM
            have hbq2 : decide (q < M.length) = false := by simpa using hqM
            have HE := Lib.hid HSq
            go_wp2_with fail
            go_meet
            exact ⟨rfl, HE.out⟩
      case rest =>
        obtain ⟨rfl, HS3⟩ := hcut
        obtain ⟨d, hd3, hde⟩ := mod3 x.later
        go_upto_region 13 with (fail)
        go_cut [9] (fun s9 wx => s9 = .int .i64 (p : Int) ∧ Hid (StB w CK CN (.slice au M.length cu) M p (fun r => (sentP M r).length) wx))
        case first =>
          --{
          obtain ⟨c, s1, s2, s3, s4, s5, s6, s7⟩ := HS3.out.ex
          have hp4 := HX.out.2.2.2.2
          have yl : ∀ y : Bel wc, y.val.cell? ⟨g, o + k * 4 + 1, none⟩ = some (.int .i64 x.later) := Bel.cell (HX.out.1 wc s5 1 _ rfl) (Nat.lt_of_lt_of_le HX.out.2.2.2.1 s5.size)
          have yc : ∀ y : Bel wc, y.val.cell? ⟨CK, p, none⟩ = some (.int .u64 (c p : Int)) := Bel.cell (by rw [cell_of_row _ _ p _ _ _ s3]; exact four_get _ _ hp4) (Array.getElem?_eq_some_iff.1 s3).1
          have hlow := s1.low p hp4
          obtain ⟨cp, hcp⟩ : ∃ z, z = c p := ⟨_, rfl⟩
          rw [← hcp] at yc hlow
          have HFIN := Lib.hid (show ∀ w3, (∃ y : Bel wc, w3 = y.val) → StB w CK CN (.slice au M.length cu) M p (fun r => (sentP M r).length) (w3.setCell ⟨CK, p, none⟩ (.int .u64 ((cp + 1 + d : Nat) : Int))) ∧ w3.cell? ⟨CK, p, none⟩ = some (.int .u64 (cp : Int)) ∧ w3.frozen? ⟨CK, p, none⟩ = false from fun w3 hw3 => by
            have hb3 := bel_out hw3
            have t2 := own_keptS s2 (Kept.of_below (S := fun _ => False) hb3) (fun _ _ h => h)
            have t3 := (hb3.block _ (Array.getElem?_eq_some_iff.1 s3).1).trans s3
            have t4 := (hb3.block _ (Array.getElem?_eq_some_iff.1 s4).1).trans s4
            obtain ⟨yy, rfl⟩ := hw3
            have hk := kept_set yy.val CK p (.int .u64 ((cp + 1 + d : Nat) : Int))
            refine ⟨⟨upd c p (cp + 1 + d), by rw [hcp]; exact s1.step hp4 hd3, own_keptS t2 hk (fun b hb e => ?_), ?_, hk.keep t4 (kind_ne t4 t3 (by decide)), hk.out (bt s5 hb3) (bt s5 hb3).size (fun b hb e => ?_), s6, s7⟩, yc yy, frozen_of_row _ _ _ _ _ t3⟩
            · obtain ⟨c', fz, hc'⟩ := Lib.ownsRow_kind t2 b hb
              exact kind_ne hc' t3 (by decide) e
            · rw [setCell_block t3 p _, four_set _ _ hp4]
            · omega)
          have hA : IntKind.u64.wrap ((cp : Int) + 1) = ((cp + 1 : Nat) : Int) := by simp [IntKind.wrap, IntKind.signed, IntKind.bits]; omega
          have hB : IntKind.u64.wrap (((cp + 1 : Nat) : Int) + (d : Int)) = ((cp + 1 + d : Nat) : Int) := by simp [IntKind.wrap, IntKind.signed, IntKind.bits]; omega
          have hp4 : (p : Int) < 4 := by omega
          generalize ((cp + 1 + d : Nat) : Int) = ST at *
          generalize ((cp + 1 : Nat) : Int) = SU at *
          clear s1 s2 s3 s4 s5 s6 s7 hcp hlow HS3
          refine wp_region_bel_tail 13 (by kernel_rfl) (by kernel_rfl) ?_
          simp only [List.take_succ_cons, List.take_zero, List.drop_succ_cons, List.drop_zero]
          repeat (go_big_quiet_step ((fail)))
          refine wpQuiet_nil ?_
          intro w3 hw3
          obtain ⟨hE, zc, zf⟩ := HFIN.out w3 hw3
          have HE := Lib.hid hE
          clear hw3 hE yl yc HFIN
          go_wp2_with fail
          go_meet
          exact ⟨rfl, HE.out⟩
          --}
        case rest =>
          obtain ⟨rfl, HS4⟩ := hcut
          go_upto_region 14 with (fail)
          go_cut [9] (fun s9 wx => s9 = .int .i64 (p : Int) ∧ Hid (StB w CK CN (.slice au M.length cu) M p (upd (fun r => (sentP M r).length) p ((sentP M p).length + 1)) wx))
          case first =>
            --{
            obtain ⟨c, s1, s2, s3, s4, s5, s6, s7⟩ := HS4.out.ex
            have hp4 := HX.out.2.2.2.2
            have yn : wc.cell? ⟨CN, p, none⟩ = some (.int .u32 ((sentP M p).length : Int)) := by rw [cell_of_row _ _ p _ _ _ s4]; exact four_get _ _ hp4
            have fn := frozen_of_row _ _ p _ _ s4
            have hlow := sent_len M p
            obtain ⟨np, hnp⟩ : ∃ z, z = (sentP M p).length := ⟨_, rfl⟩
            have HNP := Lib.hid hnp
            rw [← hnp] at yn hlow
            have HE := Lib.hid (show StB w CK CN (.slice au M.length cu) M p (upd (fun r => (sentP M r).length) p (np + 1)) (wc.setCell ⟨CN, p, none⟩ (.int .u32 ((np + 1 : Nat) : Int))) from by
              have hk := kept_set wc CN p (.int .u32 ((np + 1 : Nat) : Int))
              refine ⟨c, s1, own_keptS s2 hk (fun b hb e => ?_), hk.keep s3 (kind_ne s3 s4 (by decide)), ?_, hk.out s5 s5.size (fun b hb e => ?_), s6, s7⟩
              · obtain ⟨c', fz, hc'⟩ := Lib.ownsRow_kind s2 b hb
                exact kind_ne hc' s4 (by decide) e
              · rw [setCell_block s4 p _, four_set _ _ hp4]
              · omega)
            have hA : IntKind.u32.wrap ((np : Int) + 1) = ((np + 1 : Nat) : Int) := by simp [IntKind.wrap, IntKind.signed, IntKind.bits]; omega
            have hp4 : (p : Int) < 4 := by omega
            generalize ((np + 1 : Nat) : Int) = SU at *
            clear s1 s2 s3 s4 s5 s6 s7 hnp hlow HS4
            go_wp2_with fail
            go_meet
            exact ⟨rfl, by rw [← HNP.out]; exact HE.out⟩
            --}
          case rest =>
            obtain ⟨rfl, HS5⟩ := hcut
            go_upto_region 15 with (fail)
            obtain ⟨c, s1, s2, s3, s4, s5, s6, s7⟩ := HS5.out.ex
            have hp4 := HX.out.2.2.2.2
            have hp4' : (p : Int) < 4 := by omega
            have hr4 := HX.out.1
            have hg4 := HX.out.2.2.2.1
            obtain ⟨i0, hi, hz0, hz1, hz2⟩ := info_parts info42
            have hcn : wc.cell? ⟨CN, p, none⟩ = some (.int .u32 (((sentP M p).length + 1 : Nat) : Int)) := by rw [cell_of_row _ _ p _ _ _ s4, four_get _ _ hp4, upd_same]
            have hck : wc.cell? ⟨CK, p, none⟩ = some (.int .u64 (c p : Int)) := by rw [cell_of_row _ _ p _ _ _ s3, four_get _ _ hp4]
            obtain ⟨np, hnp⟩ : ∃ z, z = (sentP M p).length + 1 := ⟨_, rfl⟩
            obtain ⟨cp, hcp⟩ : ∃ z, z = c p := ⟨_, rfl⟩
            rw [← hnp] at hcn
            rw [← hcp] at hck
            have hc2 := hr4 wc s5 2 _ rfl
            have hc3 := hr4 wc s5 3 _ rfl
            have HS := Lib.hid (show ∀ W, Kept (fun b => (Value.slice au M.length cu).ownBlock = some b) wc W → W.cell? ⟨CN, p, none⟩ = some (.int .u32 (np : Int)) ∧ W.cell? ⟨CK, p, none⟩ = some (.int .u64 (cp : Int)) ∧ W.cell? ⟨g, o + k * 4 + 2, none⟩ = some (.int .i64 x.service) ∧ W.cell? ⟨g, o + k * 4 + 3, none⟩ = some (.string x.pay) from fun W hk => by
              have n1 : ¬ (Value.slice au M.length cu).ownBlock = some CN := fun e => by
                obtain ⟨c', fz, hc'⟩ := Lib.ownsRow_kind s2 CN e
                exact kind_ne hc' s4 (by decide) rfl
              have n2 : ¬ (Value.slice au M.length cu).ownBlock = some CK := fun e => by
                obtain ⟨c', fz, hc'⟩ := Lib.ownsRow_kind s2 CK e
                exact kind_ne hc' s3 (by decide) rfl
              have n3 : ¬ (Value.slice au M.length cu).ownBlock = some g := fun e => by
                have := (s2.lt g e).1
                omega
              have hg5 : g < wc.heap.size := Nat.lt_of_lt_of_le hg4 s5.size
              exact ⟨(hk.cell (p := ⟨CN, p, none⟩) (Array.getElem?_eq_some_iff.1 s4).1 n1).trans hcn, (hk.cell (p := ⟨CK, p, none⟩) (Array.getElem?_eq_some_iff.1 s3).1 n2).trans hck, (hk.cell (p := ⟨g, _, none⟩) hg5 n3).trans hc2, (hk.cell (p := ⟨g, _, none⟩) hg5 n3).trans hc3⟩)
            have hS0 := HS.out wc.drew (Kept.of_below (br wc).drew)
            have HZ := Lib.hid (And.intro s1 (And.intro s2 (And.intro s3 (And.intro s4 (And.intro s5 (And.intro s6 (And.intro s7 (And.intro hnp hcp))))))))
            clear s1 s2 s3 s4 s5 s6 s7 hcn hck hc2 hc3 hr4 hg4 hnp hcp HS5
            refine wp_region_mask (fun w' => w'.cell? ⟨CN, p, none⟩ = some (.int .u32 (np : Int)) ∧ w'.cell? ⟨CK, p, none⟩ = some (.int .u64 (cp : Int)) ∧ w'.cell? ⟨g, o + k * 4 + 2, none⟩ = some (.int .i64 x.service) ∧ w'.cell? ⟨g, o + k * 4 + 3, none⟩ = some (.string x.pay)) 24 4 [true, true, true, true, true, true, true, true, true, true, true, true, true, true, true, true, true, true, true, true, true, false, false, false, false] #[true, true, true, true, true, true, true, true, true, true, true, true, true, true, true, true, true, true, true, true, true, false, false, false, false] (by kernel_rfl) (by kernel_rfl) (by kernel_rfl) hS0 ?_
            have hbW : Below wc.heap.size wc wc.drew := (br wc).drew
            have HBW := Lib.hid hbW
            clear hbW hS0
            generalize wc.drew = W at *
            iterate 21
              refine wpMask_take _ (Or.inl ⟨by rfl, fun w' hS => by (try dsimp only at hS); go_simp; try with_reducible rfl⟩) ?_
              simp only [Act.put, List.setIfInBounds_toArray, List.set_cons_zero, List.set_cons_succ]
            refine wpMask_skip (wpMask_skip (wpMask_skip (wpMask_skip (wpMask_nil ?_))))
            refine wpAnyS_ready (rs := [21]) (by kernel_rfl) (by simp) ?_
            refine AllReadyS.cons rfl (fun K hK => ?_) AllReadyS.nil
            go_simp
            refine hK.out _ _ (fun _ => HS.out _ (Kept.of_below HBW.out)) ?_
            clear hK K
            simp only [Act.put, List.getElem_toArray, List.getElem_cons_succ, List.getElem_cons_zero, List.setIfInBounds_toArray, List.set_cons_zero, List.set_cons_succ]
            refine wpAnyS_ready (rs := [22]) (by kernel_rfl) (by simp) ?_
            refine AllReadyS.cons rfl (fun K hK => ?_) AllReadyS.nil
            refine step_buildSlice_row rfl 27 (.tmp 104) rfl 42 i0 _ Tryd.underlying27 hi hz0 (msgA ⟨(p : Int), np, cp, IntKind.i64.wrap ((IntKind.u64.wrap x.service).tmod 3), [], x.pay, none, 0⟩) rfl (by rw [hz1]; rfl) (by exact of_decide_eq_true rfl) (by exact of_decide_eq_true rfl) ?_
            obtain ⟨m, hm⟩ : ∃ m : Msg, m = ⟨(p : Int), np, cp, IntKind.i64.wrap ((IntKind.u64.wrap x.service).tmod 3), [], x.pay, none, 0⟩ := ⟨_, rfl⟩
            rw [← hm]
            have HM2 := Lib.hid hm
            clear hm
            have hown := ownOne W w.heap.size 42 (msgA m) 6 rfl (bt HZ.out.2.2.2.2.1 HBW.out).size
            have hba := ba (bt HZ.out.2.2.2.2.1 HBW.out) (.cells (msgA m) 42)
            have hbb := ba HBW.out (.cells (msgA m) 42)
            refine hK.out _ _ (fun _ => HS.out _ (Kept.of_below hbb)) ?_
            clear hK K
            generalize W.alloc (.cells (msgA m) 42) = W2 at *
            simp only [Act.put, List.getElem_toArray, List.getElem_cons_succ, List.getElem_cons_zero, List.setIfInBounds_toArray, List.set_cons_zero, List.set_cons_succ]
            have hop := own_keptS HZ.out.2.1 (Kept.of_below (S := fun _ => False) hbb) (fun _ _ h => h)
            have HB2 := Lib.hid (And.intro hown (And.intro hop (And.intro hba hbb)))
            have hbs := hba.size
            clear hba hbb hown hop
            refine wpAnyS_ready (rs := [23]) (by kernel_rfl) (by simp) ?_
            refine AllReadyS.cons rfl (fun K hK => ?_) AllReadyS.nil
            refine step_append_any _ rfl (.tmp 83) (.tmp 105) 27 rfl w.heap.size 42 i0 _ 6 72 Tryd.underlying27 hi hz0 hz1 hz2 rfl (by decide) _ M.length (rowsM M) rfl HB2.out.2.1 _ _ 1 1 (msgA m).toList rfl (Reads.of_own HB2.out.1) (msgA_one m) (by unfold maxLen; omega) (by omega) hbs ?_
            intro v8 w8 ho8 hg8 hu8
            have hk8 : Kept (fun b => (Value.slice au M.length cu).ownBlock = some b) W2 w8 := (Kept.of_grown' hg8).more fun q _ e => by
              obtain ⟨b, hb, rfl⟩ := e
              exact hb
            have hS8 := HS.out w8 ((Kept.of_below HB2.out.2.2.2).trans hk8)
            have HE := Lib.hid (show StW w CK CN v8 (M ++ [m]) w8 from by
              obtain ⟨s1, s2, s3, s4, s5, s6, s7, hnp, hcp⟩ := HZ.out
              obtain ⟨_, _, hba, hbb⟩ := HB2.out
              have hf : m.frm = (p : Int) := by rw [HM2.out]
              have hkk := (Kept.of_below (S := fun b => (Value.slice au M.length cu).ownBlock = some b) hbb).trans hk8
              refine ⟨c, s1.send hp4 hf (by rw [HM2.out]; exact hnp) (by rw [HM2.out]; exact hcp) (by rw [HM2.out]) (by rw [HM2.out]) (by rw [HM2.out]; exact HX.out.2.2.1), ?_, hkk.keep s3 (fun e => ?_), ?_, hk8.out hba hba.size (fun b hb e => ?_), s6, s7⟩
              · rw [rowsM_snoc, List.length_append]
                exact ho8
              · obtain ⟨c', fz, hc'⟩ := Lib.ownsRow_kind s2 CK e
                exact kind_ne hc' s3 (by decide) rfl
              · rw [← cnt_snoc hf]
                exact hkk.keep s4 (fun e => by
                  obtain ⟨c', fz, hc'⟩ := Lib.ownsRow_kind s2 CN e
                  exact kind_ne hc' s4 (by decide) rfl)
              · have := (s2.lt b e).1
                omega)
            refine hK.out _ _ (fun _ => hS8) ?_
            obtain ⟨a8, c8, rfl⟩ := ownForm ho8
            clear hK K hS8 hk8 ho8 hg8 hu8 HS HZ HB2 HBW
            simp only [Act.put, List.getElem_toArray, List.getElem_cons_succ, List.getElem_cons_zero, List.setIfInBounds_toArray, List.set_cons_zero, List.set_cons_succ]
            refine wpAnyS_ready (rs := [24]) (by kernel_rfl) (by simp) ?_
            refine AllReadyS.cons rfl (fun K hK => ?_) AllReadyS.nil
            go_simp
            refine hK.out _ _ (fun h => absurd h (by decide)) ?_
            clear hK K
            simp only [Act.put, List.getElem_toArray, List.getElem_cons_succ, List.getElem_cons_zero, List.setIfInBounds_toArray, List.set_cons_zero, List.set_cons_succ]
            refine wpAnyS_done (by kernel_rfl) ?_ _
            have HE2 := Lib.hid (show ∃ M', M'.length = k + 1 ∧ Hid (StW w CK CN (.slice a8 (M.length + 1) c8) M' w8) from ⟨M ++ [m], by have := HM.out.1; simp; omega, HE⟩)
            have HKL := Lib.hid HM.out.2.2.1
            clear HE HM HM2 HX HP hp4 hp4' hbs
            go_wp2_with fail
            exact ⟨⟨k + 1, by have := HKL.out; omega, by go_num, HE2.out⟩, by have := HKL.out; simp [intOf]; omega⟩
    · have hbool : decide ((k : Int) < (l.length : Int)) = false := by simpa using hlt
      obtain ⟨c, s1, s2, s3, s4, s5, s6, s7⟩ := HS.out.ex
      have HE := Lib.hid (show ∃ (N : List Msg) (d : Nat → Nat), Stp N d ∧ N.length = l.length ∧ wr.ownsRow w.heap.size 42 6 u5 N.length (rowsM N) ∧ Below w.heap.size w wr from ⟨M, c, s1, by omega, s2, s5⟩)
      clear s1 s2 s3 s4 s5 s6 s7 HS HO
      go_wp2_with fail
      go_ret
      obtain ⟨N, d, h1, h2, h3, h4⟩ := HE.out
      exact ⟨_, N, d, rfl, h1, h2, h3, h4⟩
end Go.Proofs.YtgjlcjbmcnofiaaDoor
