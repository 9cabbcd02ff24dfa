/-
  What holds of a hold behind a script, in plain.
  Conditions: none.
-/
import Derived.Test.YtgjlcjbmcnofiaaDoorHoldFH
import Derived.Test.YtgjlcjbmcnofiaaDoorSortC
namespace Go.Proofs.YtgjlcjbmcnofiaaDoor
set_option linter.unusedVariables false
set_option linter.unusedSimpArgs false
open Go.RowKit
theorem allN_upd_ge (R : Nat → List Msg) (p : Nat) (L : List Msg) : ∀ t, t ≤ p → allN (upd R p L) t = allN R t := by
  intro t
  induction t with
  | zero => intro _; rfl
  | succ t ih => intro h; rw [allN_succ, allN_succ, ih (by omega), upd_ne _ _ (by omega)]
theorem allN_upd_lt (R : Nat → List Msg) (p : Nat) (L : List Msg) : ∀ t, p < t → (allN (upd R p L) t).length + (R p).length = (allN R t).length + L.length := by
  intro t
  induction t with
  | zero => intro h; omega
  | succ t ih =>
    intro h
    rw [allN_succ, allN_succ, List.length_append, List.length_append]
    by_cases e : p = t
    · subst e; rw [allN_upd_ge R p L p (Nat.le_refl _), upd_same]; omega
    · rw [upd_ne _ _ (Ne.symm e)]
      have := ih (by omega)
      omega
/-- what holds of a hold behind k acts -/
structure InvH (k : Nat) (lo : Nat → Nat) (R : Nat → List Msg) : Prop where
  numb : ∀ p, p < 64 → ∀ j (h : j < (R p).length), (R p)[j].frm = (p : Int) ∧ (R p)[j].seq = lo p + j + 1
  ds : ∀ p, p < 64 → ∀ m ∈ R p, m.ds.length ≤ 20000
  cnt : ∀ p, p < 64 → lo p + (R p).length ≤ k
  tot : (allN R 64).length ≤ k
theorem InvH.zero : InvH 0 lo0 R0 := ⟨(fun p _ j h => by simp [R0] at h), (fun p _ m hm => by cases hm), (fun p _ => by simp [lo0, R0]), by decide⟩
theorem InvH.more {k : Nat} {lo : Nat → Nat} {R : Nat → List Msg} (h : InvH k lo R) : InvH (k + 1) lo R :=
  ⟨h.numb, h.ds, fun p hp => Nat.le_succ_of_le (h.cnt p hp), Nat.le_succ_of_le h.tot⟩
theorem InvH.bd {k : Nat} {lo : Nat → Nat} {R : Nat → List Msg} (h : InvH k lo R) (hk : k ≤ 1000) : HoldBd lo R := fun p hp => by have := h.cnt p hp; omega
theorem InvH.ds6 {k : Nat} {lo : Nat → Nat} {R : Nat → List Msg} (h : InvH k lo R) : ∀ p, p < 64 → ∀ m ∈ R p, m.ds.length ≤ 1000000 := fun p hp m hm => by have := h.ds p hp m hm; omega
theorem InvH.put {k : Nat} {lo : Nat → Nat} {R : Nat → List Msg} {p : Nat} {m m' : Msg} (h : InvH k lo R) (hp : p < 64) (hf : m.frm = (p : Int)) (hs : m.seq = lo p + (R p).length + 1) (hd : m.ds.length ≤ 20000) (hc : core m' = core m) : InvH (k + 1) lo (upd R p (R p ++ [m'])) := by
  obtain ⟨c1, c2, c3, c4, c5, c6⟩ := core_iff.1 hc
  refine ⟨fun q hq j hj => ?_, fun q hq x hx => ?_, fun q hq => ?_, ?_⟩
  · by_cases e : q = p
    · subst e
      have e1 : upd R q (R q ++ [m']) q = R q ++ [m'] := upd_same _ _ _
      simp only [e1] at hj ⊢
      rw [List.length_append] at hj
      by_cases hlt : j < (R q).length
      · rw [List.getElem_append_left hlt]; exact h.numb q hq j hlt
      · have hje : j = (R q).length := by simp at hj; omega
        subst hje
        rw [List.getElem_append_right (Nat.le_refl _)]
        simp only [Nat.sub_self, List.getElem_cons_zero]
        exact ⟨by rw [c1, hf], by rw [c2, hs]⟩
    · have e1 : upd R p (R p ++ [m']) q = R q := upd_ne _ _ e
      simp only [e1] at hj ⊢
      exact h.numb q hq j hj
  · by_cases e : q = p
    · subst e
      rw [upd_same] at hx
      rcases List.mem_append.1 hx with h1 | h1
      · exact h.ds q hq x h1
      · simp at h1; rw [h1, c5]; exact hd
    · rw [upd_ne _ _ e] at hx; exact h.ds q hq x hx
  · have := h.cnt q hq
    by_cases e : q = p
    · subst e; rw [upd_same]; simp; omega
    · rw [upd_ne _ _ e]; omega
  · have h1 := allN_upd_lt R p (R p ++ [m']) 64 hp
    have h2 := h.tot
    simp at h1
    omega
theorem InvH.drop {k : Nat} {lo : Nat → Nat} {R : Nat → List Msg} (h : InvH k lo R) (p : Int) (upto : Nat) : InvH (k + 1) (dropLo lo R p upto) (dropR lo R p upto) := by
  unfold dropLo dropR
  by_cases hc : dropC lo R p upto = true
  · rw [if_pos hc, if_pos hc]
    unfold dropC at hc
    simp only [Bool.and_eq_true, decide_eq_true_eq] at hc
    have hpp : 0 ≤ p ∧ p < 64 := by simpa [procB] using hc.1
    obtain ⟨q, hq⟩ : ∃ q : Nat, p = (q : Int) := ⟨p.toNat, by omega⟩
    subst hq
    rw [Int.toNat_natCast] at hc ⊢
    have hq64 : q < 64 := by omega
    obtain ⟨e, he⟩ : ∃ e, e = min upto (lo q + (R q).length) := ⟨_, rfl⟩
    rw [← he] at hc ⊢
    refine ⟨fun r hr j hj => ?_, fun r hr x hx => ?_, fun r hr => ?_, ?_⟩
    · by_cases er : r = q
      · subst er
        have e1 : upd R r ((R r).drop (e - lo r)) r = (R r).drop (e - lo r) := upd_same _ _ _
        simp only [e1, upd_same] at hj ⊢
        rw [List.length_drop] at hj
        rw [List.getElem_drop]
        have := h.numb r hr (e - lo r + j) (by omega)
        exact ⟨this.1, by rw [this.2]; omega⟩
      · have e1 : upd R q ((R q).drop (e - lo q)) r = R r := upd_ne _ _ er
        simp only [e1] at hj ⊢
        rw [upd_ne lo e er]
        exact h.numb r hr j hj
    · by_cases er : r = q
      · subst er; rw [upd_same] at hx; exact h.ds r hr x (List.mem_of_mem_drop hx)
      · rw [upd_ne _ _ er] at hx; exact h.ds r hr x hx
    · have := h.cnt r hr
      by_cases er : r = q
      · subst er; rw [upd_same, upd_same, List.length_drop]; omega
      · rw [upd_ne _ _ er, upd_ne _ _ er]; omega
    · have h1 := allN_upd_lt R q ((R q).drop (e - lo q)) 64 hq64
      have h2 := h.tot
      rw [List.length_drop] at h1
      omega
  · rw [if_neg hc, if_neg hc]
    exact h.more
theorem InvH.get {k : Nat} {lo : Nat → Nat} {R : Nat → List Msg} (h : InvH k lo R) {p : Nat} (hp : p < 64) {m : Msg} (hm : m ∈ R p) : getZ lo R m.frm m.seq = some m := by
  obtain ⟨j, hj, rfl⟩ := List.mem_iff_getElem.1 hm
  obtain ⟨h1, h2⟩ := h.numb p hp j hj
  unfold getZ
  rw [h1, h2, Int.toNat_natCast, if_pos ⟨by simp [procB]; omega, by omega, by omega⟩]
  rw [show lo p + j + 1 - lo p - 1 = j by omega, gm_get hj]
end Go.Proofs.YtgjlcjbmcnofiaaDoor
namespace Go.Proofs.YtgjlcjbmcnofiaaDoor
set_option linter.unusedVariables false
set_option linter.unusedSimpArgs false
open Go.RowKit
/-- rows that read alike -/
def Like (R S : Nat → List Msg) : Prop := ∀ p, (R p).map core = (S p).map core
theorem Like.len {R S : Nat → List Msg} (h : Like R S) (p : Nat) : (R p).length = (S p).length := by simpa using congrArg List.length (h p)
theorem Like.putK {R S : Nat → List Msg} (h : Like R S) (lo : Nat → Nat) (m : Msg) : putK lo R m = putK lo S m := by
  unfold Go.Proofs.YtgjlcjbmcnofiaaDoor.putK
  rw [h.len]
theorem Like.dropC {R S : Nat → List Msg} (h : Like R S) (lo : Nat → Nat) (p : Int) (u : Nat) : dropC lo R p u = dropC lo S p u := by
  unfold Go.Proofs.YtgjlcjbmcnofiaaDoor.dropC
  rw [h.len]
theorem Like.dropLo {R S : Nat → List Msg} (h : Like R S) (lo : Nat → Nat) (p : Int) (u : Nat) : dropLo lo R p u = dropLo lo S p u := by
  unfold Go.Proofs.YtgjlcjbmcnofiaaDoor.dropLo
  rw [h.dropC, h.len]
theorem Like.upd {R S : Nat → List Msg} (h : Like R S) (p : Nat) {L K : List Msg} (e : L.map core = K.map core) : Like (upd R p L) (upd S p K) := fun q => by
  by_cases eq : q = p
  · subst eq; rw [upd_same, upd_same]; exact e
  · rw [upd_ne _ _ eq, upd_ne _ _ eq]; exact h q
theorem Like.dropR {R S : Nat → List Msg} (h : Like R S) (lo : Nat → Nat) (p : Int) (u : Nat) : Like (dropR lo R p u) (dropR lo S p u) := by
  unfold Go.Proofs.YtgjlcjbmcnofiaaDoor.dropR
  rw [h.dropC, h.len]
  split
  · exact h.upd _ (by rw [List.map_drop, List.map_drop, h])
  · exact h
theorem Like.put {R S : Nat → List Msg} (h : Like R S) {m m' : Msg} (hc : core m' = core m) : Like (Go.Proofs.YtgjlcjbmcnofiaaDoor.upd R m.frm.toNat (R m.frm.toNat ++ [m'])) (Go.Proofs.YtgjlcjbmcnofiaaDoor.upd S m.frm.toNat (S m.frm.toNat ++ [m])) :=
  h.upd _ (by rw [List.map_append, List.map_append, h, List.map_singleton, List.map_singleton, hc])
theorem Like.trans {R S T : Nat → List Msg} (h : Like R S) (k : Like S T) : Like R T := fun p => (h p).trans (k p)
theorem Like.symm {R S : Nat → List Msg} (h : Like R S) : Like S R := fun p => (h p).symm
/-- the same order of what reads alike -/
def insC (x : Msg) : List Msg → List Msg → Prop := fun a b => (insM x a).map core = (insM x b).map core
theorem keyM_core {a b : Msg} (h : core a = core b) : keyM a = keyM b := by
  obtain ⟨p1, _, p3, _⟩ := core_iff.1 h
  unfold keyM; rw [p1, p3]
theorem ltM_core {a b c d : Msg} (h : core a = core b) (k : core c = core d) : ltM a c = ltM b d := by
  rw [Bool.eq_iff_iff, ltM_iff, ltM_iff, keyM_core h, keyM_core k]
theorem insM_core {x y : Msg} (h : core x = core y) : ∀ {a b : List Msg}, a.map core = b.map core → (insM x a).map core = (insM y b).map core
  | [], [], _ => by simp [insM, h]
  | u :: a, v :: b, e => by
    simp only [List.map_cons, List.cons.injEq] at e
    have ih := insM_core h e.2
    unfold insM
    rw [ltM_core h e.1]
    split <;> simp [h, e.1, e.2, ih]
  | [], v :: b, e => by simp at e
  | u :: a, [], e => by simp at e
theorem sortM_go_core : ∀ {a b : List Msg} {o p : List Msg}, a.map core = b.map core → o.map core = p.map core → (a.foldl (fun o x => insM x o) o).map core = (b.foldl (fun o x => insM x o) p).map core
  | [], [], _, _, _, e => e
  | u :: a, v :: b, o, p, h, e => by
    simp only [List.map_cons, List.cons.injEq] at h
    rw [List.foldl_cons, List.foldl_cons]
    exact sortM_go_core h.2 (insM_core h.1 e)
  | [], v :: b, _, _, h, _ => by simp at h
  | u :: a, [], _, _, h, _ => by simp at h
theorem sortM_core {a b : List Msg} (h : a.map core = b.map core) : (sortM a).map core = (sortM b).map core := sortM_go_core h rfl
theorem keyAh_core' {a b : Int} {x y : Msg} (h : core x = core y) : keyAh a b x = keyAh a b y := by
  obtain ⟨h1, _, h3, _⟩ := core_iff.1 h
  unfold keyAh
  rw [h1, h3]
theorem filter_core' {a b : Int} : ∀ {L K : List Msg}, L.map core = K.map core → (L.filter (keyAh a b)).map core = (K.filter (keyAh a b)).map core
  | [], [], _ => rfl
  | x :: L, y :: K, h => by
    simp only [List.map_cons, List.cons.injEq] at h
    have := filter_core' (a := a) (b := b) h.2
    rw [List.filter_cons, List.filter_cons, keyAh_core' h.1]
    split <;> simp [this, h.1]
  | [], y :: K, h => by simp at h
  | x :: L, [], h => by simp at h
theorem Like.above {R S : Nat → List Msg} (h : Like R S) (a b : Int) : ∀ t, (aboveN R a b t).map core = (aboveN S a b t).map core
  | 0 => rfl
  | t + 1 => by rw [aboveN_succ, aboveN_succ, List.map_append, List.map_append, h.above a b t, filter_core' (h t)]
theorem Like.sorted {R S : Nat → List Msg} (h : Like R S) (a b : Int) : (sortM (aboveN R a b 64)).map core = (sortM (aboveN S a b 64)).map core := sortM_core (h.above a b 64)
end Go.Proofs.YtgjlcjbmcnofiaaDoor
namespace Go.Proofs.YtgjlcjbmcnofiaaDoor
set_option linter.unusedVariables false
set_option linter.unusedSimpArgs false
open Go.RowKit
/-- those of a sender -/
def ofP (A : List Msg) (p : Int) : List Msg := A.filter fun m => decide (m.frm = p)
def cntA (A : List Msg) (p : Int) : Nat := (ofP A p).length
def getA (A : List Msg) (lo : Nat → Nat) (p : Int) (seq : Nat) : Option Msg := A.find? fun m => decide (m.frm = p) && (decide (m.seq = seq) && decide (lo p.toNat < seq))
def fromA (A : List Msg) (lo : Nat → Nat) (p : Int) (seq n : Nat) : List Msg := (List.range n).flatMap fun i => if seq ≤ i + 1 then (getA A lo p (i + 1)).toList else []
def aboveA (A : List Msg) (lo : Nat → Nat) (a b : Int) (t : Nat) : List Msg := (List.range t).flatMap fun p : Nat => (fromA A lo (p : Int) 0 (cntA A (p : Int))).filter (keyAh a b)
theorem fromA_succ (A : List Msg) (lo : Nat → Nat) (p : Int) (seq n : Nat) : fromA A lo p seq (n + 1) = fromA A lo p seq n ++ if seq ≤ n + 1 then (getA A lo p (n + 1)).toList else [] := by
  unfold fromA; rw [List.range_succ, List.flatMap_append, List.flatMap_singleton]
theorem aboveA_succ (A : List Msg) (lo : Nat → Nat) (a b : Int) (t : Nat) : aboveA A lo a b (t + 1) = aboveA A lo a b t ++ (fromA A lo (t : Int) 0 (cntA A (t : Int))).filter (keyAh a b) := by
  unfold aboveA; rw [List.range_succ, List.flatMap_append, List.flatMap_singleton]
theorem ofP_len (A : List Msg) (p : Int) : (ofP A p).length ≤ A.length := List.length_filter_le _ _
theorem cntA_take_succ {A : List Msg} {k : Nat} (hk : k < A.length) (p : Int) : cntA (A.take (k + 1)) p = cntA (A.take k) p + if A[k].frm = p then 1 else 0 := by
  unfold cntA ofP
  rw [List.take_succ_eq_append_getElem hk, List.filter_append, List.length_append, List.filter_cons]
  by_cases h : A[k].frm = p <;> simp [h]
theorem getA_mem {A : List Msg} {lo : Nat → Nat} {p : Int} {seq : Nat} {m : Msg} (h : getA A lo p seq = some m) : m ∈ A := List.mem_of_find?_eq_some h
theorem fromA_mem {A : List Msg} {lo : Nat → Nat} {p : Int} {seq n : Nat} {m : Msg} (h : m ∈ fromA A lo p seq n) : m ∈ A := by
  unfold fromA at h
  obtain ⟨i, _, h⟩ := List.mem_flatMap.1 h
  split at h
  · exact getA_mem (Option.mem_toList.1 h)
  · cases h
theorem fromA_len (A : List Msg) (lo : Nat → Nat) (p : Int) (seq : Nat) : ∀ n, (fromA A lo p seq n).length ≤ n
  | 0 => by simp [fromA]
  | n + 1 => by
    have := fromA_len A lo p seq n
    rw [fromA_succ, List.length_append]
    split
    · cases getA A lo p (n + 1) <;> simp <;> omega
    · simp; omega
/-- the reference's list goes with the hold's rows -/
structure RefH (A : List Msg) (lo : Nat → Nat) (R : Nat → List Msg) : Prop where
  num : ∀ p : Nat, p < 64 → ∀ j (h : j < (ofP A (p : Int)).length), (ofP A (p : Int))[j].seq = j + 1
  rows : ∀ p, p < 64 → (R p).map core = ((ofP A (p : Int)).drop (lo p)).map core
  le : ∀ p, p < 64 → lo p ≤ (ofP A (p : Int)).length
  frm : ∀ m ∈ A, procB m.frm = true
theorem RefH.zero : RefH [] lo0 R0 := ⟨fun p _ j h => by simp [ofP] at h, fun p _ => rfl, fun p _ => Nat.zero_le _, fun m hm => by cases hm⟩
theorem RefH.len {A : List Msg} {lo : Nat → Nat} {R : Nat → List Msg} (h : RefH A lo R) {p : Nat} (hp : p < 64) : lo p + (R p).length = (ofP A (p : Int)).length := by
  have h1 := congrArg List.length (h.rows p hp)
  have h2 := h.le p hp
  rw [List.length_map, List.length_map, List.length_drop] at h1
  omega
theorem procB_iff {p : Int} : procB p = true ↔ 0 ≤ p ∧ p < 64 := by simp [procB]
theorem ofP_out {A : List Msg} (h : ∀ m ∈ A, procB m.frm = true) {p : Int} (hp : procB p = false) : ofP A p = [] := by
  unfold ofP
  rw [List.filter_eq_nil_iff]
  intro m hm he
  simp at he
  have := h m hm
  rw [he, hp] at this
  cases this
theorem RefH.cnt {A : List Msg} {lo : Nat → Nat} {R : Nat → List Msg} (h : RefH A lo R) (p : Int) : cntA A p = cntZ lo R p := by
  unfold cntA cntZ
  by_cases hp : procB p = true
  · rw [if_pos hp]
    obtain ⟨h1, h2⟩ := procB_iff.1 hp
    obtain ⟨q, rfl⟩ := Int.eq_ofNat_of_zero_le h1
    rw [Int.toNat_natCast, h.len (by omega)]
  · rw [if_neg hp, ofP_out h.frm (by simpa using hp)]
    rfl
theorem RefH.getF {A : List Msg} {lo : Nat → Nat} {R : Nat → List Msg} (h : RefH A lo R) {p : Nat} (hp : p < 64) (seq : Nat) : getA A lo (p : Int) seq = if lo p < seq ∧ seq ≤ (ofP A (p : Int)).length then (ofP A (p : Int))[seq - 1]? else none := by
  have e : getA A lo (p : Int) seq = (ofP A (p : Int)).find? fun m => decide (m.seq = seq) && decide (lo p < seq) := by
    unfold getA ofP
    rw [List.find?_filter]
    congr 1
    funext m
    rw [Int.toNat_natCast]
    by_cases h1 : m.frm = (p : Int) <;> by_cases h2 : m.seq = seq <;> by_cases h3 : lo p < seq <;> simp [h1, h2, h3]
  rw [e]
  by_cases hc : lo p < seq ∧ seq ≤ (ofP A (p : Int)).length
  · rw [if_pos hc]
    have hj : seq - 1 < (ofP A (p : Int)).length := by omega
    rw [List.getElem?_eq_getElem hj]
    refine List.find?_eq_some_iff_getElem.2 ⟨?_, seq - 1, hj, rfl, fun j hjlt => ?_⟩
    · simp [h.num p hp _ hj, hc.1]; omega
    · simp [h.num p hp j (by omega)]; omega
  · rw [if_neg hc]
    refine List.find?_eq_none.2 fun m hm => ?_
    obtain ⟨j, hj, rfl⟩ := List.mem_iff_getElem.1 hm
    simp [h.num p hp j hj]
    omega
theorem RefH.at_ {A : List Msg} {lo : Nat → Nat} {R : Nat → List Msg} (h : RefH A lo R) {p : Nat} (hp : p < 64) {j : Nat} (hj : j < (R p).length) : ∃ hf : lo p + j < (ofP A (p : Int)).length, core (gm (R p) j) = core (ofP A (p : Int))[lo p + j] := by
  have hl := h.len hp
  refine ⟨by omega, ?_⟩
  have h1 := congrArg (fun z => z[j]?) (h.rows p hp)
  simp only [List.getElem?_map, List.getElem?_drop] at h1
  rw [List.getElem?_eq_getElem hj, List.getElem?_eq_getElem (by omega)] at h1
  simp only [Option.map_some, Option.some.injEq] at h1
  rw [gm_get hj]; exact h1
theorem RefH.get {A : List Msg} {lo : Nat → Nat} {R : Nat → List Msg} (h : RefH A lo R) (p : Int) (seq : Nat) : (getA A lo p seq).map core = (getZ lo R p seq).map core := by
  unfold getZ
  by_cases hp : procB p = true
  · obtain ⟨h1, h2⟩ := procB_iff.1 hp
    obtain ⟨q, rfl⟩ := Int.eq_ofNat_of_zero_le h1
    have hq : q < 64 := by omega
    rw [Int.toNat_natCast, h.getF hq]
    have hl := h.len hq
    by_cases hc : lo q < seq ∧ seq ≤ (ofP A (q : Int)).length
    · rw [if_pos hc, if_pos ⟨hp, hc.1, by omega⟩]
      obtain ⟨hf, he⟩ := h.at_ hq (j := seq - lo q - 1) (by omega)
      rw [List.getElem?_eq_getElem (by omega)]
      simp only [Option.map_some, he]
      first | done | (congr 3; omega)
    · rw [if_neg hc, if_neg (fun hc' => hc ⟨hc'.2.1, by omega⟩)]
  · rw [if_neg (fun hc => hp hc.1)]
    have : getA A lo p seq = none := by
      refine List.find?_eq_none.2 fun m hm he => ?_
      simp at he
      have := h.frm m hm
      rw [he.1] at this
      exact hp this
    rw [this]
theorem RefH.fromF {A : List Msg} {lo : Nat → Nat} {R : Nat → List Msg} (h : RefH A lo R) {p : Nat} (hp : p < 64) (seq : Nat) : ∀ n, n ≤ (ofP A (p : Int)).length → fromA A lo (p : Int) seq n = ((ofP A (p : Int)).take n).drop (max seq (lo p + 1) - 1)
  | 0, _ => by simp [fromA]
  | n + 1, hn => by
    rw [fromA_succ, h.fromF hp seq n (by omega), List.take_succ_eq_append_getElem (by omega)]
    have hl : ((ofP A (p : Int)).take n).length = n := by rw [List.length_take]; omega
    by_cases hc : max seq (lo p + 1) - 1 ≤ n
    · rw [List.drop_append_of_le_length (by omega), h.getF hp, if_pos (show seq ≤ n + 1 by omega), if_pos ⟨by omega, hn⟩, List.getElem?_eq_getElem (by omega)]
      rfl
    · rw [List.drop_eq_nil_of_le (by omega), List.drop_eq_nil_of_le (by simp; omega), List.nil_append]
      split
      · rw [h.getF hp, if_neg (by omega)]; rfl
      · rfl
theorem RefH.from {A : List Msg} {lo : Nat → Nat} {R : Nat → List Msg} (h : RefH A lo R) (p : Int) (seq : Nat) (most : Int) : ((fromA A lo p seq (cntA A p)).take most.toNat).map core = (fromZ lo R p seq most).map core := by
  unfold fromZ
  by_cases hp : procB p = true
  · obtain ⟨h1, h2⟩ := procB_iff.1 hp
    obtain ⟨q, rfl⟩ := Int.eq_ofNat_of_zero_le h1
    have hq : q < 64 := by omega
    have hl := h.len hq
    unfold cntA
    rw [Int.toNat_natCast, h.fromF hq seq _ (Nat.le_refl _), List.take_length]
    by_cases hm : 1 ≤ most
    · by_cases hs : seq ≤ lo q + (R q).length
      · rw [if_pos ⟨hp, hm, hs⟩]
        unfold fromL fromAt
        rw [List.map_take, List.map_drop, List.map_take, List.map_drop, h.rows q hq, List.map_drop, List.drop_drop]
        congr 2
        omega
      · rw [if_neg (fun hc => hs hc.2.2), List.drop_eq_nil_of_le (by omega)]; simp
    · rw [if_neg (fun hc => hm hc.2.1), show most.toNat = 0 by omega]; simp
  · rw [if_neg (fun hc => hp hc.1)]
    have : cntA A p = 0 := by unfold cntA; rw [ofP_out h.frm (by simpa using hp)]; rfl
    rw [this]; simp [fromA]
theorem RefH.all {A : List Msg} {lo : Nat → Nat} {R : Nat → List Msg} (h : RefH A lo R) {p : Nat} (hp : p < 64) : (fromA A lo (p : Int) 0 (cntA A (p : Int))).map core = (R p).map core := by
  unfold cntA
  rw [h.fromF hp 0 _ (Nat.le_refl _), List.take_length, h.rows p hp, show max 0 (lo p + 1) - 1 = lo p by omega]
theorem RefH.above {A : List Msg} {lo : Nat → Nat} {R : Nat → List Msg} (h : RefH A lo R) (a b : Int) : ∀ t, t ≤ 64 → (aboveA A lo a b t).map core = (aboveN R a b t).map core
  | 0, _ => rfl
  | t + 1, ht => by rw [aboveA_succ, aboveN_succ, List.map_append, List.map_append, h.above a b t (by omega), filter_core' (h.all (by omega))]
theorem RefH.sorted {A : List Msg} {lo : Nat → Nat} {R : Nat → List Msg} (h : RefH A lo R) (a b : Int) : (sortM (aboveA A lo a b 64)).map core = (sortM (aboveN R a b 64)).map core := sortM_core (h.above a b 64 (by omega))
theorem RefH.put {A : List Msg} {lo : Nat → Nat} {R : Nat → List Msg} {m m' : Msg} (h : RefH A lo R) (hz : putK lo R m = 0) (hc : core m' = core m) : RefH (A ++ [m]) lo (upd R m.frm.toNat (R m.frm.toNat ++ [m'])) := by
  unfold putK at hz
  split at hz
  · cases hz
  · rename_i hp
    have hp' : procB m.frm = true := by simpa using hp
    obtain ⟨h1, h2⟩ := procB_iff.1 hp'
    obtain ⟨q, hq⟩ := Int.eq_ofNat_of_zero_le h1
    have hq' : m.frm = (q : Int) := hq
    split at hz
    · rename_i hs
      rw [hq', Int.toNat_natCast] at hs ⊢
      have hq64 : q < 64 := by omega
      have hl := h.len hq64
      have hof : ∀ p : Nat, ofP (A ++ [m]) (p : Int) = if p = q then ofP A (p : Int) ++ [m] else ofP A (p : Int) := fun p => by
        unfold ofP
        rw [List.filter_append, List.filter_cons]
        by_cases e : p = q
        · subst e; simp [hq']
        · have : ¬ m.frm = (p : Int) := by omega
          simp [this, e]
      refine ⟨fun p hp j hj => ?_, fun p hp => ?_, fun p hp => ?_, fun x hx => ?_⟩
      · by_cases e : p = q
        · subst e
          simp only [hof, if_true] at hj ⊢
          rw [List.length_append] at hj
          by_cases hlt : j < (ofP A (p : Int)).length
          · rw [List.getElem_append_left hlt]; exact h.num p hp j hlt
          · have : j = (ofP A (p : Int)).length := by simp at hj; omega
            subst this
            rw [List.getElem_append_right (Nat.le_refl _)]
            simp only [Nat.sub_self, List.getElem_cons_zero]
            omega
        · simp only [hof, if_neg e] at hj ⊢
          exact h.num p hp j hj
      · by_cases e : p = q
        · subst e
          rw [upd_same, hof, if_pos rfl, List.drop_append_of_le_length (h.le p hp), List.map_append, List.map_append, h.rows p hp, List.map_singleton, List.map_singleton, hc]
        · rw [upd_ne _ _ e, hof, if_neg e]; exact h.rows p hp
      · rw [hof]
        have := h.le p hp
        split
        · rw [List.length_append]; omega
        · exact this
      · rcases List.mem_append.1 hx with h3 | h3
        · exact h.frm x h3
        · simp at h3; rw [h3]; exact hp'
    · cases hz
theorem RefH.drop {A : List Msg} {lo : Nat → Nat} {R : Nat → List Msg} (h : RefH A lo R) (p : Int) (u : Nat) : RefH A (dropLo lo R p u) (dropR lo R p u) := by
  unfold dropLo dropR
  by_cases hc : dropC lo R p u = true
  · rw [if_pos hc, if_pos hc]
    unfold dropC at hc
    simp only [Bool.and_eq_true, decide_eq_true_eq] at hc
    obtain ⟨h1, h2⟩ := procB_iff.1 hc.1
    obtain ⟨q, rfl⟩ := Int.eq_ofNat_of_zero_le h1
    rw [Int.toNat_natCast] at hc ⊢
    have hq : q < 64 := by omega
    have hl := h.len hq
    refine ⟨h.num, fun r hr => ?_, fun r hr => ?_, h.frm⟩
    · by_cases e : r = q
      · subst e
        rw [upd_same, upd_same, List.map_drop, h.rows r hr, ← List.map_drop, List.drop_drop]
        congr 2
        omega
      · rw [upd_ne _ _ e, upd_ne _ _ e]; exact h.rows r hr
    · by_cases e : r = q
      · subst e; rw [upd_same]; omega
      · rw [upd_ne _ _ e]; exact h.le r hr
  · rw [if_neg hc, if_neg hc]; exact h
end Go.Proofs.YtgjlcjbmcnofiaaDoor
namespace Go.Proofs.YtgjlcjbmcnofiaaDoor
set_option linter.unusedVariables false
set_option linter.unusedSimpArgs false
open Go.RowKit
/-- the cells of the reference's hold -/
def refX (v : Value) (lo : Nat → Nat) : Array Value := (v :: (List.range 64).map fun q => Value.int .u32 (lo q : Int)).toArray
theorem refX_v (v : Value) (lo : Nat → Nat) : (refX v lo)[0]? = some v := rfl
theorem refX_lo (v : Value) (lo : Nat → Nat) {p : Nat} (hp : p < 64) : (refX v lo)[1 + p]? = some (.int .u32 (lo p : Int)) := by
  unfold refX
  rw [List.getElem?_toArray, Nat.add_comm, List.getElem?_cons_succ, List.getElem?_map, List.getElem?_range hp]; rfl
theorem refX_size (v : Value) (lo : Nat → Nat) : (refX v lo).size = 65 := by unfold refX; simp
theorem refX_setlo (v : Value) (lo : Nat → Nat) {p : Nat} (hp : p < 64) (n : Nat) : (refX v lo).setIfInBounds (1 + p) (.int .u32 (n : Int)) = refX v (upd lo p n) := by
  unfold refX
  rw [List.setIfInBounds_toArray, Nat.add_comm, List.set_cons_succ]
  congr 2
  refine List.ext_getElem? fun j => ?_
  rw [List.getElem?_set]
  by_cases hj : p = j
  · subst hj
    rw [if_pos rfl, if_pos (by simpa using hp), List.getElem?_map, List.getElem?_range hp]
    simp [upd]
  · rw [if_neg hj, List.getElem?_map, List.getElem?_map]
    by_cases h64 : j < 64
    · rw [List.getElem?_range h64]; simp [upd, Ne.symm hj]
    · rw [List.getElem?_eq_none (by simp; omega)]; rfl
theorem refX_setv (v u : Value) (lo : Nat → Nat) : (refX v lo).setIfInBounds 0 u = refX u lo := by
  unfold refX
  rw [List.setIfInBounds_toArray, List.set_cons_zero]
theorem refX_one (v : Value) (lo : Nat → Nat) (hv : v.oneCell' = true) : (refX v lo).all (·.oneCell') = true := by
  unfold refX
  refine all_oneCell_toArray (fun u hu => ?_)
  rcases List.mem_cons.1 hu with rfl | h
  · exact hv
  · obtain ⟨q, _, rfl⟩ := List.mem_map.1 h
    rfl
theorem results_cell_tmp {P : Program} {fn : Func} {p t : Tmp} {ty : TypeId} (h : fn.results = #[.cell p ty, .tmp t]) (tmps : Array Value) (w : World) (g : Nat) (tt : TypeId) (cs : Array Value) (fr : Nat × Nat) (d : TypeDesc) (x : Value)
    (hp : tmps.getD p undef = .pointer (some ⟨g, 0, none⟩)) (ht : tmps.getD t undef = x) (hg : w.heap[g]? = some (.cells cs tt fr))
    (hu : P.underlying ty = some d) (hd : (match d with | .struct _ | .array _ _ => true | _ => false) = true) (hi : (P.info? ty).map (·.size) = some cs.size) :
    (results fn tmps).run P w = .ok (.tuple #[.agg cs, x]) w := by
  have hp' : tmps[p]?.getD undef = .pointer (some ⟨g, 0, none⟩) := by simpa using hp
  have ht' : tmps[t]?.getD undef = x := by simpa using ht
  simp [results, h, hp', ht', asAddr, run_loadVar_row w g tt ty cs fr d hg hu hd hi]
theorem bsr' {a b : World} (h : Below a.heap.size a b) {g : Nat} (hg : a.heap.size ≤ g) (cs : Array Value) : Below a.heap.size a (b.setRow g cs) :=
  ⟨h.os, h.tape, h.output, by rw [size_setRow]; exact h.size, fun i hi => (setRow_other b g i cs (by omega)).trans (h.block i hi)⟩
theorem msgA_all (m : Msg) : (msgA m).toList.toArray.all (·.oneCell') = true := all_oneCell_toArray (msgA_one m)
theorem cntA_le (A : List Msg) (k : Nat) (p : Int) : cntA (A.take k) p ≤ k := by
  have h1 := ofP_len (A.take k) p
  have h2 := List.length_take_le k A
  unfold cntA
  omega
set_option maxRecDepth 100000 in
set_option maxHeartbeats 2000000 in
theorem rCount_any (v : Value) (lo : Nat → Nat) (A : List Msg) (p : Int) (w : World) (h : RowsIn w v A) (hl : A.length ≤ 1000) :
    Calls Tryd.prog 95 #[.agg (refX v lo), .int .i64 p] w fun e w' => e = .returned (.int .u32 (cntA A p : Int)) ∧ Below w.heap.size w w' := by
  obtain ⟨ad, cap, rfl, _⟩ := id h
  obtain ⟨X, hX⟩ : ∃ X, X = refX (.slice ad A.length cap) lo := ⟨_, rfl⟩
  have x0 := refX_v (.slice ad A.length cap) lo
  rw [← hX] at x0 ⊢
  have hx := heap_alloc_new w (.cells X 67)
  have hb := ba (br w) (.cells X 67)
  have hr := h.below hb
  clear h hX
  go_enter Tryd.func95, Tryd.ntmps95
  go_wp2
  generalize w.alloc (.cells X 67) = W at *
  have c0 : W.cell? ⟨w.heap.size, 0, none⟩ = some (.slice ad A.length cap) := (cell_of_row _ _ 0 _ _ _ hx).trans x0
  have HH := Lib.hid (And.intro hb hr)
  clear hx hb hr x0
  go_loop [5, 6] (fun n i => ∃ k : Nat, k ≤ A.length ∧ i = .int .i64 (k : Int) ∧ n = .int .u32 (cntA (A.take k) p : Int)) (fun _ i => A.length - (intOf i).toNat)
  case atStart => exact ⟨0, by omega, rfl, rfl⟩
  case round =>
    obtain ⟨k, hk, rfl, rfl⟩ := hrel
    by_cases hlt : k < A.length
    · have hbool : decide ((k : Int) < (A.length : Int)) = true := by simpa using hlt
      have hboolN : decide (k < A.length) = true := by simpa using hlt
      have hki : (k : Int) < (A.length : Int) := by omega
      obtain ⟨cap', g, o, e, hg, hrow⟩ := HH.out.2.msg hlt
      injection e with e1 e2 e3
      subst e1
      have s0 : W.cell? ⟨g, o + k * 6, none⟩ = some (.int .i64 A[k].frm) := hrow 0 _ rfl
      have hle := cntA_le A k p
      have hsu := cntA_take_succ hlt p
      obtain ⟨c, hc⟩ : ∃ c, c = cntA (A.take k) p := ⟨_, rfl⟩
      rw [← hc] at hle hsu ⊢
      have HS := Lib.hid hsu
      have hc1 : c ≤ 1000 := by omega
      clear hrow hsu hle hc
      by_cases hq : A[k].frm = p
      · have d1 : (A[k].frm == p) = true := by simpa using hq
        have HC := Lib.hid (show cntA (A.take (k + 1)) p = c + 1 by rw [HS.out, if_pos hq])
        generalize A[k].frm = f at *
        clear hq
        go_wp2
        exact ⟨⟨k + 1, hlt, by go_num, by rw [HC.out]; go_num⟩, by simp [intOf]; omega⟩
      · have d1 : (A[k].frm == p) = false := by simpa using hq
        have HC := Lib.hid (show cntA (A.take (k + 1)) p = c by rw [HS.out, if_neg hq]; rfl)
        generalize A[k].frm = f at *
        clear hq
        go_wp2
        exact ⟨⟨k + 1, hlt, by go_num, by rw [HC.out]⟩, by simp [intOf]; omega⟩
    · have hbool : decide ((k : Int) < (A.length : Int)) = false := by simpa using hlt
      have hboolN : decide (k < A.length) = false := by simpa using hlt
      rw [List.take_of_length_le (show A.length ≤ k by omega)]
      go_wp2
      go_ret
      exact ⟨rfl, HH.out.1⟩
/-- the reference's answer to Get -/
def getR (o : Option Msg) : Value := match o with
  | none => .tuple #[.agg (msgA zeroM), .bool false]
  | some m => .tuple #[.agg (msgA m), .bool true]
theorem getA_at {A : List Msg} {lo : Nat → Nat} {p : Int} {seq k : Nat} (hk : k < A.length) (h1 : A[k].frm = p) (h2 : A[k].seq = seq) (h3 : lo p.toNat < seq) (hn : ∀ j (h : j < A.length), j < k → ¬ (A[j].frm = p ∧ A[j].seq = seq ∧ lo p.toNat < seq)) : getA A lo p seq = some A[k] := by
  unfold getA
  refine List.find?_eq_some_iff_getElem.2 ⟨by simp [h1, h2, h3], k, hk, rfl, fun j hj => ?_⟩
  have := hn j (by omega) hj
  simp
  omega
theorem getA_none {A : List Msg} {lo : Nat → Nat} {p : Int} {seq : Nat} (hn : ∀ j (h : j < A.length), ¬ (A[j].frm = p ∧ A[j].seq = seq ∧ lo p.toNat < seq)) : getA A lo p seq = none := by
  unfold getA
  refine List.find?_eq_none.2 fun m hm => ?_
  obtain ⟨j, hj, rfl⟩ := List.mem_iff_getElem.1 hm
  have := hn j hj
  simp
  intro a b
  by_cases hlt : lo p.toNat < seq
  · exact absurd ⟨a, b, hlt⟩ this
  · omega
set_option maxRecDepth 100000 in
set_option maxHeartbeats 4000000 in
theorem rGet_any (v : Value) (lo : Nat → Nat) (A : List Msg) (p : Int) (seq : Nat) (w : World) (h : RowsIn w v A) (hl : A.length ≤ 1000) (hf : ∀ m ∈ A, procB m.frm = true) :
    Calls Tryd.prog 83 #[.agg (refX v lo), .int .i64 p, .int .u32 (seq : Int)] w fun e w' => e = .returned (getR (getA A lo p seq)) ∧ Below w.heap.size w w' := by
  obtain ⟨ad, cap, rfl, _⟩ := id h
  obtain ⟨X, hX⟩ : ∃ X, X = refX (.slice ad A.length cap) lo := ⟨_, rfl⟩
  have x0 := refX_v (.slice ad A.length cap) lo
  have hlo : ∀ q : Nat, q < 64 → X[1 + q]? = some (.int .u32 (lo q : Int)) := fun q hq => by rw [hX]; exact refX_lo _ lo hq
  rw [← hX] at x0 ⊢
  have hx := heap_alloc2_old w (.cells X 67) (.cells (msgA zeroM) 42)
  have hy := heap_alloc2_new w (.cells X 67) (.cells (msgA zeroM) 42)
  have hb := ba (ba (br w) (.cells X 67)) (.cells (msgA zeroM) 42)
  have hr := h.below hb
  rw [show msgA zeroM = #[.int .i64 0, .int .u32 0, .int .u64 0, .int .i64 0, .slice none 0 0, .string ⟨#[]⟩] from rfl] at hx hy hb hr
  have HF := Lib.hid hf
  clear h hX hf
  go_enter Tryd.func83, Tryd.ntmps83
  go_wp2
  generalize (w.alloc (.cells X 67)).alloc (.cells #[.int .i64 0, .int .u32 0, .int .u64 0, .int .i64 0, .slice none 0 0, .string ⟨#[]⟩] 42) = W at *
  have c0 : W.cell? ⟨w.heap.size, 0, none⟩ = some (.slice ad A.length cap) := (cell_of_row _ _ 0 _ _ _ hx).trans x0
  have HLO := Lib.hid (fun q hq => (cell_of_row _ _ (1 + q) _ _ _ hx).trans (hlo q hq))
  have HH := Lib.hid (And.intro hb (And.intro hr hy))
  clear hx hb hr x0 hy hlo
  go_loop [8] (fun i => ∃ k : Nat, k ≤ A.length ∧ i = .int .i64 (k : Int) ∧ Hid (∀ j (h : j < A.length), j < k → ¬ (A[j].frm = p ∧ A[j].seq = seq ∧ lo p.toNat < seq))) (fun i => A.length - (intOf i).toNat)
  case atStart => exact ⟨0, by omega, rfl, fun j _ hj => by omega⟩
  case round =>
    obtain ⟨k, hk, rfl, HN⟩ := hrel
    by_cases hlt : k < A.length
    · have hbool : decide ((k : Int) < (A.length : Int)) = true := by simpa using hlt
      have hboolN : decide (k < A.length) = true := by simpa using hlt
      have hki : (k : Int) < (A.length : Int) := by omega
      obtain ⟨cap', g, o, e, hg, hrow⟩ := HH.out.2.1.msg hlt
      injection e with e1 e2 e3
      subst e1
      have s0 : W.cell? ⟨g, o + k * 6, none⟩ = some (.int .i64 A[k].frm) := hrow 0 _ rfl
      have s1 : W.cell? ⟨g, o + k * 6 + 1, none⟩ = some (.int .u32 (A[k].seq : Int)) := hrow 1 _ rfl
      have HR := Lib.hid hrow
      have HG := Lib.hid (fun h1 h2 h3 => getA_at (A := A) (lo := lo) (p := p) (seq := seq) hlt h1 h2 h3 HN.out)
      have HM := Lib.hid (HF.out _ (List.getElem_mem hlt))
      have HL := Lib.hid (show ¬ (A[k].frm = p ∧ A[k].seq = seq ∧ lo p.toNat < seq) → ∀ j (h : j < A.length), j < k + 1 → ¬ (A[j].frm = p ∧ A[j].seq = seq ∧ lo p.toNat < seq) from fun hno j h hj => by
        by_cases e : j = k
        · subst e; exact hno
        · exact HN.out j h (by omega))
      clear hrow
      generalize A[k] = x at *
      by_cases h1 : x.frm = p
      · have d1 : (x.frm == p) = true := by simpa using h1
        obtain ⟨q, hq⟩ := Int.eq_ofNat_of_zero_le (procB_iff.1 HM.out).1
        have hq' : x.frm = (q : Int) := hq
        have hq64 : (q : Int) < 64 := by have := (procB_iff.1 HM.out).2; omega
        have hpq : p = (q : Int) := h1.symm.trans hq'
        have HQ := Lib.hid (And.intro h1 hpq)
        have cl : W.cell? ⟨w.heap.size, 1 + q, none⟩ = some (.int .u32 (lo q : Int)) := HLO.out q (by omega)
        subst hpq
        clear h1 hq hq'
        by_cases h2 : x.seq = seq
        · have d2 : ((x.seq : Int) == (seq : Int)) = true := by simp [h2]
          by_cases h3 : lo q < seq
          · have d3 : decide ((lo q : Int) < (seq : Int)) = true := by simpa using h3
            have d3' : decide (lo q < seq) = true := by simpa using h3
            have HE := Lib.hid (HG.out HQ.out.1 h2 (by rw [Int.toNat_natCast]; exact h3))
            generalize lo q = l0 at *
            clear h2 h3
            go_wp2_with (first
              | (refine wpList_load_mid rfl 42 (.tmp 45) rfl g (o + k * 6) rfl (msgA x).toList _ HR.out Tryd.underlying42 rfl (by kernel_rfl) ?_)
              | (refine wpList_store_row rfl 42 (.tmp 6) (.tmp 46) rfl (w.heap.size + 1) (msgA x).toList.toArray rfl rfl 42 _ HH.out.2.2 (by kernel_rfl) rfl (msgA_all x) ?_)
              | fail)
            refine bodyPost_ret (results_cell_tmp Tryd.results83 _ _ (w.heap.size + 1) 42 _ (0, 0) _ _ rfl rfl (setRow_heap _ _ _ _ _ _ HH.out.2.2) Tryd.underlying42 rfl (by kernel_rfl)) rfl ⟨?_, bsr' HH.out.1 (by omega) _⟩
            rw [HE.out]; rfl
          · have d3 : decide ((lo q : Int) < (seq : Int)) = false := by simpa using h3
            have d3' : decide (lo q < seq) = false := by simpa using h3
            have HL2 := Lib.hid (HL.out (fun hc => h3 (by have := hc.2.2; rwa [Int.toNat_natCast] at this)))
            generalize lo q = l0 at *
            clear h2 h3
            go_wp2
            exact ⟨⟨k + 1, hlt, by go_num, HL2⟩, by simp [intOf]; omega⟩
        · have d2 : ((x.seq : Int) == (seq : Int)) = false := by simp; omega
          have HL2 := Lib.hid (HL.out (fun hc => h2 hc.2.1))
          clear h2
          go_wp2
          exact ⟨⟨k + 1, hlt, by go_num, HL2⟩, by simp [intOf]; omega⟩
      · have d1 : (x.frm == p) = false := by simpa using h1
        have HL2 := Lib.hid (HL.out (fun hc => h1 hc.1))
        clear h1
        go_wp2
        exact ⟨⟨k + 1, hlt, by go_num, HL2⟩, by simp [intOf]; omega⟩
    · have hbool : decide ((k : Int) < (A.length : Int)) = false := by simpa using hlt
      have hboolN : decide (k < A.length) = false := by simpa using hlt
      have HE := Lib.hid (getA_none (A := A) (lo := lo) (p := p) (seq := seq) (fun j h => HN.out j h (by omega)))
      go_wp2_with (first
        | (refine wpList_store_row rfl 42 (.tmp 6) (.tmp 47) rfl (w.heap.size + 1) (msgA zeroM) rfl rfl 42 _ HH.out.2.2 (by kernel_rfl) rfl (msgA_all zeroM) ?_)
        | fail)
      refine bodyPost_ret (results_cell_tmp Tryd.results83 _ _ (w.heap.size + 1) 42 (msgA zeroM) (0, 0) _ _ rfl rfl (setRow_heap _ _ _ _ _ _ HH.out.2.2) Tryd.underlying42 rfl (by kernel_rfl)) rfl ⟨?_, bsr' HH.out.1 (by omega) _⟩
      rw [HE.out]; rfl
end Go.Proofs.YtgjlcjbmcnofiaaDoor
