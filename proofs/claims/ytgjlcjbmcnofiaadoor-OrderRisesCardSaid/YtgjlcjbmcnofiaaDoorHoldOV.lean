/-
  Holds that read alike, in plain.
  Conditions: none.
-/
import Derived.Test.YtgjlcjbmcnofiaaDoorHoldKV
import Derived.Test.YtgjlcjbmcnofiaaDoorSortC
namespace Go.Proofs.YtgjlcjbmcnofiaaDoor
set_option linter.unusedVariables false
set_option linter.unusedSimpArgs false
open Go.RowKit
/-- rows that read alike -/
def Like (R S : Nat → List Msg) : Prop := ∀ p, (R p).map core = (S p).map core
theorem Like.len {R S : Nat → List Msg} (h : Like R S) (p : Nat) : (R p).length = (S p).length := by simpa using congrArg List.length (h p)
theorem Like.putK {R S : Nat → List Msg} (h : Like R S) (lo : Nat → Nat) (m : Msg) : putK lo R m = putK lo S m := by
  unfold Go.Proofs.YtgjlcjbmcnofiaaDoor.putK
  rw [h.len]
theorem Like.dropC {R S : Nat → List Msg} (h : Like R S) (lo : Nat → Nat) (p : Int) (u : Nat) : dropC lo R p u = dropC lo S p u := by
  unfold Go.Proofs.YtgjlcjbmcnofiaaDoor.dropC
  rw [h.len]
theorem Like.dropLo {R S : Nat → List Msg} (h : Like R S) (lo : Nat → Nat) (p : Int) (u : Nat) : dropLo lo R p u = dropLo lo S p u := by
  unfold Go.Proofs.YtgjlcjbmcnofiaaDoor.dropLo
  rw [h.dropC, h.len]
theorem Like.upd {R S : Nat → List Msg} (h : Like R S) (p : Nat) {L K : List Msg} (e : L.map core = K.map core) : Like (upd R p L) (upd S p K) := fun q => by
  by_cases eq : q = p
  · subst eq; rw [upd_same, upd_same]; exact e
  · rw [upd_ne _ _ eq, upd_ne _ _ eq]; exact h q
theorem Like.dropR {R S : Nat → List Msg} (h : Like R S) (lo : Nat → Nat) (p : Int) (u : Nat) : Like (dropR lo R p u) (dropR lo S p u) := by
  unfold Go.Proofs.YtgjlcjbmcnofiaaDoor.dropR
  rw [h.dropC, h.len]
  split
  · exact h.upd _ (by rw [List.map_drop, List.map_drop, h])
  · exact h
theorem Like.put {R S : Nat → List Msg} (h : Like R S) {m m' : Msg} (hc : core m' = core m) : Like (Go.Proofs.YtgjlcjbmcnofiaaDoor.upd R m.frm.toNat (R m.frm.toNat ++ [m'])) (Go.Proofs.YtgjlcjbmcnofiaaDoor.upd S m.frm.toNat (S m.frm.toNat ++ [m])) :=
  h.upd _ (by rw [List.map_append, List.map_append, h, List.map_singleton, List.map_singleton, hc])
theorem Like.trans {R S T : Nat → List Msg} (h : Like R S) (k : Like S T) : Like R T := fun p => (h p).trans (k p)
theorem Like.symm {R S : Nat → List Msg} (h : Like R S) : Like S R := fun p => (h p).symm
/-- the same order of what reads alike -/
def insC (x : Msg) : List Msg → List Msg → Prop := fun a b => (insM x a).map core = (insM x b).map core
theorem keyM_core {a b : Msg} (h : core a = core b) : keyM a = keyM b := by
  obtain ⟨p1, _, p3, _⟩ := core_iff.1 h
  unfold keyM; rw [p1, p3]
theorem ltM_core {a b c d : Msg} (h : core a = core b) (k : core c = core d) : ltM a c = ltM b d := by
  rw [Bool.eq_iff_iff, ltM_iff, ltM_iff, keyM_core h, keyM_core k]
theorem insM_core {x y : Msg} (h : core x = core y) : ∀ {a b : List Msg}, a.map core = b.map core → (insM x a).map core = (insM y b).map core
  | [], [], _ => by simp [insM, h]
  | u :: a, v :: b, e => by
    simp only [List.map_cons, List.cons.injEq] at e
    have ih := insM_core h e.2
    unfold insM
    rw [ltM_core h e.1]
    split <;> simp [h, e.1, e.2, ih]
  | [], v :: b, e => by simp at e
  | u :: a, [], e => by simp at e
theorem sortM_go_core : ∀ {a b : List Msg} {o p : List Msg}, a.map core = b.map core → o.map core = p.map core → (a.foldl (fun o x => insM x o) o).map core = (b.foldl (fun o x => insM x o) p).map core
  | [], [], _, _, _, e => e
  | u :: a, v :: b, o, p, h, e => by
    simp only [List.map_cons, List.cons.injEq] at h
    rw [List.foldl_cons, List.foldl_cons]
    exact sortM_go_core h.2 (insM_core h.1 e)
  | [], v :: b, _, _, h, _ => by simp at h
  | u :: a, [], _, _, h, _ => by simp at h
theorem sortM_core {a b : List Msg} (h : a.map core = b.map core) : (sortM a).map core = (sortM b).map core := sortM_go_core h rfl
theorem keyAh_core' {a b : Int} {x y : Msg} (h : core x = core y) : keyAh a b x = keyAh a b y := by
  obtain ⟨h1, _, h3, _⟩ := core_iff.1 h
  unfold keyAh
  rw [h1, h3]
theorem filter_core' {a b : Int} : ∀ {L K : List Msg}, L.map core = K.map core → (L.filter (keyAh a b)).map core = (K.filter (keyAh a b)).map core
  | [], [], _ => rfl
  | x :: L, y :: K, h => by
    simp only [List.map_cons, List.cons.injEq] at h
    have := filter_core' (a := a) (b := b) h.2
    rw [List.filter_cons, List.filter_cons, keyAh_core' h.1]
    split <;> simp [this, h.1]
  | [], y :: K, h => by simp at h
  | x :: L, [], h => by simp at h
theorem Like.above {R S : Nat → List Msg} (h : Like R S) (a b : Int) : ∀ t, (aboveN R a b t).map core = (aboveN S a b t).map core
  | 0 => rfl
  | t + 1 => by rw [aboveN_succ, aboveN_succ, List.map_append, List.map_append, h.above a b t, filter_core' (h t)]
theorem Like.sorted {R S : Nat → List Msg} (h : Like R S) (a b : Int) : (sortM (aboveN R a b 64)).map core = (sortM (aboveN S a b 64)).map core := sortM_core (h.above a b 64)
end Go.Proofs.YtgjlcjbmcnofiaaDoor
