/-
  a hold's blocks; Put, once more.
  Conditions: none.
-/
import Derived.Test.YtgjlcjbmcnofiaaDoorHoldG
namespace Go.Proofs.YtgjlcjbmcnofiaaDoor
set_option linter.unusedVariables false
set_option linter.unusedSimpArgs false
open Go.RowKit
def lo0 : Nat → Nat := fun _ => 0
def R0 : Nat → List Msg := fun _ => []
theorem CopyEnd.len {w w' : World} {l : List Msg} {e : Ending} (h : CopyEnd w l e w') : ∃ v L, e = .returned v ∧ w'.ownsRow w.heap.size 42 6 v l.length (rowsM L) ∧ L.map core = l.map core ∧ L.length = l.length := by
  obtain ⟨v, L, he, ho, hm, _⟩ := h
  have hl : L.length = l.length := by simpa using congrArg List.length hm
  exact ⟨v, L, he, hl ▸ ho, hm, hl⟩
theorem bd0 : HoldBd lo0 R0 := fun p _ => by unfold lo0 R0; simp
theorem HoldAt.not_in {w : World} {D N : Nat} {lo : Nat → Nat} {R : Nat → List Msg} {V : Nat → Value} (h : HoldAt w D lo R V) (hN : w.heap.size ≤ N) : ¬ holdS D V N := by
  rintro (e | ⟨p, hp, e⟩)
  · have := h.lt; omega
  · have := ((h.own p hp).lt N e).2; omega
/-- a hold's own blocks lie from B on -/
def HoldFrom (B D : Nat) (V : Nat → Value) : Prop := ∀ b, holdS D V b → B ≤ b
theorem HoldFrom.new {B D : Nat} {V V' : Nat → Value} {w : World} (h : HoldFrom B D V) (hn : newV w V V') (hB : B ≤ w.heap.size) : HoldFrom B D V' := by
  rintro b (rfl | ⟨p, hp, e⟩)
  · exact h _ (.inl rfl)
  · rcases hn p hp b e with e | e
    · exact h b (.inr ⟨p, hp, e⟩)
    · omega
theorem HoldFrom.below {B D : Nat} {V : Nat → Value} {w0 w w' : World} (h : HoldFrom B D V) (hb : Below B w0 w) (hB : B ≤ w.heap.size) (hk : Kept (holdS D V) w w') : Below B w0 w' :=
  hk.out hb hB (fun q hq hin => by have := h q hin; omega)
def PutEnd2 (w : World) (D : Nat) (lo : Nat → Nat) (R : Nat → List Msg) (V : Nat → Value) (m : Msg) (e : Ending) (w' : World) : Prop :=
  e = .returned (.int .i64 (putK lo R m)) ∧ Kept (holdS D V) w w' ∧ ∃ V', newV w V V' ∧ ((putK lo R m ≠ 0 ∧ HoldAt w' D lo R V') ∨ (putK lo R m = 0 ∧ m.frm.toNat < 64 ∧ m.frm = (m.frm.toNat : Int) ∧ ∃ m', core m' = core m ∧ HoldAt w' D lo (upd R m.frm.toNat (R m.frm.toNat ++ [m'])) V'))
theorem hPut_two (D : Nat) (lo : Nat → Nat) (R : Nat → List Msg) (V : Nat → Value) (m : Msg) (w : World) (h : HoldAt w D lo R V) (hb : HoldBd lo R) (hok : MsgOk w m) (hds : m.ds.length ≤ 1000000) :
    Calls Tryd.prog 48 #[.pointer (some ⟨D, 0, none⟩), .agg (msgA m)] w fun e w' => PutEnd2 w D lo R V m e w' :=
  (hPut_any D lo R V m w h hb hok hds).mono fun e w' ⟨he, hk, hor⟩ => ⟨he, hk, by
    rcases hor with ⟨h1, h2⟩ | ⟨h1, h2, h3, m', v', h4, h5, h6⟩
    · exact ⟨V, fun q _ b hb => .inl hb, .inl ⟨h1, h2⟩⟩
    · exact ⟨_, newV_upd fun b hb => by
        rcases h6 with e | ⟨b', e, hle⟩
        · rw [e] at hb; exact .inl hb
        · rw [e] at hb; injection hb with hb; exact .inr (hb ▸ hle), .inr ⟨h1, h2, h3, m', h4, h5⟩⟩⟩
theorem bd1 (m : Msg) : HoldBd lo0 (upd R0 2 (R0 2 ++ [m])) := fun p _ => by
  refine ⟨?_, by unfold lo0; omega⟩
  by_cases e : p = 2
  · subst e; rw [upd_same]; simp [R0]
  · rw [upd_ne _ _ e]; simp [R0]
theorem ds1 {m : Msg} (hm : m.ds.length ≤ 1000000) : ∀ p, p < 64 → ∀ x ∈ upd R0 2 (R0 2 ++ [m]) p, x.ds.length ≤ 1000000 := fun p _ x hx => by
  by_cases e : p = 2
  · subst e; rw [upd_same] at hx; simp [R0] at hx; rw [hx]; exact hm
  · rw [upd_ne _ _ e] at hx; simp [R0] at hx
def AllIs (R : Nat → List Msg) (l : List Msg) : Prop := allN R 64 = l
theorem all1 (m : Msg) : AllIs (upd R0 2 (R0 2 ++ [m])) [m] := by rfl
end Go.Proofs.YtgjlcjbmcnofiaaDoor
