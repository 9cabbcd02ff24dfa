/-
  Two orders that a law holds side by side, other blocks apart from both; what an act does.
  Conditions: those that each theorem names.
-/
import Derived.Test.YtgjlcjbmcnofiaaDoorOrdJ
import Derived.Test.YtgjlcjbmcnofiaaDoorOrdK
namespace Go.Proofs.YtgjlcjbmcnofiaaDoor
set_option linter.unusedVariables false
set_option linter.unusedSimpArgs false
open Go.RowKit
/-- the blocks of F are as they were -/
def Keep (F : Nat → Prop) (w w' : World) : Prop := ∃ S, Kept S w w' ∧ Calm w S ∧ ∀ b, F b → ¬ S b
theorem Keep.of_below {F : Nat → Prop} {w w' : World} (h : Below w.heap.size w w') : Keep F w w' := ⟨fun _ => False, .of_below h, fun _ h => h.elim, fun _ _ h => h⟩
theorem Keep.keep {F : Nat → Prop} {w w' : World} {b : Nat} {o : Obj} (h : Keep F w w') (hF : F b) (hb : w.heap[b]? = some o) : w'.heap[b]? = some o := by
  obtain ⟨S, h1, _, h3⟩ := h
  exact h1.keep hb (h3 b hF)
theorem Keep.row {F : Nat → Prop} {w w' : World} {base : Nat} {e : TypeId} {size : Nat} {v : Value} {n : Nat} {xs : List Value} (h : Keep F w w') (hF : ∀ b, v.ownBlock = some b → F b) (hr : w.ownsRow base e size v n xs) : w'.ownsRow base e size v n xs := by
  obtain ⟨S, h1, _, h3⟩ := h
  exact own_keptS hr h1 (fun b hb => h3 b (hF b hb))
theorem Keep.outs {F : Nat → Prop} {w w' : World} {b0 : Nat} {L : List Msg} (h : Keep F w w') (ho : Outs b0 w L) : Outs b0 w' L := by
  obtain ⟨S, h1, h2, _⟩ := h
  exact ho.keptC h1 h2
theorem Keep.mono {F G : Nat → Prop} {w w' : World} (h : Keep F w w') (hg : ∀ b, G b → F b) : Keep G w w' := by
  obtain ⟨S, h1, h2, h3⟩ := h
  exact ⟨S, h1, h2, fun b hb => h3 b (hg b hb)⟩
/-- messages that are a row above b0, read as L -/
def RowO (b0 : Nat) (w : World) (v : Value) (L : List Msg) : Prop := ∃ L', w.ownsRow b0 42 6 v L'.length (rowsM L') ∧ L'.map core = L.map core ∧ Outs b0 w L'
theorem RowO.nil (b0 : Nat) (w : World) : RowO b0 w (.slice none 0 0) [] := ⟨[], ⟨rfl, .inl ⟨rfl, rfl⟩⟩, rfl, fun m h => by cases h⟩
theorem RowO.keep {F : Nat → Prop} {w w' : World} {b0 : Nat} {v : Value} {L : List Msg} (hr : RowO b0 w v L) (h : Keep F w w') (hF : ∀ b, v.ownBlock = some b → F b) : RowO b0 w' v L := by
  obtain ⟨L', h1, h2, h3⟩ := hr
  exact ⟨L', h.row hF h1, h2, h.outs h3⟩
theorem RowO.kind {w : World} {b0 : Nat} {v : Value} {L : List Msg} (hr : RowO b0 w v L) : ∀ b, v.ownBlock = some b → ∃ c fz, w.heap[b]? = some (.cells c 42 fz) := by
  obtain ⟨L', h1, _⟩ := hr
  exact Lib.ownsRow_kind h1
theorem RowO.msgs {w : World} {b0 : Nat} {v : Value} {L : List Msg} (hr : RowO b0 w v L) (hl : L.length ≤ 9223372036854775807) : ∃ L', MsgsAt w v L' ∧ L'.map core = L.map core := by
  obtain ⟨L', h1, h2, h3⟩ := hr
  have e : L'.length = L.length := by simpa using congrArg List.length h2
  exact ⟨L', (RowsAt.of_own h1).rowsIn.msgsAt (by omega) (fun m hm => (h3 m hm).1), h2⟩
/-- two orders above w0; the blocks of F lie apart -/
structure Two (w0 w : World) (B1 D1 Z1 : Nat) (O1 : PO) (B2 D2 Z2 : Nat) (O2 : PO) (F : Nat → Prop) : Prop where
  ex : ∃ V1 U1 V2 U2, OrH w0 w B1 D1 Z1 O1 V1 U1 ∧ OrH w0 w B2 D2 Z2 O2 V2 U2 ∧ (∀ b, orS B1 D1 Z1 V1 U1 b → ¬ orS B2 D2 Z2 V2 U2 b) ∧ (∀ b, F b → ¬ orS B1 D1 Z1 V1 U1 b ∧ ¬ orS B2 D2 Z2 V2 U2 b ∧ b < w.heap.size)
section
variable {w0 w w' : World} {B1 D1 Z1 B2 D2 Z2 : Nat} {O1 O1' O2 : PO} {F F' : Nat → Prop}
theorem Two.symm (h : Two w0 w B1 D1 Z1 O1 B2 D2 Z2 O2 F) : Two w0 w B2 D2 Z2 O2 B1 D1 Z1 O1 F := by
  obtain ⟨V1, U1, V2, U2, h1, h2, h3, h4⟩ := h
  exact ⟨V2, U2, V1, U1, h2, h1, fun b hb hc => h3 b hc hb, fun b hb => ⟨(h4 b hb).2.1, (h4 b hb).1, (h4 b hb).2.2⟩⟩
theorem Two.bel (h : Two w0 w B1 D1 Z1 O1 B2 D2 Z2 O2 F) : Below w0.heap.size w0 w := by
  obtain ⟨V1, U1, V2, U2, h1, _⟩ := h
  exact h1.bel
theorem Two.mono (h : Two w0 w B1 D1 Z1 O1 B2 D2 Z2 O2 F) (hF : ∀ b, F' b → F b) : Two w0 w B1 D1 Z1 O1 B2 D2 Z2 O2 F' := by
  obtain ⟨V1, U1, V2, U2, h1, h2, h3, h4⟩ := h
  exact ⟨V1, U1, V2, U2, h1, h2, h3, fun b hb => h4 b (hF b hb)⟩
/-- memory is made; what is new lies apart -/
theorem Two.add (h : Two w0 w B1 D1 Z1 O1 B2 D2 Z2 O2 F) (hb : Below w.heap.size w w') (hF : ∀ b, F' b → F b ∨ (w.heap.size ≤ b ∧ b < w'.heap.size)) : Two w0 w' B1 D1 Z1 O1 B2 D2 Z2 O2 F' := by
  obtain ⟨V1, U1, V2, U2, h1, h2, h3, h4⟩ := h
  refine ⟨V1, U1, V2, U2, h1.below hb, h2.below hb, h3, fun b hb' => ?_⟩
  rcases hF b hb' with e | e
  · obtain ⟨a1, a2, a3⟩ := h4 b e
    exact ⟨a1, a2, Nat.lt_of_lt_of_le a3 hb.size⟩
  · exact ⟨fun e' => by have := h1.at_.sz e'; omega, fun e' => by have := h2.at_.sz e'; omega, e.2⟩
/-- what lies apart is written -/
theorem Two.aside {S : Nat → Prop} (h : Two w0 w B1 D1 Z1 O1 B2 D2 Z2 O2 F) (hk : Kept S w w') (hc : Calm w S) (hS : ∀ b, S b → F b ∧ w0.heap.size ≤ b) : Two w0 w' B1 D1 Z1 O1 B2 D2 Z2 O2 F := by
  obtain ⟨V1, U1, V2, U2, h1, h2, h3, h4⟩ := h
  refine ⟨V1, U1, V2, U2, h1.kept hk (fun b hb e => (h4 b (hS b e).1).1 hb) hc (fun b e => (hS b e).2), h2.kept hk (fun b hb e => (h4 b (hS b e).1).2.1 hb) hc (fun b e => (hS b e).2), h3, fun b hb => ?_⟩
  obtain ⟨a1, a2, a3⟩ := h4 b hb
  exact ⟨a1, a2, Nat.lt_of_lt_of_le a3 hk.size⟩
theorem Two.step1 {V1 U1 V2 U2 : Nat → Value} (h1 : OrH w0 w B1 D1 Z1 O1 V1 U1) (h2 : OrH w0 w B2 D2 Z2 O2 V2 U2) (h3 : ∀ b, orS B1 D1 Z1 V1 U1 b → ¬ orS B2 D2 Z2 V2 U2 b) (h4 : ∀ b, F b → ¬ orS B1 D1 Z1 V1 U1 b ∧ ¬ orS B2 D2 Z2 V2 U2 b ∧ b < w.heap.size)
    (hg : OrG w0 w B1 D1 Z1 V1 U1 O1' w') : Two w0 w' B1 D1 Z1 O1' B2 D2 Z2 O2 F ∧ Keep F w w' := by
  obtain ⟨V, U, g1, g2, g3, g4⟩ := hg
  refine ⟨⟨V, U, V2, U2, g1, h2.kept g2 (fun b hb e => h3 b e hb) h1.at_.calm h1.frm, fun b hb e => ?_, fun b hb => ?_⟩, _, g2, h1.at_.calm, fun b hb => (h4 b hb).1⟩
  · rcases orS_new g3 g4 hb with x | x
    · exact h3 b x e
    · have := h2.at_.sz e
      omega
  · obtain ⟨a1, a2, a3⟩ := h4 b hb
    refine ⟨fun e => ?_, a2, Nat.lt_of_lt_of_le a3 g2.size⟩
    rcases orS_new g3 g4 e with x | x
    · exact a1 x
    · omega
/-- a call of the first order -/
theorem Two.call1 {p : Program} {fn : Nat} {args : Array Value} {Q : Ending → PO → Prop} (h : Two w0 w B1 D1 Z1 O1 B2 D2 Z2 O2 F)
    (hc : ∀ V U, OrH w0 w B1 D1 Z1 O1 V U → Calls p fn args w fun e w' => ∃ O', Q e O' ∧ OrG w0 w B1 D1 Z1 V U O' w') :
    Calls p fn args w fun e w' => ∃ O', Q e O' ∧ Two w0 w' B1 D1 Z1 O' B2 D2 Z2 O2 F ∧ Keep F w w' := by
  obtain ⟨V1, U1, V2, U2, h1, h2, h3, h4⟩ := h
  refine (hc V1 U1 h1).mono ?_
  rintro e w' ⟨O', q, hg⟩
  exact ⟨O', q, Two.step1 h1 h2 h3 h4 hg⟩
theorem Two.drain1 (h : Two w0 w B1 D1 Z1 O1 B2 D2 Z2 O2 F) (hk : OrOk O1) (hT : Tab w0) :
    Calls Tryd.prog 20 #[.pointer (some ⟨B1, 0, none⟩)] w fun e w' => ∃ L O' v, Drn O1 L O' ∧ O'.ripe = none ∧ e = .returned v ∧ RowO w0.heap.size w' v L ∧ Two w0 w' B1 D1 Z1 O' B2 D2 Z2 O2 (fun b => F b ∨ v.ownBlock = some b) ∧ Keep F w w' := by
  obtain ⟨V1, U1, V2, U2, h1, h2, h3, h4⟩ := h
  refine (orhDrain h1 hk hT).mono ?_
  rintro e w' ⟨L, L', O', v, d1, d2, d3, d4, d5, d6, V, U, g1, g2, g3, g4, g5⟩
  have hs := h1.bel.size
  refine ⟨L, O', v, d1, d2, d3, ⟨L', own_base d4 (fun k hk => by have := (d4.lt k hk).1; omega), d5, fun m hm => ?_⟩, ?_, (Two.step1 h1 h2 h3 h4 ⟨V, U, g1, g2, g3, g4⟩).2⟩
  · obtain ⟨a1, a2, a3⟩ := d6 m hm
    exact ⟨a1, a2, fun ad e1 e2 => Nat.le_trans hs (a3 ad e1 e2)⟩
  · refine ⟨V, U, V2, U2, g1, h2.kept g2 (fun b hb e => h3 b e hb) h1.at_.calm h1.frm, fun b hb e => ?_, fun b hb => ?_⟩
    · rcases orS_new g3 g4 hb with x | x
      · exact h3 b x e
      · have := h2.at_.sz e
        omega
    · rcases hb with hb | hb
      · obtain ⟨a1, a2, a3⟩ := h4 b hb
        refine ⟨fun e => ?_, a2, Nat.lt_of_lt_of_le a3 g2.size⟩
        rcases orS_new g3 g4 e with x | x
        · exact a1 x
        · omega
      · have hl := d4.lt b hb
        exact ⟨g5 b hb, fun e => by have := h2.at_.sz e; omega, hl.2⟩
/-- cells of the first order -/
theorem Two.cZ (h : Two w0 w B1 D1 Z1 O1 B2 D2 Z2 O2 F) : w.cell? ⟨B1, 1, none⟩ = some (.pointer (some ⟨Z1, 0, none⟩)) := by
  obtain ⟨V1, U1, V2, U2, h1, _⟩ := h
  exact h1.cZ
theorem Two.lt (h : Two w0 w B1 D1 Z1 O1 B2 D2 Z2 O2 F) : B1 < w.heap.size := by
  obtain ⟨V1, U1, V2, U2, h1, _⟩ := h
  exact h1.at_.lt
theorem Two.below (h : Two w0 w B1 D1 Z1 O1 B2 D2 Z2 O2 F) (hb : Below w.heap.size w w') : Two w0 w' B1 D1 Z1 O1 B2 D2 Z2 O2 F := h.add hb (fun _ h => .inl h)
theorem Two.rest1 (h : Two w0 w B1 D1 Z1 O1 B2 D2 Z2 O2 F) (hk : OrOk O1) : Calls Tryd.prog 23 #[.pointer (some ⟨B1, 0, none⟩)] w fun e w' => ∃ v, e = .returned v ∧ RowO w.heap.size w' v O1.rest ∧ Below w.heap.size w w' := by
  obtain ⟨V1, U1, V2, U2, h1, h2, h3, h4⟩ := h
  refine (orRest_any h1.at_ hk).mono ?_
  rintro e w' ⟨v, L, he, a1, a2, a3, a4⟩
  exact ⟨v, he, ⟨L, a1, a2, a3⟩, a4⟩
theorem Two.last1 (h : Two w0 w B1 D1 Z1 O1 B2 D2 Z2 O2 F) : Calls Tryd.prog 22 #[.pointer (some ⟨B1, 0, none⟩)] w fun e w' => e = .returned (.agg #[.int .u64 (O1.ls : Int), .int .i64 O1.lf]) ∧ Below w.heap.size w w' := by
  obtain ⟨V1, U1, V2, U2, h1, h2, h3, h4⟩ := h
  exact orLast_any h1.at_
end
/-- what an act does, and hands out -/
def ActTo (a : ActO) (O O' : PO) (L : List Msg) : Prop :=
  if a.kind = 0 then L = [] ∧ ((takeZ O a.m ≠ 0 ∧ O' = O) ∨ (takeZ O a.m = 0 ∧ ∃ m', core m' = core a.m ∧ O' = O.take a.m m'))
  else if a.kind = 1 then L = [] ∧ O' = { O with H := O.H.promise a.p a.stamp a.seq }
  else if a.kind = 2 then L = [] ∧ O' = { O with H := O.H.reached a.p a.stamp }
  else Drn O L O' ∧ O'.ripe = none
theorem ActTo.inv {a : ActO} {O O' : PO} {L : List Msg} {k : Nat} (h : ActTo a O O' L) (hi : InvO k O) (hd : a.m.ds.length ≤ 20000) : InvO (k + 1) O' := by
  unfold ActTo at h
  split at h
  · rcases h.2 with ⟨_, rfl⟩ | ⟨hz, m', hc, rfl⟩
    · exact hi.more
    · exact hi.take hz hc hd
  · split at h
    · obtain ⟨_, rfl⟩ := h
      exact (hi.more).setH (hi.hz.promise _ _ _)
    · split at h
      · obtain ⟨_, rfl⟩ := h
        exact (hi.setH (hi.hz.reached _ _)).more
      · exact (hi.drn h.1).more
theorem ActTo.rel {a : ActO} {O O' T T' : PO} {L L2 : List Msg} (hr : PRel O T) (h : ActTo a O O' L) (h2 : ActTo a T T' L2) : PRel O' T' ∧ L2.map core = L.map core := by
  unfold ActTo at h h2
  by_cases k0 : a.kind = 0
  · rw [if_pos k0] at h h2
    obtain ⟨rfl, h⟩ := h
    obtain ⟨rfl, h2⟩ := h2
    refine ⟨?_, rfl⟩
    rcases h with ⟨hz, rfl⟩ | ⟨hz, m1, c1, rfl⟩
    · rcases h2 with ⟨_, rfl⟩ | ⟨hz2, _⟩
      · exact hr
      · exact absurd ((hr.takeZ _).symm.trans hz2) hz
    · rcases h2 with ⟨hz2, _⟩ | ⟨_, m2, c2, rfl⟩
      · exact absurd ((hr.takeZ _).trans hz) hz2
      · exact hr.take c1 c2
  · rw [if_neg k0] at h h2
    by_cases k1 : a.kind = 1
    · rw [if_pos k1] at h h2
      obtain ⟨rfl, rfl⟩ := h
      obtain ⟨rfl, rfl⟩ := h2
      exact ⟨hr.setH (fun H => H.promise a.p a.stamp a.seq), rfl⟩
    · rw [if_neg k1] at h h2
      by_cases k2 : a.kind = 2
      · rw [if_pos k2] at h h2
        obtain ⟨rfl, rfl⟩ := h
        obtain ⟨rfl, rfl⟩ := h2
        exact ⟨hr.setH (fun H => H.reached a.p a.stamp), rfl⟩
      · rw [if_neg k2] at h h2
        obtain ⟨e1, e2⟩ := hr.drain h.1 h.2 h2.1 h2.2
        exact ⟨e2, e1⟩
end Go.Proofs.YtgjlcjbmcnofiaaDoor
