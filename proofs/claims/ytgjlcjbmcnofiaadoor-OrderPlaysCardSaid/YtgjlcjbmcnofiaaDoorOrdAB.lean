/-
  An order in memory: its cells, its hold, its horizon; what lies apart; Done, Last.
  Conditions: those that each theorem names.
-/
import Derived.Test.YtgjlcjbmcnofiaaDoorHz
import Derived.Test.YtgjlcjbmcnofiaaDoorHoldN
import Derived.Test.YtgjlcjbmcnofiaaDoorDels
namespace Go.Proofs.YtgjlcjbmcnofiaaDoor
set_option linter.unusedVariables false
set_option linter.unusedSimpArgs false
open Go.RowKit
/-- an order, in plain: whose, its members, its hold, its horizon, how many were delivered, the last one's key -/
structure PO where
  me : Int
  mb : Nat
  lo : Nat → Nat
  R : Nat → List Msg
  H : HZ
  dn : Nat → Nat
  ls : Nat
  lf : Int
def orF (O : PO) (D Z i : Nat) : Value :=
  if i = 0 then .pointer (some ⟨D, 0, none⟩) else if i = 1 then .pointer (some ⟨Z, 0, none⟩) else if i = 2 then .int .i64 O.me else if i = 3 then .int .u64 (O.mb : Int) else
  if i < 68 then .int .u32 (O.dn (i - 4) : Int) else if i = 68 then .int .u64 (O.ls : Int) else .int .i64 O.lf
def orC (O : PO) (D Z : Nat) : Array Value := ((List.range 70).map (orF O D Z)).toArray
theorem orC_size (O : PO) (D Z : Nat) : (orC O D Z).size = 70 := by simp [orC]
theorem orC_get (O : PO) (D Z : Nat) {i : Nat} (hi : i < 70) : (orC O D Z)[i]? = some (orF O D Z i) := by
  unfold orC
  simp [List.getElem?_range hi]
theorem orC_set {O O' : PO} {D Z D' Z' j : Nat} {v : Value} (h : ∀ i, i < 70 → (if i = j then v else orF O D Z i) = orF O' D' Z' i) : (orC O D Z).setIfInBounds j v = orC O' D' Z' := by
  apply Array.ext_getElem?
  intro i
  by_cases hi : i < 70
  · rw [orC_get O' D' Z' hi, ← h i hi]
    by_cases hij : i = j
    · subst hij
      rw [if_pos rfl, Array.getElem?_setIfInBounds_self_of_lt (by rw [orC_size]; exact hi)]
    · rw [if_neg hij, Array.getElem?_setIfInBounds_ne (fun e => hij e.symm), orC_get O D Z hi]
  · rw [Array.getElem?_eq_none (by rw [Array.size_setIfInBounds, orC_size]; omega), Array.getElem?_eq_none (by rw [orC_size]; omega)]
theorem orF_dn (O : PO) (D Z : Nat) {p : Nat} (hp : p < 64) : orF O D Z (4 + p) = .int .u32 (O.dn p : Int) := by
  unfold orF
  rw [if_neg (by omega), if_neg (by omega), if_neg (by omega), if_neg (by omega), if_pos (by omega), show 4 + p - 4 = p by omega]
def PO.setDn (O : PO) (p x : Nat) : PO := { O with dn := upd O.dn p x }
theorem orC_dn (O : PO) (D Z : Nat) {p : Nat} (hp : p < 64) (x : Nat) : (orC O D Z).setIfInBounds (4 + p) (.int .u32 (x : Int)) = orC (O.setDn p x) D Z := orC_set fun i hi => by
  by_cases h : i = 4 + p
  · subst h; rw [if_pos rfl, orF_dn _ _ _ hp]; unfold PO.setDn; simp only [upd_same]
  · rw [if_neg h]; unfold orF PO.setDn
    by_cases h0 : i < 4
    · rcases (by omega : i = 0 ∨ i = 1 ∨ i = 2 ∨ i = 3) with rfl | rfl | rfl | rfl <;> rfl
    · have a0 : ¬ i = 0 := by omega
      have a1 : ¬ i = 1 := by omega
      have a2 : ¬ i = 2 := by omega
      have a3 : ¬ i = 3 := by omega
      simp only [if_neg a0, if_neg a1, if_neg a2, if_neg a3]
      by_cases h1 : i < 68
      · rw [if_pos h1, if_pos h1, upd_ne _ _ (by omega)]
      · rw [if_neg h1, if_neg h1]
theorem orC_ls (O : PO) (D Z : Nat) (x : Nat) : (orC O D Z).setIfInBounds 68 (.int .u64 (x : Int)) = orC { O with ls := x } D Z := orC_set fun i hi => by
  by_cases h : i = 68
  · subst h; rfl
  · rw [if_neg h]; unfold orF
    simp only [if_neg h]
theorem orC_lf (O : PO) (D Z : Nat) (x : Int) : (orC O D Z).setIfInBounds 69 (.int .i64 x) = orC { O with lf := x } D Z := orC_set fun i hi => by
  by_cases h : i = 69
  · subst h; rfl
  · rw [if_neg h]; unfold orF
    by_cases h0 : i < 4
    · rcases (by omega : i = 0 ∨ i = 1 ∨ i = 2 ∨ i = 3) with rfl | rfl | rfl | rfl <;> rfl
    · have a0 : ¬ i = 0 := by omega
      have a1 : ¬ i = 1 := by omega
      have a2 : ¬ i = 2 := by omega
      have a3 : ¬ i = 3 := by omega
      simp only [if_neg a0, if_neg a1, if_neg a2, if_neg a3]
      by_cases h1 : i < 68
      · rw [if_pos h1, if_pos h1]
      · rw [if_neg h1, if_neg h1, if_pos (by omega), if_pos (by omega)]
/-- blocks that hold no numbers of a vector -/
def Calm (w : World) (S : Nat → Prop) : Prop := ∀ b, S b → ∀ cs fr, w.heap[b]? ≠ some (.cells cs 33 fr)
theorem calm_or {w : World} {S T : Nat → Prop} (h : Calm w S) (k : Calm w T) : Calm w (fun b => S b ∨ T b) := fun b hb => hb.elim (h b) (k b)
theorem HoldAt.calm {w : World} {D : Nat} {lo : Nat → Nat} {R : Nat → List Msg} {V : Nat → Value} (h : HoldAt w D lo R V) : Calm w (holdS D V) := fun b hb cs fr hc => by
  rcases hb with rfl | ⟨p, hp, hb⟩
  · rw [h.blk] at hc
    injection hc with hc
    injection hc with _ hc _
    exact absurd hc (by decide)
  · obtain ⟨c, fz, hk⟩ := Lib.ownsRow_kind (h.own p hp) b hb
    rw [hk] at hc
    injection hc with hc
    injection hc with _ hc _
    exact absurd hc (by decide)
theorem HzAt.calm {w : World} {Z : Nat} {H : HZ} {V : Nat → Value} (h : HzAt w Z H V) : Calm w (hzS Z V) := fun b hb cs fr hc => by
  rcases hb with rfl | ⟨p, hp, hb⟩
  · rw [h.blk] at hc
    injection hc with hc
    injection hc with _ hc _
    exact absurd hc (by decide)
  · obtain ⟨c, fz, hk⟩ := Lib.ownsRow_kind (h.own p hp) b hb
    rw [hk] at hc
    injection hc with hc
    injection hc with _ hc _
    exact absurd hc (by decide)
theorem HoldAt.keptC {w w' : World} {D : Nat} {lo : Nat → Nat} {R : Nat → List Msg} {V : Nat → Value} {S : Nat → Prop} (h : HoldAt w D lo R V) (hk : Kept S w w') (hs : ∀ b, holdS D V b → ¬ S b) (hc : Calm w S) : HoldAt w' D lo R V :=
  h.kept hk hs fun p hp m hm b hb hS => by
    obtain ⟨c, fz, hk⟩ := Lib.ownsRow_kind (h.ok p hp m hm).2 b hb
    exact hc b hS _ _ hk
/-- block B is an order, over a hold D and a horizon Z -/
structure OrAt (w : World) (B D Z : Nat) (O : PO) (V VH : Nat → Value) : Prop where
  blk : w.heap[B]? = some (.cells (orC O D Z) 60 (0, 0))
  hold : HoldAt w D O.lo O.R V
  hz : HzAt w Z O.H VH
  ap : ∀ b, holdS D V b → ¬ hzS Z VH b
def orS (B D Z : Nat) (V VH : Nat → Value) (b : Nat) : Prop := b = B ∨ holdS D V b ∨ hzS Z VH b
section
variable {w w' : World} {B D Z : Nat} {O : PO} {V VH : Nat → Value}
theorem OrAt.lt (h : OrAt w B D Z O V VH) : B < w.heap.size := (Array.getElem?_eq_some_iff.1 h.blk).1
theorem OrAt.apD (h : OrAt w B D Z O V VH) : ¬ holdS D V B := fun hb => by
  rcases hb with rfl | ⟨p, hp, hb⟩
  · have := h.hold.blk
    rw [h.blk] at this
    injection this with this
    injection this with _ this _
    exact absurd this (by decide)
  · obtain ⟨c, fz, hk⟩ := Lib.ownsRow_kind (h.hold.own p hp) B hb
    rw [h.blk] at hk
    injection hk with hk
    injection hk with _ hk _
    exact absurd hk (by decide)
theorem OrAt.apZ (h : OrAt w B D Z O V VH) : ¬ hzS Z VH B := fun hb => by
  rcases hb with rfl | ⟨p, hp, hb⟩
  · have := h.hz.blk
    rw [h.blk] at this
    injection this with this
    injection this with _ this _
    exact absurd this (by decide)
  · obtain ⟨c, fz, hk⟩ := Lib.ownsRow_kind (h.hz.own p hp) B hb
    rw [h.blk] at hk
    injection hk with hk
    injection hk with _ hk _
    exact absurd hk (by decide)
theorem OrAt.calm (h : OrAt w B D Z O V VH) : Calm w (orS B D Z V VH) := fun b hb => by
  rcases hb with rfl | hb | hb
  · intro cs fr hc
    rw [h.blk] at hc
    injection hc with hc
    injection hc with _ hc _
    exact absurd hc (by decide)
  · exact h.hold.calm b hb
  · exact h.hz.calm b hb
theorem OrAt.kept {S : Nat → Prop} (h : OrAt w B D Z O V VH) (hk : Kept S w w') (hs : ∀ b, orS B D Z V VH b → ¬ S b) (hc : Calm w S) : OrAt w' B D Z O V VH :=
  ⟨hk.keep h.blk (hs B (.inl rfl)), h.hold.keptC hk (fun b hb => hs b (.inr (.inl hb))) hc, h.hz.kept hk (fun b hb => hs b (.inr (.inr hb))), h.ap⟩
theorem OrAt.below (h : OrAt w B D Z O V VH) (hb : Below w.heap.size w w') : OrAt w' B D Z O V VH := h.kept (S := fun _ => False) (.of_below hb) (fun _ _ h => h) (fun _ h => h.elim)
theorem OrAt.cell (h : OrAt w B D Z O V VH) {i : Nat} (hi : i < 70) : w.cell? ⟨B, i, none⟩ = some (orF O D Z i) := (cell_of_row _ _ i _ _ _ h.blk).trans (orC_get O D Z hi)
theorem OrAt.free (h : OrAt w B D Z O V VH) (i : Nat) : w.frozen? ⟨B, i, none⟩ = false := frozen_of_row _ _ _ _ _ h.blk
theorem OrAt.cD (h : OrAt w B D Z O V VH) : w.cell? ⟨B, 0, none⟩ = some (.pointer (some ⟨D, 0, none⟩)) := h.cell (i := 0) (by decide)
theorem OrAt.cZ (h : OrAt w B D Z O V VH) : w.cell? ⟨B, 1, none⟩ = some (.pointer (some ⟨Z, 0, none⟩)) := h.cell (i := 1) (by decide)
theorem OrAt.cme (h : OrAt w B D Z O V VH) : w.cell? ⟨B, 2, none⟩ = some (.int .i64 O.me) := h.cell (i := 2) (by decide)
theorem OrAt.cmb (h : OrAt w B D Z O V VH) : w.cell? ⟨B, 3, none⟩ = some (.int .u64 (O.mb : Int)) := h.cell (i := 3) (by decide)
theorem OrAt.cdn (h : OrAt w B D Z O V VH) {p : Nat} (hp : p < 64) : w.cell? ⟨B, 4 + p, none⟩ = some (.int .u32 (O.dn p : Int)) := (h.cell (by omega)).trans (congrArg some (orF_dn O D Z hp))
theorem OrAt.cls (h : OrAt w B D Z O V VH) : w.cell? ⟨B, 68, none⟩ = some (.int .u64 (O.ls : Int)) := h.cell (i := 68) (by decide)
theorem OrAt.clf (h : OrAt w B D Z O V VH) : w.cell? ⟨B, 69, none⟩ = some (.int .i64 O.lf) := h.cell (i := 69) (by decide)
/-- a cell of the order's block is set -/
theorem OrAt.set (h : OrAt w B D Z O V VH) {O' : PO} {i : Nat} {v : Value} (hc : (orC O D Z).setIfInBounds i v = orC O' D Z) (h1 : O'.lo = O.lo) (h2 : O'.R = O.R) (h3 : O'.H = O.H) : OrAt (w.setCell ⟨B, i, none⟩ v) B D Z O' V VH := by
  have hk := kept_set w B i v
  refine ⟨by rw [setCell_block h.blk i v, hc], ?_, ?_, h.ap⟩
  · rw [h1, h2]
    exact h.hold.keptC hk (fun b hb e => h.apD (e ▸ hb)) (fun b e cs fr hc => by
      subst e
      rw [h.blk] at hc
      injection hc with hc
      injection hc with _ hc _
      exact absurd hc (by decide))
  · rw [h3]
    exact h.hz.kept hk (fun b hb e => h.apZ (e ▸ hb))
end
/-- how great an order is -/
structure OrOk (O : PO) : Prop where
  mb : O.mb < 18446744073709551616
  hz : HzOk O.H
  bd : HoldBd O.lo O.R
  all : (allN O.R 64).length ≤ 1000
  ds : ∀ p, p < 64 → ∀ m ∈ O.R p, m.ds.length ≤ 1000000
  dn : ∀ p, p < 64 → O.dn p ≤ O.lo p + (O.R p).length
  frm : ∀ p, p < 64 → ∀ m ∈ O.R p, m.frm = (p : Int)
theorem OrOk.dnB {O : PO} (h : OrOk O) (p : Nat) (hp : p < 64) : O.dn p ≤ 101000 := by
  have h1 := h.dn p hp
  have h2 := h.bd p hp
  omega
/-- what a step leaves -/
def OrTo (w : World) (B D Z : Nat) (V VH : Nat → Value) (O' : PO) (w' : World) : Prop := Kept (orS B D Z V VH) w w' ∧ ∃ V' VH', OrAt w' B D Z O' V' VH' ∧ newV w V V' ∧ newV w VH VH'
theorem newV_below {w w1 : World} {V V' : Nat → Value} (h : newV w1 V V') (hs : w.heap.size ≤ w1.heap.size) : newV w V V' := fun q hq b hb => (h q hq b hb).imp id (Nat.le_trans hs)
theorem newV_trans {w w1 : World} {V V1 V2 : Nat → Value} (h : newV w V V1) (k : newV w1 V1 V2) (hs : w.heap.size ≤ w1.heap.size) : newV w V V2 := fun q hq b hb => by
  rcases k q hq b hb with e | e
  · exact h q hq b e
  · exact .inr (Nat.le_trans hs e)
theorem holdS_new {w : World} {D : Nat} {V V' : Nat → Value} (h : newV w V V') {b : Nat} (hb : holdS D V' b) : holdS D V b ∨ w.heap.size ≤ b := by
  rcases hb with rfl | ⟨p, hp, hb⟩
  · exact .inl (.inl rfl)
  · exact (h p hp b hb).imp (fun e => .inr ⟨p, hp, e⟩) id
theorem hzS_new {w : World} {Z : Nat} {V V' : Nat → Value} (h : newV w V V') {b : Nat} (hb : hzS Z V' b) : hzS Z V b ∨ w.heap.size ≤ b := by
  rcases hb with rfl | ⟨p, hp, hb⟩
  · exact .inl (.inl rfl)
  · exact (h p hp b hb).imp (fun e => .inr ⟨p, hp, e⟩) id
theorem orS_new {w : World} {B D Z : Nat} {V V' VH VH' : Nat → Value} (h : newV w V V') (k : newV w VH VH') {b : Nat} (hb : orS B D Z V' VH' b) : orS B D Z V VH b ∨ w.heap.size ≤ b := by
  rcases hb with rfl | hb | hb
  · exact .inl (.inl rfl)
  · exact (holdS_new h hb).imp (fun e => .inr (.inl e)) id
  · exact (hzS_new k hb).imp (fun e => .inr (.inr e)) id
theorem OrTo.trans {w w1 w2 : World} {B D Z : Nat} {V VH V1 VH1 : Nat → Value} {O2 : PO} (k1 : Kept (orS B D Z V VH) w w1) (n1 : newV w V V1) (m1 : newV w VH VH1) (h : OrTo w1 B D Z V1 VH1 O2 w2) : OrTo w B D Z V VH O2 w2 := by
  obtain ⟨k2, V2, VH2, h2, n2, m2⟩ := h
  have hs := k1.size
  refine ⟨⟨k2.os.trans k1.os, k2.tape.trans k1.tape, k2.output.trans k1.output, Nat.le_trans k1.size k2.size, fun i hi h => (k2.block i (Nat.lt_of_lt_of_le hi hs) (fun e => ?_)).trans (k1.block i hi h)⟩, V2, VH2, h2, newV_trans n1 n2 k1.size, newV_trans m1 m2 k1.size⟩
  rcases orS_new n1 m1 e with e | e
  · exact h e
  · omega
theorem OrTo.same {w : World} {B D Z : Nat} {O : PO} {V VH : Nat → Value} (h : OrAt w B D Z O V VH) : OrTo w B D Z V VH O w := ⟨Kept.refl _ _, V, VH, h, newV_refl w V, newV_refl w VH⟩
theorem OrTo.below {w w' : World} {B D Z : Nat} {O : PO} {V VH : Nat → Value} (h : OrAt w B D Z O V VH) (hb : Below w.heap.size w w') : OrTo w B D Z V VH O w' := ⟨Kept.of_below hb, V, VH, h.below hb, newV_refl w V, newV_refl w VH⟩
/-- a step of the hold alone -/
theorem OrAt.stepHold {w w' : World} {B D Z : Nat} {O : PO} {V VH V' : Nat → Value} {lo' : Nat → Nat} {R' : Nat → List Msg} (h : OrAt w B D Z O V VH) (hk : Kept (holdS D V) w w') (hh : HoldAt w' D lo' R' V') (hn : newV w V V') :
    OrTo w B D Z V VH { O with lo := lo', R := R' } w' := by
  refine ⟨hk.more fun b _ e => .inr (.inl e), V', VH, ⟨hk.keep h.blk h.apD, hh, h.hz.kept hk (fun b hb e => h.ap b e hb), fun b hb e => ?_⟩, hn, newV_refl w VH⟩
  rcases holdS_new hn hb with hb | hb
  · exact h.ap b hb e
  · rcases e with rfl | ⟨p, hp, e⟩
    · exact absurd h.hz.lt (by omega)
    · exact absurd ((h.hz.own p hp).lt b e).2 (by omega)
/-- a step of the horizon alone -/
theorem OrAt.stepHz {w w' : World} {B D Z : Nat} {O : PO} {V VH VH' : Nat → Value} {H' : HZ} (h : OrAt w B D Z O V VH) (hk : Kept (hzS Z VH) w w') (hh : HzAt w' Z H' VH') (hn : newV w VH VH') :
    OrTo w B D Z V VH { O with H := H' } w' := by
  refine ⟨hk.more fun b _ e => .inr (.inr e), V, VH', ⟨hk.keep h.blk h.apZ, h.hold.keptC hk (fun b hb e => h.ap b hb e) h.hz.calm, hh, fun b hb e => ?_⟩, newV_refl w V, hn⟩
  rcases hzS_new hn e with e | e
  · exact h.ap b hb e
  · rcases hb with rfl | ⟨p, hp, hb⟩
    · exact absurd h.hold.lt (by omega)
    · exact absurd ((h.hold.own p hp).lt b hb).2 (by omega)
theorem OrAt.stepHzEnd {w w' : World} {B D Z : Nat} {O : PO} {V VH : Nat → Value} {H' : HZ} {e : Ending} (h : OrAt w B D Z O V VH) (hz : HzEnd w Z VH H' e w') : OrTo w B D Z V VH { O with H := H' } w' := by
  obtain ⟨_, hk, VH', hh, hn⟩ := hz
  exact h.stepHz hk hh hn
theorem orClock_any {w : World} {B D Z : Nat} {O : PO} {V VH : Nat → Value} (h : OrAt w B D Z O V VH) : Calls Tryd.prog 27 #[.pointer (some ⟨Z, 0, none⟩)] w fun e w' => e = .returned (.int .u64 (O.H.c : Int)) ∧ w = w' := hzClock_any Z O.H VH w h.hz
def doneZ (O : PO) (p : Int) : Nat := if 0 ≤ p ∧ p < 64 then O.dn p.toNat else 0
theorem orDone_any {w : World} {B D Z : Nat} {O : PO} {V VH : Nat → Value} (p : Int) (h : OrAt w B D Z O V VH) : Calls Tryd.prog 30 #[.pointer (some ⟨B, 0, none⟩), .int .i64 p] w fun e w' => e = .returned (.int .u32 (doneZ O p : Int)) ∧ w = w' := by
  unfold doneZ
  by_cases h1 : p < 0
  · have d1 : decide (p < 0) = true := by simpa using h1
    rw [if_neg (by omega)]
    clear h
    go_enter Tryd.func30, Tryd.ntmps30
    go_wp2
    go_ret
    exact ⟨rfl, rfl⟩
  · have d1 : decide (p < 0) = false := by simpa using h1
    by_cases h2 : p < 64
    · have d2 : decide (64 ≤ p) = false := by simpa using h2
      rw [if_pos (by omega)]
      obtain ⟨n, rfl⟩ : ∃ n : Nat, p = (n : Int) := ⟨p.toNat, by omega⟩
      have hn : n < 64 := by omega
      have c := h.cdn hn
      show Calls Tryd.prog 30 #[.pointer (some ⟨B, 0, none⟩), .int .i64 (n : Int)] w fun e w' => e = .returned (.int .u32 (O.dn n : Int)) ∧ w = w'
      generalize (O.dn n : Int) = d at *
      clear h
      go_enter Tryd.func30, Tryd.ntmps30
      go_wp2
      go_ret
      exact ⟨rfl, rfl⟩
    · have d2 : decide (64 ≤ p) = true := by simp; omega
      rw [if_neg (by omega)]
      clear h
      go_enter Tryd.func30, Tryd.ntmps30
      go_wp2
      go_ret
      exact ⟨rfl, rfl⟩
theorem orLast_any {w : World} {B D Z : Nat} {O : PO} {V VH : Nat → Value} (h : OrAt w B D Z O V VH) : Calls Tryd.prog 22 #[.pointer (some ⟨B, 0, none⟩)] w fun e w' => e = .returned (.agg #[.int .u64 (O.ls : Int), .int .i64 O.lf]) ∧ Below w.heap.size w w' := by
  have hb := ba (br w) (.cells #[.int .u64 0, .int .i64 0] 38)
  have h1 := h.below hb
  have c1 := h1.cls
  have c2 := h1.clf
  generalize (O.ls : Int) = s at *
  generalize O.lf = f at *
  clear h h1 hb
  go_enter Tryd.func22, Tryd.ntmps22
  go_wp2
  refine bodyPost_ret (results_cell_row Tryd.results22 _ _ w.heap.size 38 _ (0, 0) _ rfl (heap_alloc_new w _) Tryd.underlying38 rfl (by kernel_rfl)) rfl ⟨rfl, ba (br w) _⟩
theorem OrAt.sz {w : World} {B D Z : Nat} {O : PO} {V VH : Nat → Value} (h : OrAt w B D Z O V VH) {b : Nat} (hb : orS B D Z V VH b) : b < w.heap.size := by
  rcases hb with rfl | (rfl | ⟨p, hp, hb⟩) | (rfl | ⟨p, hp, hb⟩)
  · exact h.lt
  · exact h.hold.lt
  · exact ((h.hold.own p hp).lt b hb).2
  · exact h.hz.lt
  · exact ((h.hz.own p hp).lt b hb).2
end Go.Proofs.YtgjlcjbmcnofiaaDoor
namespace Go.Proofs.YtgjlcjbmcnofiaaDoor
set_option linter.unusedVariables false
set_option linter.unusedSimpArgs false
open Go.RowKit
/-- a new order -/
def po0 (me : Int) (m : Nat) : PO := ⟨me, withS m me, lo0, R0, hz0 (butS m (oneS me)), fun _ => 0, 0, 0⟩
def NewOr (w : World) (O : PO) (e : Ending) (w' : World) : Prop := ∃ B D Z, e = .returned (.pointer (some ⟨B, 0, none⟩)) ∧ (∀ b, orS B D Z nilV nilV b → w.heap.size ≤ b) ∧ OrAt w' B D Z O nilV nilV ∧ Below w.heap.size w w'
set_option maxRecDepth 100000 in
set_option maxHeartbeats 4000000 in
theorem orNew_any (me : Int) (m : Nat) (w : World) (hm : m < 18446744073709551616) : Calls Tryd.prog 16 #[.int .i64 me, .int .u64 (m : Int)] w (NewOr w (po0 me m)) := by
  have HH := Lib.hid (hNew_any w)
  have HZ := Lib.hid (fun w' => hzNew_any me m w' hm)
  have HWi := Lib.hid (fun (W : World) => show Calls Tryd.prog 46 #[.int .u64 (m : Int), .slice (some ⟨W.heap.size, 0, none⟩) 1 1] (W.alloc (.cells #[.int .i64 me] 3)) fun e w' => e = .returned (.int .u64 (withS m me : Int)) ∧ W.alloc (.cells #[.int .i64 me] 3) = w' from by
    have := setWith_any m [me] (some ⟨W.heap.size, 0, none⟩) 1 hm (W.alloc (.cells #[.int .i64 me] 3)) (by simp) (by
      have := reads_one W (.int .i64 me) 3
      simpa [intsL] using this)
    have e : withAll m [me] = withS m me := by simp [withAll]
    rw [e] at this
    exact this)
  have HB := Lib.hid (show ∀ D Z : Nat, Tryd.prog.built 60 [(0, .pointer (some ⟨D, 0, none⟩)), (1, .pointer (some ⟨Z, 0, none⟩)), (2, .int .i64 me), (3, .int .u64 (withS m me : Int))] = some (orC (po0 me m) D Z) from fun D Z => by kernel_rfl)
  have HP := Lib.hid (show (po0 me m).lo = (fun _ => 0) ∧ (po0 me m).R = (fun _ => []) ∧ (po0 me m).H = hz0 (butS m (oneS me)) from ⟨rfl, rfl, rfl⟩)
  obtain ⟨O, hO⟩ : ∃ O, O = po0 me m := ⟨_, rfl⟩
  obtain ⟨mb, hmb⟩ : ∃ x, x = withS m me := ⟨_, rfl⟩
  obtain ⟨o, ho⟩ : ∃ x, x = butS m (oneS me) := ⟨_, rfl⟩
  rw [← hO] at HB HP ⊢
  rw [← hmb] at HWi HB
  rw [← ho] at HZ HP
  clear hO hmb ho hm
  go_enter Tryd.func16, Tryd.ntmps16
  go_wp2_with fail
  refine HH.out.mono ?_
  rintro e w1 ⟨rfl, h1, hb1⟩
  have H1 := Lib.hid (And.intro h1 hb1)
  have hs1 : w.heap.size < w1.heap.size := h1.lt
  obtain ⟨D, hD⟩ : ∃ D, D = w.heap.size := ⟨_, rfl⟩
  rw [← hD] at H1 ⊢
  have HD := Lib.hid (And.intro hD hs1)
  clear h1 hb1 HH hD hs1
  go_wp2_with fail
  refine (HZ.out w1).mono ?_
  rintro e w2 ⟨Z, rfl, hZ, h2, hb2⟩
  have H2 := Lib.hid (And.intro hZ (And.intro h2 hb2))
  clear hZ h2 hb2 HZ
  go_wp2_with fail
  refine (HWi.out w2).mono ?_
  rintro e w3 ⟨rfl, rfl⟩
  obtain ⟨cz, hcz⟩ : ∃ cz, cz = orC O D Z := ⟨_, rfl⟩
  have HBD := Lib.hid (HB.out D Z)
  rw [← hcz] at HBD
  have HE := Lib.hid (show ∀ w4, w4 = w2.alloc (.cells #[.int .i64 me] 3) → NewOr w O (.returned (.pointer (some ⟨w4.heap.size, 0, none⟩))) (w4.alloc (.cells cz 60)) from fun w4 e4 => by
    have hb4 : Below w2.heap.size w2 w4 := by rw [e4]; exact ba (br w2) _
    have hb5 := ba (br w4) (.cells cz 60)
    have hb25 := bt hb4 hb5
    have hd := (H1.out.1.below H2.out.2.2).below hb25
    have hz := H2.out.2.1.below hb25
    have s1 := HD.out.2
    have s2 := H2.out.2.2.size
    have s4 := hb4.size
    have sD := HD.out.1
    have sZ := H2.out.1
    refine ⟨w4.heap.size, D, Z, rfl, fun b hb => ?_, ⟨by rw [hcz]; exact heap_alloc_new w4 _, by rw [HP.out.1, HP.out.2.1]; exact hd, by rw [HP.out.2.2]; exact hz, fun b hb e => ?_⟩, bt (bt (by have := H1.out.2; rw [sD] at this; exact this) H2.out.2.2) hb25⟩
    · rcases hb with rfl | (rfl | ⟨p, hp, hb⟩) | (rfl | ⟨p, hp, hb⟩)
      · omega
      · omega
      · cases hb
      · omega
      · cases hb
    · rcases hb with rfl | ⟨p, hp, hb⟩
      · rcases e with e | ⟨p, hp, e⟩
        · omega
        · cases e
      · cases hb)
  obtain ⟨w4, hw4⟩ : ∃ w4, w4 = w2.alloc (.cells #[.int .i64 me] 3) := ⟨_, rfl⟩
  have HF := Lib.hid (HE.out w4 hw4)
  rw [← hw4]
  clear hw4 HE HB H1 H2 HD HWi hcz HP
  go_wp2_with (first | (refine wpList_buildT rfl 60 #[(0, .tmp 5), (1, .tmp 8), (2, .tmp 9), (3, .tmp 13)] rfl cz (by simp only [List.map_toArray, List.map_cons, List.map_nil]; exact HBD.out) ?_) | fail)
  go_ret
  exact HF.out
/-- the first ones of a process are dropped -/
def PO.trim (O : PO) (p : Int) (upto : Nat) : PO := { O with lo := dropLo O.lo O.R p (min upto (doneZ O p)), R := dropR O.lo O.R p (min upto (doneZ O p)) }
set_option maxRecDepth 100000 in
set_option maxHeartbeats 4000000 in
theorem orTrim_any {w : World} {B D Z : Nat} {O : PO} {V VH : Nat → Value} (p : Int) (upto : Nat) (h : OrAt w B D Z O V VH) (hk : OrOk O) (hu : upto < 4294967296) :
    Calls Tryd.prog 21 #[.pointer (some ⟨B, 0, none⟩), .int .i64 p, .int .u32 (upto : Int)] w fun e w' => e = .returned (.tuple #[]) ∧ OrTo w B D Z V VH (O.trim p upto) w' := by
  have hS0 : w.drew.cell? ⟨B, 0, none⟩ = some (.pointer (some ⟨D, 0, none⟩)) := (h.below ((br w).drew)).cD
  have HDn := Lib.hid (show ∀ w', Below w.heap.size w w' → Calls Tryd.prog 30 #[.pointer (some ⟨B, 0, none⟩), .int .i64 p] w' fun e w'' => e = .returned (.int .u32 (doneZ O p : Int)) ∧ w' = w'' from fun w' hb => orDone_any p (h.below hb))
  have HDr := Lib.hid (show ∀ w', Below w.heap.size w w' → Calls Tryd.prog 51 #[.pointer (some ⟨D, 0, none⟩), .int .i64 p, .int .u32 ((min upto (doneZ O p) : Nat) : Int)] w' fun e w'' => e = .returned (.tuple #[]) ∧ OrTo w B D Z V VH (O.trim p upto) w'' from fun w' hb =>
    (hDrop_any D O.lo O.R V p (min upto (doneZ O p)) w' (h.below hb).hold hk.bd (by omega)).mono fun e w'' ⟨h1, ⟨V', h2, h3⟩, h4⟩ => ⟨h1, OrTo.trans (Kept.of_below hb) (newV_refl w V) (newV_refl w VH) ((h.below hb).stepHold h4 h2 h3)⟩)
  obtain ⟨d, hd⟩ : ∃ d, d = doneZ O p := ⟨_, rfl⟩
  rw [← hd] at HDn HDr
  have hb0 := (br w).drew
  clear h hk hd
  go_enter Tryd.func21, Tryd.ntmps21
  refine wp_region_mask (fun w' => w'.cell? ⟨B, 0, none⟩ = some (.pointer (some ⟨D, 0, none⟩))) 10 3 [true, true, true, true, true, true, true, true, false, false, false] #[true, true, true, true, true, true, true, true, false, false, false] (by kernel_rfl) (by kernel_rfl) (by kernel_rfl) hS0 ?_
  have HB0 := Lib.hid hb0
  have HS0 := Lib.hid hS0
  clear hS0 hb0
  generalize w.drew = W at *
  iterate 8
    refine wpMask_take _ (Or.inl ⟨by rfl, fun w' hS => by (try dsimp only at hS); go_simp; try with_reducible rfl⟩) ?_
    simp only [Act.put, List.setIfInBounds_toArray, List.set_cons_zero, List.set_cons_succ]
  refine wpMask_skip (wpMask_skip (wpMask_skip (wpMask_nil ?_)))
  refine wpAnyS_ready (rs := [8]) (by kernel_rfl) (by simp) ?_
  refine AllReadyS.cons rfl (fun K hK => ?_) AllReadyS.nil
  go_simp
  refine (HDn.out W HB0.out).mono ?_
  rintro e w3 ⟨rfl, rfl⟩
  refine hK.out _ _ (fun h => HS0.out) ?_
  clear hK K
  simp only [Act.put, List.getElem_toArray, List.getElem_cons_succ, List.getElem_cons_zero, List.setIfInBounds_toArray, List.set_cons_zero, List.set_cons_succ]
  refine wpAnyS_ready (rs := [9]) (by kernel_rfl) (by simp) ?_
  refine AllReadyS.cons rfl (fun K hK => ?_) AllReadyS.nil
  go_simp
  refine hK.out _ _ (fun h => HS0.out) ?_
  clear hK K
  simp only [Act.put, List.getElem_toArray, List.getElem_cons_succ, List.getElem_cons_zero, List.setIfInBounds_toArray, List.set_cons_zero, List.set_cons_succ]
  rw [min_if]
  refine wpAnyS_ready (rs := [10]) (by kernel_rfl) (by simp) ?_
  refine AllReadyS.cons rfl (fun K hK => ?_) AllReadyS.nil
  go_simp
  refine (HDr.out W HB0.out).mono ?_
  rintro e w3 ⟨rfl, hE⟩
  have HE := Lib.hid hE
  refine hK.out _ _ (fun h => absurd h (by decide)) ?_
  clear hK K hE
  simp only [Act.put, List.getElem_toArray, List.getElem_cons_succ, List.getElem_cons_zero, List.setIfInBounds_toArray, List.set_cons_zero, List.set_cons_succ]
  refine wpAnyS_done (by kernel_rfl) ?_ _
  go_wp2_with fail
  go_end0
  exact ⟨rfl, HE.out⟩
/-- a message is taken; m': it in memory of the order's own -/
def PO.take (O : PO) (m m' : Msg) : PO := { O with R := upd O.R m.frm.toNat (O.R m.frm.toNat ++ [m']), H := if m.frm = O.me then O.H.setC (max O.H.c m.stamp) else O.H.came m.frm m.seq m.stamp }
def takeZ (O : PO) (m : Msg) : Int := if hasS O.mb m.frm = true then putK O.lo O.R m else 5
/-- what Take leaves -/
def TakeEnd (w : World) (B D Z : Nat) (O : PO) (V VH : Nat → Value) (m : Msg) (e : Ending) (w' : World) : Prop :=
  e = .returned (.int .i64 (takeZ O m)) ∧ ((takeZ O m ≠ 0 ∧ OrTo w B D Z V VH O w') ∨ (takeZ O m = 0 ∧ ∃ m', core m' = core m ∧ OrTo w B D Z V VH (O.take m m') w'))
set_option maxRecDepth 100000 in
set_option maxHeartbeats 8000000 in
theorem orTake_any {w : World} {B D Z : Nat} {O : PO} {V VH : Nat → Value} (m : Msg) (h : OrAt w B D Z O V VH) (hk : OrOk O) (hok : MsgOk w m) (hds : m.ds.length ≤ 1000000) :
    Calls Tryd.prog 17 #[.pointer (some ⟨B, 0, none⟩), .agg (msgA m)] w (TakeEnd w B D Z O V VH m) := by
  obtain ⟨w1, hw1⟩ : ∃ w1, w1 = w.alloc (.cells (msgA m) 42) := ⟨_, rfl⟩
  have hb1 : Below w.heap.size w w1 := by rw [hw1]; exact ba (br w) _
  have hx1 : w1.heap[w.heap.size]? = some (.cells (msgA m) 42 (0, 0)) := by rw [hw1]; exact heap_alloc_new w _
  obtain ⟨X, hX⟩ : ∃ X, X = w.heap.size := ⟨_, rfl⟩
  rw [← hX] at hx1
  have hX1 : X < w1.heap.size := (Array.getElem?_eq_some_iff.1 hx1).1
  have h1 := h.below hb1
  have o3 : ∀ y : Bel w1, y.val.cell? ⟨B, 3, none⟩ = some (.int .u64 (O.mb : Int)) := Bel.cell h1.cmb h1.lt
  have x0 : ∀ y : Bel w1, y.val.cell? ⟨X, 0, none⟩ = some (.int .i64 m.frm) := Bel.cell (cell_of_row _ _ 0 _ _ _ hx1) hX1
  have HHas := Lib.hid (fun (W : World) => setHas_any O.mb m.frm hk.mb W)
  have HSZ := Lib.hid (show ∀ b, orS B D Z V VH b → b < w.heap.size from fun b hb => h.sz hb)
  have H1 := Lib.hid (And.intro hb1 (And.intro hx1 (And.intro h1 (And.intro hk (And.intro hok (And.intro hds hX))))))
  obtain ⟨mb, hmb⟩ : ∃ x, x = O.mb := ⟨_, rfl⟩
  obtain ⟨fr, hfr⟩ : ∃ x, x = m.frm := ⟨_, rfl⟩
  have HTZ := Lib.hid (show takeZ O m = if hasS mb fr = true then putK O.lo O.R m else 5 from by rw [hmb, hfr]; rfl)
  rw [← hmb] at o3 HHas
  rw [← hfr] at x0 HHas
  have HFR := Lib.hid hfr
  have HW1 := Lib.hid (And.intro hw1 hX)
  obtain ⟨cx, hcx⟩ : ∃ cx, cx = msgA m := ⟨_, rfl⟩
  have hcs : cx.size = 6 := by rw [hcx]; rfl
  have hca : cx.all (·.oneCell') = true := by rw [hcx]; exact enM_all m
  rw [← hcx] at HW1 ⊢
  have HCX := Lib.hid (And.intro hcx (And.intro hcs hca))
  clear hw1 hb1 hx1 hX hX1 h1 h hk hok hds hmb hfr hcx hcs hca
  go_enter Tryd.func17, Tryd.ntmps17
  go_upto_region 1 with (fail)
  rw [← HW1.out.1, ← HW1.out.2]
  obtain ⟨me, hme⟩ : ∃ x, x = O.me := ⟨_, rfl⟩
  obtain ⟨pk, hpk⟩ : ∃ x, x = putK O.lo O.R m := ⟨_, rfl⟩
  have HME := Lib.hid (And.intro hme hpk)
  clear hme hpk
  go_cut [13] (fun s13 wx => s13 = .bool (!hasS mb fr) ∧ Hid (Below w1.heap.size w1 wx))
  case first =>
    refine wp_region_bel (by kernel_rfl) (by kernel_rfl) ?_
    repeat (go_big_quiet_step ((go_at_call 47; with_reducible exact bel_same (HHas.out _))))
    refine wpQuiet_nil ?_
    intro w2 hw2
    have HB2 := Lib.hid (bel_out hw2)
    clear hw2 o3 x0
    go_wp2_with fail
    go_meet
    exact ⟨rfl, HB2⟩
  case rest =>
  obtain ⟨rfl, HB2⟩ := hcut
  obtain ⟨w2, rfl⟩ : ∃ z, z = wc := ⟨_, rfl⟩
  clear o3 x0 HHas
  by_cases hh : hasS mb fr = true
  rotate_left
  · have hh : hasS mb fr = false := by simpa using hh
    have HE := Lib.hid (show TakeEnd w B D Z O V VH m (.returned (.int .i64 5)) w2 from by
      have : takeZ O m = 5 := by rw [HTZ.out, if_neg (by rw [hh]; decide)]
      unfold TakeEnd
      rw [this]
      exact ⟨rfl, .inl ⟨by decide, OrTo.trans (Kept.of_below (bt H1.out.1 HB2.out)) (newV_refl w V) (newV_refl w VH) (OrTo.same (H1.out.2.2.1.below HB2.out))⟩⟩)
    rw [hh]
    clear HTZ
    go_wp2_with fail
    go_ret
    exact HE.out
  rw [hh]
  have HTZ := Lib.hid (show takeZ O m = pk from by rw [HTZ.out, if_pos hh, HME.out.2])
  clear hh
  go_upto_region 3 with (fail)
  go_cut [5] (fun s5 wx => s5 = .int .i64 pk ∧ Hid (wx.heap[X]? = some (.cells cx 42 (0, 0)) ∧ ∃ R' V', (pk ≠ 0 → R' = O.R) ∧ (pk = 0 → ∃ m', core m' = core m ∧ R' = upd O.R fr.toNat (O.R fr.toNat ++ [m'])) ∧ OrAt wx B D Z { O with R := R' } V' VH ∧ Kept (orS B D Z V VH) w wx ∧ newV w V V'))
  case first =>
    have h3 : OrAt w2.drew B D Z O V VH := (H1.out.2.2.1.below HB2.out).below ((br w2).drew)
    have hx3 : w2.drew.heap[X]? = some (.cells cx 42 (0, 0)) := by
      rw [HCX.out.1]
      exact (HB2.out.block _ (Array.getElem?_eq_some_iff.1 H1.out.2.1).1).trans H1.out.2.1
    have hS0 : w2.drew.cell? ⟨B, 0, none⟩ = some (.pointer (some ⟨D, 0, none⟩)) ∧ w2.drew.rangeAt X 0 cx.toList := ⟨h3.cD, fun j u hu => by rw [Nat.zero_add]; exact (cell_of_row _ _ j _ _ _ hx3).trans (by simpa using hu)⟩
    have HP := Lib.hid (show Calls Tryd.prog 48 #[.pointer (some ⟨D, 0, none⟩), .agg cx] w2.drew fun e w' => e = .returned (.int .i64 pk) ∧ (w'.cell? ⟨B, 0, none⟩ = some (.pointer (some ⟨D, 0, none⟩)) ∧ w'.rangeAt X 0 cx.toList) ∧ Hid (w'.heap[X]? = some (.cells cx 42 (0, 0)) ∧ ∃ R' V', (pk ≠ 0 → R' = O.R) ∧ (pk = 0 → ∃ m', core m' = core m ∧ R' = upd O.R fr.toNat (O.R fr.toNat ++ [m'])) ∧ OrAt w' B D Z { O with R := R' } V' VH ∧ Kept (orS B D Z V VH) w w' ∧ newV w V V') from by
      have hbw : Below w.heap.size w w2.drew := bt H1.out.1 (HB2.out.drew)
      have hput := hPut_two D O.lo O.R V m w2.drew h3.hold H1.out.2.2.2.1.bd (H1.out.2.2.2.2.1.below hbw) H1.out.2.2.2.2.2.1
      rw [← HCX.out.1] at hput
      refine hput.mono fun e w' ⟨he, hk, V', hn, hor⟩ => ?_
      have hpk := HME.out.2
      rw [← hpk] at he hor
      have hXs : ¬ holdS D V X := fun e => by
        have := HSZ.out X (.inr (.inl e))
        have := H1.out.2.2.2.2.2.2
        omega
      have hx4 : w'.heap[X]? = some (.cells cx 42 (0, 0)) := hk.keep hx3 hXs
      obtain ⟨R', hR1, hR2, hH⟩ : ∃ R', (pk ≠ 0 → R' = O.R) ∧ (pk = 0 → ∃ m', core m' = core m ∧ R' = upd O.R fr.toNat (O.R fr.toNat ++ [m'])) ∧ HoldAt w' D O.lo R' V' := by
        rcases hor with ⟨h5, h6⟩ | ⟨h5, h6, h7, m', h8, h9⟩
        · exact ⟨O.R, fun _ => rfl, fun e => absurd e h5, h6⟩
        · exact ⟨_, fun e => absurd h5 e, fun _ => ⟨m', h8, by rw [HFR.out]⟩, h9⟩
      obtain ⟨k9, V9, VH9, h9, n9, m9⟩ := h3.stepHold hk hH hn
      have hor4 : OrAt w' B D Z { O with R := R' } V' VH := ⟨h9.blk, hH, h3.hz.kept hk (fun b hb e => h3.ap b e hb), fun b hb e => by
        rcases holdS_new hn hb with hb | hb
        · exact h3.ap b hb e
        · have := HSZ.out b (.inr (.inr e))
          have := hbw.size
          omega⟩
      exact ⟨he, ⟨hor4.cD, fun j u hu => by rw [Nat.zero_add]; exact (cell_of_row _ _ j _ _ _ hx4).trans (by simpa using hu)⟩, ⟨hx4, R', V', hR1, hR2, hor4, (Kept.of_below hbw).trans (hk.more fun b _ e => .inr (.inl e)), newV_below hn hbw.size⟩⟩)
    refine wp_region_mask (fun w' => w'.cell? ⟨B, 0, none⟩ = some (.pointer (some ⟨D, 0, none⟩)) ∧ w'.rangeAt X 0 cx.toList) 6 2 [true, true, true, true, true, false, false] #[true, true, true, true, true, false, false] (by kernel_rfl) (by kernel_rfl) (by kernel_rfl) hS0 ?_
    clear hS0 h3 hx3 HTZ
    have HSX := Lib.hid (show (Tryd.prog.info? 42).map (·.size) = some cx.toList.length from by rw [HCX.out.1]; exact szM)
    have hct : cx.toList.toArray = cx := by simp
    generalize w2.drew = W at *
    iterate 4
      refine wpMask_take _ (Or.inl ⟨by rfl, fun w' hS => by (try dsimp only at hS); obtain ⟨hS1, hS2⟩ := hS; clear hS2; go_simp; try with_reducible rfl⟩) ?_
      simp only [Act.put, List.setIfInBounds_toArray, List.set_cons_zero, List.set_cons_succ]
    refine wpMask_take _ (yieldsIf_load_mid (by rfl) 42 (.tmp 3) rfl X 0 rfl cx.toList _ (fun w' hS => hS.2) Tryd.underlying42 rfl HSX.out) ?_
    simp only [Act.put, List.setIfInBounds_toArray, List.set_cons_zero, List.set_cons_succ]
    rw [hct]
    clear hct
    refine wpMask_skip (wpMask_skip (wpMask_nil ?_))
    refine wpAnyS_ready (rs := [5]) (by kernel_rfl) (by simp) ?_
    refine AllReadyS.cons rfl (fun K hK => ?_) AllReadyS.nil
    go_simp
    refine HP.out.mono ?_
    rintro e w3 ⟨rfl, hS3, hE⟩
    have HE := Lib.hid hE
    refine hK.out _ _ (fun _ => hS3) ?_
    clear hK K hE hS3 HP HB2 HSX
    simp only [Act.put, List.getElem_toArray, List.getElem_cons_succ, List.getElem_cons_zero, List.setIfInBounds_toArray, List.set_cons_zero, List.set_cons_succ]
    refine wpAnyS_ready (rs := [6]) (by kernel_rfl) (by simp) ?_
    refine AllReadyS.cons rfl (fun K hK => ?_) AllReadyS.nil
    go_simp
    refine hK.out _ _ (fun h => absurd h (by decide)) ?_
    clear hK K
    simp only [Act.put, List.getElem_toArray, List.getElem_cons_succ, List.getElem_cons_zero, List.setIfInBounds_toArray, List.set_cons_zero, List.set_cons_succ]
    refine wpAnyS_done (by kernel_rfl) ?_ _
    go_wp2_with fail
    go_meet
    exact ⟨rfl, HE.out⟩
  case rest =>
  obtain ⟨rfl, HE⟩ := hcut
  obtain ⟨w3, rfl⟩ : ∃ z, z = wc := ⟨_, rfl⟩
  by_cases hpk : pk = 0
  rotate_left
  · have hb : (pk != 0) = true := by simpa using hpk
    have HF := Lib.hid (show TakeEnd w B D Z O V VH m (.returned (.int .i64 pk)) w3 from by
      obtain ⟨_, R', V', h1, h2, h3, h4, h5⟩ := HE.out
      rw [h1 hpk] at h3
      unfold TakeEnd
      rw [HTZ.out]
      exact ⟨rfl, .inl ⟨hpk, h4, V', VH, h3, h5, newV_refl w VH⟩⟩)
    clear HTZ HE
    go_wp2_with fail
    go_ret
    exact HF.out
  subst hpk
  obtain ⟨hx3, R', V', _, hR, hor, hkw, hnw⟩ := HE.out
  obtain ⟨m', hm', hR'⟩ := hR rfl
  have x0 : ∀ y : Bel w3, y.val.cell? ⟨X, 0, none⟩ = some (.int .i64 fr) := Bel.cell (by rw [cell_of_row _ _ 0 _ _ _ hx3, HCX.out.1, HFR.out]; rfl) (Array.getElem?_eq_some_iff.1 hx3).1
  have o2 : ∀ y : Bel w3, y.val.cell? ⟨B, 2, none⟩ = some (.int .i64 me) := Bel.cell (by rw [hor.cme, HME.out.1]) hor.lt
  have H3 := Lib.hid (And.intro hx3 (And.intro hor (And.intro hkw (And.intro hnw (And.intro hm' hR')))))
  clear hx3 hR hor hkw hnw hm' hR' HE
  go_upto_region 6 with (fail)
  go_cut [29] (fun s29 wx => s29 = .bool (fr == me) ∧ Hid (Below w3.heap.size w3 wx))
  case first =>
    refine wp_region_bel (by kernel_rfl) (by kernel_rfl) ?_
    repeat (go_big_quiet_step ((fail)))
    refine wpQuiet_nil ?_
    intro w4 hw4
    have HB4 := Lib.hid (bel_out hw4)
    clear hw4 o2 x0
    go_wp2_with fail
    go_meet
    exact ⟨rfl, HB4⟩
  case rest =>
  obtain ⟨rfl, HB4⟩ := hcut
  obtain ⟨w4, rfl⟩ : ∃ z, z = wc := ⟨_, rfl⟩
  have h4 : OrAt w4.drew B D Z { O with R := R' } V' VH := (H3.out.2.1.below HB4.out).below ((br w4).drew)
  have hx4 : w4.drew.heap[X]? = some (.cells (msgA m) 42 (0, 0)) := by
    have := (HB4.out.block _ (Array.getElem?_eq_some_iff.1 H3.out.1).1).trans H3.out.1
    rw [HCX.out.1] at this
    exact this
  have hb34 : Below w3.heap.size w3 w4.drew := HB4.out.drew
  have hkw4 : Kept (orS B D Z V VH) w w4.drew := H3.out.2.2.1.trans (Kept.of_below hb34)
  have HZF := Lib.hid (show ∀ (H' : HZ) e w', HzEnd w4.drew Z VH H' e w' → H' = (O.take m m').H → e = .returned (.tuple #[]) ∧ TakeEnd w B D Z O V VH m (.returned (.int .i64 0)) w' from fun H' e w' hz hH => by
    refine ⟨hz.1, ?_⟩
    unfold TakeEnd
    rw [HTZ.out]
    refine ⟨rfl, .inr ⟨rfl, m', H3.out.2.2.2.2.1, ?_⟩⟩
    have hst := h4.stepHzEnd hz
    have e : ({ ({ O with R := R' } : PO) with H := H' } : PO) = O.take m m' := by
      rw [hH, H3.out.2.2.2.2.2, HFR.out]
      rfl
    rw [e] at hst
    exact OrTo.trans hkw4 H3.out.2.2.2.1 (newV_refl w VH) hst)
  have s1 : w4.drew.cell? ⟨B, 1, none⟩ = some (.pointer (some ⟨Z, 0, none⟩)) := h4.cZ
  have s2 : w4.drew.cell? ⟨X, 0, none⟩ = some (.int .i64 m.frm) := cell_of_row _ _ 0 _ _ _ hx4
  have s3 : w4.drew.cell? ⟨X, 1, none⟩ = some (.int .u32 (m.seq : Int)) := cell_of_row _ _ 1 _ _ _ hx4
  have s4 : w4.drew.cell? ⟨X, 2, none⟩ = some (.int .u64 (m.stamp : Int)) := cell_of_row _ _ 2 _ _ _ hx4
  by_cases hfm : fr = me
  · have hb : (fr == me) = true := by simpa using hfm
    have HZE := Lib.hid (show Calls Tryd.prog 36 #[.pointer (some ⟨Z, 0, none⟩), .int .u64 (m.stamp : Int)] w4.drew fun e w' => e = .returned (.tuple #[]) ∧ TakeEnd w B D Z O V VH m (.returned (.int .i64 0)) w' from
      (hzSee_any Z O.H VH m.stamp w4.drew h4.hz).mono fun e w' hz => HZF.out _ e w' hz (by
        show _ = if m.frm = O.me then _ else _
        rw [if_pos (by rw [← HFR.out, ← HME.out.1]; exact hfm)]))
    have hS0 : w4.drew.cell? ⟨B, 1, none⟩ = some (.pointer (some ⟨Z, 0, none⟩)) ∧ w4.drew.cell? ⟨X, 2, none⟩ = some (.int .u64 (m.stamp : Int)) := ⟨s1, s4⟩
    clear h4 hx4 hb34 hkw4 s1 s2 s3 s4 hfm
    go_upto_region 7 with (fail)
    refine wp_region_mask (fun w' => w'.cell? ⟨B, 1, none⟩ = some (.pointer (some ⟨Z, 0, none⟩)) ∧ w'.cell? ⟨X, 2, none⟩ = some (.int .u64 (m.stamp : Int))) 6 1 [true, true, true, true, true, true, false] #[true, true, true, true, true, true, false] (by kernel_rfl) (by kernel_rfl) (by kernel_rfl) hS0 ?_
    clear hS0
    generalize w4.drew = W at *
    iterate 6
      refine wpMask_take _ (Or.inl ⟨by rfl, fun w' hS => by (try dsimp only at hS); obtain ⟨hS1, hS2⟩ := hS; go_simp; try with_reducible rfl⟩) ?_
      simp only [Act.put, List.setIfInBounds_toArray, List.set_cons_zero, List.set_cons_succ]
    refine wpMask_skip (wpMask_nil ?_)
    refine wpAnyS_ready (rs := [6]) (by kernel_rfl) (by simp) ?_
    refine AllReadyS.cons rfl (fun K hK => ?_) AllReadyS.nil
    go_simp
    refine HZE.out.mono ?_
    rintro e w5 ⟨rfl, hE⟩
    have HF := Lib.hid hE
    refine hK.out _ _ (fun h => absurd h (by decide)) ?_
    clear hK K hE HZE
    simp only [Act.put, List.getElem_toArray, List.getElem_cons_succ, List.getElem_cons_zero, List.setIfInBounds_toArray, List.set_cons_zero, List.set_cons_succ]
    refine wpAnyS_done (by kernel_rfl) ?_ _
    go_wp2_with fail
    go_ret
    exact HF.out
  · have hb : (fr == me) = false := by simpa using hfm
    have HZE := Lib.hid (show Calls Tryd.prog 49 #[.pointer (some ⟨Z, 0, none⟩), .int .i64 m.frm, .int .u32 (m.seq : Int), .int .u64 (m.stamp : Int)] w4.drew fun e w' => e = .returned (.tuple #[]) ∧ TakeEnd w B D Z O V VH m (.returned (.int .i64 0)) w' from
      (hzCame_any Z O.H VH m.frm m.seq m.stamp w4.drew h4.hz H1.out.2.2.2.1.hz).mono fun e w' hz => HZF.out _ e w' hz (by
        show _ = if m.frm = O.me then _ else _
        rw [if_neg (by rw [← HFR.out, ← HME.out.1]; exact hfm)]))
    have hS0 : w4.drew.cell? ⟨B, 1, none⟩ = some (.pointer (some ⟨Z, 0, none⟩)) ∧ w4.drew.cell? ⟨X, 0, none⟩ = some (.int .i64 m.frm) ∧ w4.drew.cell? ⟨X, 1, none⟩ = some (.int .u32 (m.seq : Int)) ∧ w4.drew.cell? ⟨X, 2, none⟩ = some (.int .u64 (m.stamp : Int)) := ⟨s1, s2, s3, s4⟩
    clear h4 hx4 hb34 hkw4 s1 s2 s3 s4 hfm
    go_upto_region 8 with (fail)
    refine wp_region_mask (fun w' => w'.cell? ⟨B, 1, none⟩ = some (.pointer (some ⟨Z, 0, none⟩)) ∧ w'.cell? ⟨X, 0, none⟩ = some (.int .i64 m.frm) ∧ w'.cell? ⟨X, 1, none⟩ = some (.int .u32 (m.seq : Int)) ∧ w'.cell? ⟨X, 2, none⟩ = some (.int .u64 (m.stamp : Int))) 10 1 [true, true, true, true, true, true, true, true, true, true, false] #[true, true, true, true, true, true, true, true, true, true, false] (by kernel_rfl) (by kernel_rfl) (by kernel_rfl) hS0 ?_
    clear hS0
    generalize w4.drew = W at *
    iterate 10
      refine wpMask_take _ (Or.inl ⟨by rfl, fun w' hS => by (try dsimp only at hS); obtain ⟨hS1, hS2, hS3, hS4⟩ := hS; go_simp; try with_reducible rfl⟩) ?_
      simp only [Act.put, List.setIfInBounds_toArray, List.set_cons_zero, List.set_cons_succ]
    refine wpMask_skip (wpMask_nil ?_)
    refine wpAnyS_ready (rs := [10]) (by kernel_rfl) (by simp) ?_
    refine AllReadyS.cons rfl (fun K hK => ?_) AllReadyS.nil
    go_simp
    refine HZE.out.mono ?_
    rintro e w5 ⟨rfl, hE⟩
    have HF := Lib.hid hE
    refine hK.out _ _ (fun h => absurd h (by decide)) ?_
    clear hK K hE HZE
    simp only [Act.put, List.getElem_toArray, List.getElem_cons_succ, List.getElem_cons_zero, List.setIfInBounds_toArray, List.set_cons_zero, List.set_cons_succ]
    refine wpAnyS_done (by kernel_rfl) ?_ _
    go_wp2_with fail
    go_ret
    exact HF.out
end Go.Proofs.YtgjlcjbmcnofiaaDoor
