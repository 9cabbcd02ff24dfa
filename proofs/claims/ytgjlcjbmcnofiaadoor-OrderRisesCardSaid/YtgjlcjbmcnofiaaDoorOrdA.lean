/-
  An order in memory: its cells, its hold, its horizon; what lies apart; Done, Last.
  Conditions: those that each theorem names.
-/
import Derived.Test.YtgjlcjbmcnofiaaDoorHz
import Derived.Test.YtgjlcjbmcnofiaaDoorHoldN
namespace Go.Proofs.YtgjlcjbmcnofiaaDoor
set_option linter.unusedVariables false
set_option linter.unusedSimpArgs false
open Go.RowKit
/-- an order, in plain: whose, its members, its hold, its horizon, how many were delivered, the last one's key -/
structure PO where
  me : Int
  mb : Nat
  lo : Nat → Nat
  R : Nat → List Msg
  H : HZ
  dn : Nat → Nat
  ls : Nat
  lf : Int
def orF (O : PO) (D Z i : Nat) : Value :=
  if i = 0 then .pointer (some ⟨D, 0, none⟩) else if i = 1 then .pointer (some ⟨Z, 0, none⟩) else if i = 2 then .int .i64 O.me else if i = 3 then .int .u64 (O.mb : Int) else
  if i < 68 then .int .u32 (O.dn (i - 4) : Int) else if i = 68 then .int .u64 (O.ls : Int) else .int .i64 O.lf
def orC (O : PO) (D Z : Nat) : Array Value := ((List.range 70).map (orF O D Z)).toArray
theorem orC_size (O : PO) (D Z : Nat) : (orC O D Z).size = 70 := by simp [orC]
theorem orC_get (O : PO) (D Z : Nat) {i : Nat} (hi : i < 70) : (orC O D Z)[i]? = some (orF O D Z i) := by
  unfold orC
  simp [List.getElem?_range hi]
theorem orC_set {O O' : PO} {D Z D' Z' j : Nat} {v : Value} (h : ∀ i, i < 70 → (if i = j then v else orF O D Z i) = orF O' D' Z' i) : (orC O D Z).setIfInBounds j v = orC O' D' Z' := by
  apply Array.ext_getElem?
  intro i
  by_cases hi : i < 70
  · rw [orC_get O' D' Z' hi, ← h i hi]
    by_cases hij : i = j
    · subst hij
      rw [if_pos rfl, Array.getElem?_setIfInBounds_self_of_lt (by rw [orC_size]; exact hi)]
    · rw [if_neg hij, Array.getElem?_setIfInBounds_ne (fun e => hij e.symm), orC_get O D Z hi]
  · rw [Array.getElem?_eq_none (by rw [Array.size_setIfInBounds, orC_size]; omega), Array.getElem?_eq_none (by rw [orC_size]; omega)]
theorem orF_dn (O : PO) (D Z : Nat) {p : Nat} (hp : p < 64) : orF O D Z (4 + p) = .int .u32 (O.dn p : Int) := by
  unfold orF
  rw [if_neg (by omega), if_neg (by omega), if_neg (by omega), if_neg (by omega), if_pos (by omega), show 4 + p - 4 = p by omega]
def PO.setDn (O : PO) (p x : Nat) : PO := { O with dn := upd O.dn p x }
theorem orC_dn (O : PO) (D Z : Nat) {p : Nat} (hp : p < 64) (x : Nat) : (orC O D Z).setIfInBounds (4 + p) (.int .u32 (x : Int)) = orC (O.setDn p x) D Z := orC_set fun i hi => by
  by_cases h : i = 4 + p
  · subst h; rw [if_pos rfl, orF_dn _ _ _ hp]; unfold PO.setDn; simp only [upd_same]
  · rw [if_neg h]; unfold orF PO.setDn
    by_cases h0 : i < 4
    · rcases (by omega : i = 0 ∨ i = 1 ∨ i = 2 ∨ i = 3) with rfl | rfl | rfl | rfl <;> rfl
    · have a0 : ¬ i = 0 := by omega
      have a1 : ¬ i = 1 := by omega
      have a2 : ¬ i = 2 := by omega
      have a3 : ¬ i = 3 := by omega
      simp only [if_neg a0, if_neg a1, if_neg a2, if_neg a3]
      by_cases h1 : i < 68
      · rw [if_pos h1, if_pos h1, upd_ne _ _ (by omega)]
      · rw [if_neg h1, if_neg h1]
theorem orC_ls (O : PO) (D Z : Nat) (x : Nat) : (orC O D Z).setIfInBounds 68 (.int .u64 (x : Int)) = orC { O with ls := x } D Z := orC_set fun i hi => by
  by_cases h : i = 68
  · subst h; rfl
  · rw [if_neg h]; unfold orF
    simp only [if_neg h]
theorem orC_lf (O : PO) (D Z : Nat) (x : Int) : (orC O D Z).setIfInBounds 69 (.int .i64 x) = orC { O with lf := x } D Z := orC_set fun i hi => by
  by_cases h : i = 69
  · subst h; rfl
  · rw [if_neg h]; unfold orF
    by_cases h0 : i < 4
    · rcases (by omega : i = 0 ∨ i = 1 ∨ i = 2 ∨ i = 3) with rfl | rfl | rfl | rfl <;> rfl
    · have a0 : ¬ i = 0 := by omega
      have a1 : ¬ i = 1 := by omega
      have a2 : ¬ i = 2 := by omega
      have a3 : ¬ i = 3 := by omega
      simp only [if_neg a0, if_neg a1, if_neg a2, if_neg a3]
      by_cases h1 : i < 68
      · rw [if_pos h1, if_pos h1]
      · rw [if_neg h1, if_neg h1, if_pos (by omega), if_pos (by omega)]
/-- blocks that hold no numbers of a vector -/
def Calm (w : World) (S : Nat → Prop) : Prop := ∀ b, S b → ∀ cs fr, w.heap[b]? ≠ some (.cells cs 33 fr)
theorem calm_or {w : World} {S T : Nat → Prop} (h : Calm w S) (k : Calm w T) : Calm w (fun b => S b ∨ T b) := fun b hb => hb.elim (h b) (k b)
theorem HoldAt.calm {w : World} {D : Nat} {lo : Nat → Nat} {R : Nat → List Msg} {V : Nat → Value} (h : HoldAt w D lo R V) : Calm w (holdS D V) := fun b hb cs fr hc => by
  rcases hb with rfl | ⟨p, hp, hb⟩
  · rw [h.blk] at hc
    injection hc with hc
    injection hc with _ hc _
    exact absurd hc (by decide)
  · obtain ⟨c, fz, hk⟩ := Lib.ownsRow_kind (h.own p hp) b hb
    rw [hk] at hc
    injection hc with hc
    injection hc with _ hc _
    exact absurd hc (by decide)
theorem HzAt.calm {w : World} {Z : Nat} {H : HZ} {V : Nat → Value} (h : HzAt w Z H V) : Calm w (hzS Z V) := fun b hb cs fr hc => by
  rcases hb with rfl | ⟨p, hp, hb⟩
  · rw [h.blk] at hc
    injection hc with hc
    injection hc with _ hc _
    exact absurd hc (by decide)
  · obtain ⟨c, fz, hk⟩ := Lib.ownsRow_kind (h.own p hp) b hb
    rw [hk] at hc
    injection hc with hc
    injection hc with _ hc _
    exact absurd hc (by decide)
theorem HoldAt.keptC {w w' : World} {D : Nat} {lo : Nat → Nat} {R : Nat → List Msg} {V : Nat → Value} {S : Nat → Prop} (h : HoldAt w D lo R V) (hk : Kept S w w') (hs : ∀ b, holdS D V b → ¬ S b) (hc : Calm w S) : HoldAt w' D lo R V :=
  h.kept hk hs fun p hp m hm b hb hS => by
    obtain ⟨c, fz, hk⟩ := Lib.ownsRow_kind (h.ok p hp m hm).2 b hb
    exact hc b hS _ _ hk
/-- block B is an order, over a hold D and a horizon Z -/
structure OrAt (w : World) (B D Z : Nat) (O : PO) (V VH : Nat → Value) : Prop where
  blk : w.heap[B]? = some (.cells (orC O D Z) 60 (0, 0))
  hold : HoldAt w D O.lo O.R V
  hz : HzAt w Z O.H VH
  ap : ∀ b, holdS D V b → ¬ hzS Z VH b
def orS (B D Z : Nat) (V VH : Nat → Value) (b : Nat) : Prop := b = B ∨ holdS D V b ∨ hzS Z VH b
section
variable {w w' : World} {B D Z : Nat} {O : PO} {V VH : Nat → Value}
theorem OrAt.lt (h : OrAt w B D Z O V VH) : B < w.heap.size := (Array.getElem?_eq_some_iff.1 h.blk).1
theorem OrAt.apD (h : OrAt w B D Z O V VH) : ¬ holdS D V B := fun hb => by
  rcases hb with rfl | ⟨p, hp, hb⟩
  · have := h.hold.blk
    rw [h.blk] at this
    injection this with this
    injection this with _ this _
    exact absurd this (by decide)
  · obtain ⟨c, fz, hk⟩ := Lib.ownsRow_kind (h.hold.own p hp) B hb
    rw [h.blk] at hk
    injection hk with hk
    injection hk with _ hk _
    exact absurd hk (by decide)
theorem OrAt.apZ (h : OrAt w B D Z O V VH) : ¬ hzS Z VH B := fun hb => by
  rcases hb with rfl | ⟨p, hp, hb⟩
  · have := h.hz.blk
    rw [h.blk] at this
    injection this with this
    injection this with _ this _
    exact absurd this (by decide)
  · obtain ⟨c, fz, hk⟩ := Lib.ownsRow_kind (h.hz.own p hp) B hb
    rw [h.blk] at hk
    injection hk with hk
    injection hk with _ hk _
    exact absurd hk (by decide)
theorem OrAt.calm (h : OrAt w B D Z O V VH) : Calm w (orS B D Z V VH) := fun b hb => by
  rcases hb with rfl | hb | hb
  · intro cs fr hc
    rw [h.blk] at hc
    injection hc with hc
    injection hc with _ hc _
    exact absurd hc (by decide)
  · exact h.hold.calm b hb
  · exact h.hz.calm b hb
theorem OrAt.kept {S : Nat → Prop} (h : OrAt w B D Z O V VH) (hk : Kept S w w') (hs : ∀ b, orS B D Z V VH b → ¬ S b) (hc : Calm w S) : OrAt w' B D Z O V VH :=
  ⟨hk.keep h.blk (hs B (.inl rfl)), h.hold.keptC hk (fun b hb => hs b (.inr (.inl hb))) hc, h.hz.kept hk (fun b hb => hs b (.inr (.inr hb))), h.ap⟩
theorem OrAt.below (h : OrAt w B D Z O V VH) (hb : Below w.heap.size w w') : OrAt w' B D Z O V VH := h.kept (S := fun _ => False) (.of_below hb) (fun _ _ h => h) (fun _ h => h.elim)
theorem OrAt.cell (h : OrAt w B D Z O V VH) {i : Nat} (hi : i < 70) : w.cell? ⟨B, i, none⟩ = some (orF O D Z i) := (cell_of_row _ _ i _ _ _ h.blk).trans (orC_get O D Z hi)
theorem OrAt.free (h : OrAt w B D Z O V VH) (i : Nat) : w.frozen? ⟨B, i, none⟩ = false := frozen_of_row _ _ _ _ _ h.blk
theorem OrAt.cD (h : OrAt w B D Z O V VH) : w.cell? ⟨B, 0, none⟩ = some (.pointer (some ⟨D, 0, none⟩)) := h.cell (i := 0) (by decide)
theorem OrAt.cZ (h : OrAt w B D Z O V VH) : w.cell? ⟨B, 1, none⟩ = some (.pointer (some ⟨Z, 0, none⟩)) := h.cell (i := 1) (by decide)
theorem OrAt.cme (h : OrAt w B D Z O V VH) : w.cell? ⟨B, 2, none⟩ = some (.int .i64 O.me) := h.cell (i := 2) (by decide)
theorem OrAt.cmb (h : OrAt w B D Z O V VH) : w.cell? ⟨B, 3, none⟩ = some (.int .u64 (O.mb : Int)) := h.cell (i := 3) (by decide)
theorem OrAt.cdn (h : OrAt w B D Z O V VH) {p : Nat} (hp : p < 64) : w.cell? ⟨B, 4 + p, none⟩ = some (.int .u32 (O.dn p : Int)) := (h.cell (by omega)).trans (congrArg some (orF_dn O D Z hp))
theorem OrAt.cls (h : OrAt w B D Z O V VH) : w.cell? ⟨B, 68, none⟩ = some (.int .u64 (O.ls : Int)) := h.cell (i := 68) (by decide)
theorem OrAt.clf (h : OrAt w B D Z O V VH) : w.cell? ⟨B, 69, none⟩ = some (.int .i64 O.lf) := h.cell (i := 69) (by decide)
/-- a cell of the order's block is set -/
theorem OrAt.set (h : OrAt w B D Z O V VH) {O' : PO} {i : Nat} {v : Value} (hc : (orC O D Z).setIfInBounds i v = orC O' D Z) (h1 : O'.lo = O.lo) (h2 : O'.R = O.R) (h3 : O'.H = O.H) : OrAt (w.setCell ⟨B, i, none⟩ v) B D Z O' V VH := by
  have hk := kept_set w B i v
  refine ⟨by rw [setCell_block h.blk i v, hc], ?_, ?_, h.ap⟩
  · rw [h1, h2]
    exact h.hold.keptC hk (fun b hb e => h.apD (e ▸ hb)) (fun b e cs fr hc => by
      subst e
      rw [h.blk] at hc
      injection hc with hc
      injection hc with _ hc _
      exact absurd hc (by decide))
  · rw [h3]
    exact h.hz.kept hk (fun b hb e => h.apZ (e ▸ hb))
end
/-- how great an order is -/
structure OrOk (O : PO) : Prop where
  mb : O.mb < 18446744073709551616
  hz : HzOk O.H
  bd : HoldBd O.lo O.R
  all : (allN O.R 64).length ≤ 1000
  ds : ∀ p, p < 64 → ∀ m ∈ O.R p, m.ds.length ≤ 1000000
  dn : ∀ p, p < 64 → O.dn p ≤ O.lo p + (O.R p).length
  frm : ∀ p, p < 64 → ∀ m ∈ O.R p, m.frm = (p : Int)
theorem OrOk.dnB {O : PO} (h : OrOk O) (p : Nat) (hp : p < 64) : O.dn p ≤ 101000 := by
  have h1 := h.dn p hp
  have h2 := h.bd p hp
  omega
/-- what a step leaves -/
def OrTo (w : World) (B D Z : Nat) (V VH : Nat → Value) (O' : PO) (w' : World) : Prop := Kept (orS B D Z V VH) w w' ∧ ∃ V' VH', OrAt w' B D Z O' V' VH' ∧ newV w V V' ∧ newV w VH VH'
theorem newV_below {w w1 : World} {V V' : Nat → Value} (h : newV w1 V V') (hs : w.heap.size ≤ w1.heap.size) : newV w V V' := fun q hq b hb => (h q hq b hb).imp id (Nat.le_trans hs)
theorem newV_trans {w w1 : World} {V V1 V2 : Nat → Value} (h : newV w V V1) (k : newV w1 V1 V2) (hs : w.heap.size ≤ w1.heap.size) : newV w V V2 := fun q hq b hb => by
  rcases k q hq b hb with e | e
  · exact h q hq b e
  · exact .inr (Nat.le_trans hs e)
theorem holdS_new {w : World} {D : Nat} {V V' : Nat → Value} (h : newV w V V') {b : Nat} (hb : holdS D V' b) : holdS D V b ∨ w.heap.size ≤ b := by
  rcases hb with rfl | ⟨p, hp, hb⟩
  · exact .inl (.inl rfl)
  · exact (h p hp b hb).imp (fun e => .inr ⟨p, hp, e⟩) id
theorem hzS_new {w : World} {Z : Nat} {V V' : Nat → Value} (h : newV w V V') {b : Nat} (hb : hzS Z V' b) : hzS Z V b ∨ w.heap.size ≤ b := by
  rcases hb with rfl | ⟨p, hp, hb⟩
  · exact .inl (.inl rfl)
  · exact (h p hp b hb).imp (fun e => .inr ⟨p, hp, e⟩) id
theorem orS_new {w : World} {B D Z : Nat} {V V' VH VH' : Nat → Value} (h : newV w V V') (k : newV w VH VH') {b : Nat} (hb : orS B D Z V' VH' b) : orS B D Z V VH b ∨ w.heap.size ≤ b := by
  rcases hb with rfl | hb | hb
  · exact .inl (.inl rfl)
  · exact (holdS_new h hb).imp (fun e => .inr (.inl e)) id
  · exact (hzS_new k hb).imp (fun e => .inr (.inr e)) id
theorem OrTo.trans {w w1 w2 : World} {B D Z : Nat} {V VH V1 VH1 : Nat → Value} {O2 : PO} (k1 : Kept (orS B D Z V VH) w w1) (n1 : newV w V V1) (m1 : newV w VH VH1) (h : OrTo w1 B D Z V1 VH1 O2 w2) : OrTo w B D Z V VH O2 w2 := by
  obtain ⟨k2, V2, VH2, h2, n2, m2⟩ := h
  have hs := k1.size
  refine ⟨⟨k2.os.trans k1.os, k2.tape.trans k1.tape, k2.output.trans k1.output, Nat.le_trans k1.size k2.size, fun i hi h => (k2.block i (Nat.lt_of_lt_of_le hi hs) (fun e => ?_)).trans (k1.block i hi h)⟩, V2, VH2, h2, newV_trans n1 n2 k1.size, newV_trans m1 m2 k1.size⟩
  rcases orS_new n1 m1 e with e | e
  · exact h e
  · omega
theorem OrTo.same {w : World} {B D Z : Nat} {O : PO} {V VH : Nat → Value} (h : OrAt w B D Z O V VH) : OrTo w B D Z V VH O w := ⟨Kept.refl _ _, V, VH, h, newV_refl w V, newV_refl w VH⟩
theorem OrTo.below {w w' : World} {B D Z : Nat} {O : PO} {V VH : Nat → Value} (h : OrAt w B D Z O V VH) (hb : Below w.heap.size w w') : OrTo w B D Z V VH O w' := ⟨Kept.of_below hb, V, VH, h.below hb, newV_refl w V, newV_refl w VH⟩
/-- a step of the hold alone -/
theorem OrAt.stepHold {w w' : World} {B D Z : Nat} {O : PO} {V VH V' : Nat → Value} {lo' : Nat → Nat} {R' : Nat → List Msg} (h : OrAt w B D Z O V VH) (hk : Kept (holdS D V) w w') (hh : HoldAt w' D lo' R' V') (hn : newV w V V') :
    OrTo w B D Z V VH { O with lo := lo', R := R' } w' := by
  refine ⟨hk.more fun b _ e => .inr (.inl e), V', VH, ⟨hk.keep h.blk h.apD, hh, h.hz.kept hk (fun b hb e => h.ap b e hb), fun b hb e => ?_⟩, hn, newV_refl w VH⟩
  rcases holdS_new hn hb with hb | hb
  · exact h.ap b hb e
  · rcases e with rfl | ⟨p, hp, e⟩
    · exact absurd h.hz.lt (by omega)
    · exact absurd ((h.hz.own p hp).lt b e).2 (by omega)
/-- a step of the horizon alone -/
theorem OrAt.stepHz {w w' : World} {B D Z : Nat} {O : PO} {V VH VH' : Nat → Value} {H' : HZ} (h : OrAt w B D Z O V VH) (hk : Kept (hzS Z VH) w w') (hh : HzAt w' Z H' VH') (hn : newV w VH VH') :
    OrTo w B D Z V VH { O with H := H' } w' := by
  refine ⟨hk.more fun b _ e => .inr (.inr e), V, VH', ⟨hk.keep h.blk h.apZ, h.hold.keptC hk (fun b hb e => h.ap b hb e) h.hz.calm, hh, fun b hb e => ?_⟩, newV_refl w V, hn⟩
  rcases hzS_new hn e with e | e
  · exact h.ap b hb e
  · rcases hb with rfl | ⟨p, hp, hb⟩
    · exact absurd h.hold.lt (by omega)
    · exact absurd ((h.hold.own p hp).lt b hb).2 (by omega)
theorem OrAt.stepHzEnd {w w' : World} {B D Z : Nat} {O : PO} {V VH : Nat → Value} {H' : HZ} {e : Ending} (h : OrAt w B D Z O V VH) (hz : HzEnd w Z VH H' e w') : OrTo w B D Z V VH { O with H := H' } w' := by
  obtain ⟨_, hk, VH', hh, hn⟩ := hz
  exact h.stepHz hk hh hn
theorem orClock_any {w : World} {B D Z : Nat} {O : PO} {V VH : Nat → Value} (h : OrAt w B D Z O V VH) : Calls Tryd.prog 27 #[.pointer (some ⟨Z, 0, none⟩)] w fun e w' => e = .returned (.int .u64 (O.H.c : Int)) ∧ w = w' := hzClock_any Z O.H VH w h.hz
def doneZ (O : PO) (p : Int) : Nat := if 0 ≤ p ∧ p < 64 then O.dn p.toNat else 0
theorem orDone_any {w : World} {B D Z : Nat} {O : PO} {V VH : Nat → Value} (p : Int) (h : OrAt w B D Z O V VH) : Calls Tryd.prog 30 #[.pointer (some ⟨B, 0, none⟩), .int .i64 p] w fun e w' => e = .returned (.int .u32 (doneZ O p : Int)) ∧ w = w' := by
  unfold doneZ
  by_cases h1 : p < 0
  · have d1 : decide (p < 0) = true := by simpa using h1
    rw [if_neg (by omega)]
    clear h
    go_enter Tryd.func30, Tryd.ntmps30
    go_wp2
    go_ret
    exact ⟨rfl, rfl⟩
  · have d1 : decide (p < 0) = false := by simpa using h1
    by_cases h2 : p < 64
    · have d2 : decide (64 ≤ p) = false := by simpa using h2
      rw [if_pos (by omega)]
      obtain ⟨n, rfl⟩ : ∃ n : Nat, p = (n : Int) := ⟨p.toNat, by omega⟩
      have hn : n < 64 := by omega
      have c := h.cdn hn
      show Calls Tryd.prog 30 #[.pointer (some ⟨B, 0, none⟩), .int .i64 (n : Int)] w fun e w' => e = .returned (.int .u32 (O.dn n : Int)) ∧ w = w'
      generalize (O.dn n : Int) = d at *
      clear h
      go_enter Tryd.func30, Tryd.ntmps30
      go_wp2
      go_ret
      exact ⟨rfl, rfl⟩
    · have d2 : decide (64 ≤ p) = true := by simp; omega
      rw [if_neg (by omega)]
      clear h
      go_enter Tryd.func30, Tryd.ntmps30
      go_wp2
      go_ret
      exact ⟨rfl, rfl⟩
theorem orLast_any {w : World} {B D Z : Nat} {O : PO} {V VH : Nat → Value} (h : OrAt w B D Z O V VH) : Calls Tryd.prog 22 #[.pointer (some ⟨B, 0, none⟩)] w fun e w' => e = .returned (.agg #[.int .u64 (O.ls : Int), .int .i64 O.lf]) ∧ Below w.heap.size w w' := by
  have hb := ba (br w) (.cells #[.int .u64 0, .int .i64 0] 38)
  have h1 := h.below hb
  have c1 := h1.cls
  have c2 := h1.clf
  generalize (O.ls : Int) = s at *
  generalize O.lf = f at *
  clear h h1 hb
  go_enter Tryd.func22, Tryd.ntmps22
  go_wp2
  refine bodyPost_ret (results_cell_row Tryd.results22 _ _ w.heap.size 38 _ (0, 0) _ rfl (heap_alloc_new w _) Tryd.underlying38 rfl (by kernel_rfl)) rfl ⟨rfl, ba (br w) _⟩
theorem OrAt.sz {w : World} {B D Z : Nat} {O : PO} {V VH : Nat → Value} (h : OrAt w B D Z O V VH) {b : Nat} (hb : orS B D Z V VH b) : b < w.heap.size := by
  rcases hb with rfl | (rfl | ⟨p, hp, hb⟩) | (rfl | ⟨p, hp, hb⟩)
  · exact h.lt
  · exact h.hold.lt
  · exact ((h.hold.own p hp).lt b hb).2
  · exact h.hz.lt
  · exact ((h.hz.own p hp).lt b hb).2
end Go.Proofs.YtgjlcjbmcnofiaaDoor
