/-
  What hold's Get returns.
  Conditions: none.
-/
import Derived.Test.YtgjlcjbmcnofiaaDoorHoldD
import Derived.Lib.OwnKind
namespace Go.Proofs.YtgjlcjbmcnofiaaDoor
set_option linter.unusedVariables false
set_option linter.unusedSimpArgs false
open Go.RowKit
theorem hLow_at (D : Nat) (lo : Nat → Nat) (R : Nat → List Msg) (V : Nat → Value) (p : Int) (w : World) (h : HoldAt w D lo R V) :
    Calls Tryd.prog 77 #[.pointer (some ⟨D, 0, none⟩), .int .i64 p] w fun e w' => e = .returned (.int .u32 ((if procB p = true then lo p.toNat else 0 : Nat) : Int)) ∧ Below w.heap.size w w' := by
  by_cases hp : procB p = true
  · have hpp : 0 ≤ p ∧ p < 64 := by simpa [procB] using hp
    obtain ⟨q, hq⟩ : ∃ q : Nat, p = (q : Int) := ⟨p.toNat, by omega⟩
    subst hq
    rw [if_pos hp, Int.toNat_natCast]
    exact (hLow_in D lo R V q w h (by omega)).mono fun e w' ⟨he, hb⟩ => ⟨he, hb ▸ br _⟩
  · rw [if_neg hp]
    exact (hLow_out D p w (by simpa using hp)).mono fun e w' ⟨he, hb⟩ => ⟨he, hb ▸ br _⟩
def cntZ (lo : Nat → Nat) (R : Nat → List Msg) (p : Int) : Nat := if procB p = true then lo p.toNat + (R p.toNat).length else 0
theorem hCount_at (D : Nat) (lo : Nat → Nat) (R : Nat → List Msg) (V : Nat → Value) (p : Int) (w : World) (h : HoldAt w D lo R V) (hb : HoldBd lo R) :
    Calls Tryd.prog 73 #[.pointer (some ⟨D, 0, none⟩), .int .i64 p] w fun e w' => e = .returned (.int .u32 (cntZ lo R p : Int)) ∧ Below w.heap.size w w' := by
  unfold cntZ
  by_cases hp : procB p = true
  · have hpp : 0 ≤ p ∧ p < 64 := by simpa [procB] using hp
    obtain ⟨q, hq⟩ : ∃ q : Nat, p = (q : Int) := ⟨p.toNat, by omega⟩
    subst hq
    rw [if_pos hp, Int.toNat_natCast]
    exact hCount_in D lo R V q w h (by omega) hb
  · rw [if_neg hp]
    exact (hCount_out D p w (by simpa using hp)).mono fun e w' ⟨he, hb⟩ => ⟨he, hb ▸ br _⟩
/-- what Get answers -/
def getZ (lo : Nat → Nat) (R : Nat → List Msg) (p : Int) (seq : Nat) : Option Msg :=
  if procB p = true ∧ lo p.toNat < seq ∧ seq ≤ lo p.toNat + (R p.toNat).length then some (gm (R p.toNat) (seq - lo p.toNat - 1)) else none
def GetEnd (o : Option Msg) (e : Ending) (w' : World) : Prop := match o with
  | none => e = .returned (.tuple #[.agg (msgA zeroM), .bool false])
  | some m => ∃ m', e = .returned (.tuple #[.agg (msgA m'), .bool true]) ∧ core m' = core m ∧ MsgOk w' m'
def GetEnd2 (B : Nat) (o : Option Msg) (e : Ending) (w' : World) : Prop := match o with
  | none => e = .returned (.tuple #[.agg (msgA zeroM), .bool false])
  | some m => ∃ m', e = .returned (.tuple #[.agg (msgA m'), .bool true]) ∧ core m' = core m ∧ MsgOk w' m' ∧ ∀ ad, m'.da = some ad → 0 < m'.ds.length → B ≤ ad.block
/-- a message's vector lies in a block of numbers -/
def VecT (w : World) (m : Msg) : Prop := ∀ ad, m.da = some ad → 0 < m.ds.length → ∃ cs fr, w.heap[ad.block]? = some (.cells cs 33 fr)
def GetEnd3 (B : Nat) (o : Option Msg) (e : Ending) (w' : World) : Prop := match o with
  | none => e = .returned (.tuple #[.agg (msgA zeroM), .bool false])
  | some m => ∃ m', e = .returned (.tuple #[.agg (msgA m'), .bool true]) ∧ core m' = core m ∧ MsgOk w' m' ∧ (∀ ad, m'.da = some ad → 0 < m'.ds.length → B ≤ ad.block) ∧ VecT w' m'
theorem from_one {lo : Nat → Nat} {R : Nat → List Msg} {p : Int} {seq : Nat} (h : procB p = true ∧ lo p.toNat < seq ∧ seq ≤ lo p.toNat + (R p.toNat).length) : fromZ lo R p seq 1 = [gm (R p.toNat) (seq - lo p.toNat - 1)] := by
  unfold fromZ
  rw [if_pos ⟨h.1, by omega, h.2.2⟩]
  unfold fromL fromAt
  have e : max seq (lo p.toNat + 1) - lo p.toNat - 1 = seq - lo p.toNat - 1 := by omega
  rw [e, gm_get (by omega)]
  have hd := List.drop_eq_getElem_cons (l := R p.toNat) (i := seq - lo p.toNat - 1) (by omega)
  rw [hd]
  rfl
set_option maxRecDepth 100000 in
set_option maxHeartbeats 4000000 in
theorem hGet_three (D : Nat) (lo : Nat → Nat) (R : Nat → List Msg) (V : Nat → Value) (p : Int) (seq : Nat) (w : World) (h : HoldAt w D lo R V) (hb : HoldBd lo R) (hd : ∀ p, p < 64 → ∀ m ∈ R p, m.ds.length ≤ 1000000) :
    Calls Tryd.prog 90 #[.pointer (some ⟨D, 0, none⟩), .int .i64 p, .int .u32 (seq : Int)] w fun e w' => GetEnd3 w.heap.size (getZ lo R p seq) e w' ∧ Below w.heap.size w w' := by
  have hbA := ba (br w) (.cells (msgA zeroM) 42)
  have hx := heap_alloc_new w (.cells (msgA zeroM) 42)
  have hz : msgA zeroM = #[.int .i64 0, .int .u32 0, .int .u64 0, .int .i64 0, .slice none 0 0, .string ⟨#[]⟩] := rfl
  rw [hz] at hbA hx
  obtain ⟨W, hW⟩ : ∃ W, W = w.alloc (.cells #[.int .i64 0, .int .u32 0, .int .u64 0, .int .i64 0, .slice none 0 0, .string ⟨#[]⟩] 42) := ⟨_, rfl⟩
  rw [← hW] at hbA hx
  have hh := h.below hbA
  have HLo := Lib.hid (fun (W' : World) (hW' : Below W.heap.size W W') => hLow_at D lo R V p W' (hh.below hW'))
  have HCo := Lib.hid (fun (W' : World) (hW' : Below W.heap.size W W') => hCount_at D lo R V p W' (hh.below hW') hb)
  have HFr := Lib.hid (fun (W' : World) (hW' : Below W.heap.size W W') => hFrom_any D lo R V p seq 1 W' (hh.below hW') hb (by omega) hd)
  obtain ⟨l0, hl0⟩ : ∃ l0, l0 = (if procB p = true then lo p.toNat else 0) := ⟨_, rfl⟩
  obtain ⟨c0, hc0⟩ : ∃ c0, c0 = cntZ lo R p := ⟨_, rfl⟩
  rw [← hl0] at HLo
  rw [← hc0] at HCo
  have hxl := (Array.getElem?_eq_some_iff.1 hx).1
  have HA := Lib.hid (And.intro hbA (And.intro hx (And.intro hl0 (And.intro hc0 hxl))))
  clear hbA hx hl0 hc0 hxl hh h
  go_enter Tryd.func90, Tryd.ntmps90
  go_upto_region 1 with (fail)
  rw [← hW]
  clear hW
  have hzv : ∀ W : World, (zeroValue 42).run Tryd.prog W = .ok (.agg #[.int .i64 0, .int .u32 0, .int .u64 0, .int .i64 0, .slice none 0 0, .string ⟨#[]⟩]) W := fun W => by kernel_rfl
  by_cases h1 : seq ≤ l0
  · have d1 : decide (seq ≤ l0) = true := by simpa using h1
    have HG := Lib.hid (show getZ lo R p seq = none from by
      unfold getZ
      rw [if_neg]
      rintro ⟨g1, g2, g3⟩
      have := HA.out.2.2.1
      rw [if_pos g1] at this
      omega)
    clear h1
    go_wp2_with fail
    refine (HLo.out _ (br _)).mono ?_
    rintro e w2 ⟨rfl, hb2⟩
    have hx2 := (hb2.block _ HA.out.2.2.2.2).trans HA.out.2.1
    have hbw := bt HA.out.1 hb2
    have c0 : w2.cell? ⟨w.heap.size, 0, none⟩ = some (.int .i64 0) := cell_of_row _ _ 0 _ _ _ hx2
    have c1 : w2.cell? ⟨w.heap.size, 1, none⟩ = some (.int .u32 0) := cell_of_row _ _ 1 _ _ _ hx2
    have c2 : w2.cell? ⟨w.heap.size, 2, none⟩ = some (.int .u64 0) := cell_of_row _ _ 2 _ _ _ hx2
    have c3 : w2.cell? ⟨w.heap.size, 3, none⟩ = some (.int .i64 0) := cell_of_row _ _ 3 _ _ _ hx2
    have c4 : w2.cell? ⟨w.heap.size, 4, none⟩ = some (.slice none 0 0) := cell_of_row _ _ 4 _ _ _ hx2
    have c5 : w2.cell? ⟨w.heap.size, 5, none⟩ = some (.string ⟨#[]⟩) := cell_of_row _ _ 5 _ _ _ hx2
    have f0 : w2.frozen? ⟨w.heap.size, 0, none⟩ = false := frozen_of_row _ _ _ _ _ hx2
    have f1 : w2.frozen? ⟨w.heap.size, 1, none⟩ = false := frozen_of_row _ _ _ _ _ hx2
    have f2 : w2.frozen? ⟨w.heap.size, 2, none⟩ = false := frozen_of_row _ _ _ _ _ hx2
    have f3 : w2.frozen? ⟨w.heap.size, 3, none⟩ = false := frozen_of_row _ _ _ _ _ hx2
    have f4 : w2.frozen? ⟨w.heap.size, 4, none⟩ = false := frozen_of_row _ _ _ _ _ hx2
    have f5 : w2.frozen? ⟨w.heap.size, 5, none⟩ = false := frozen_of_row _ _ _ _ _ hx2
    have HB := Lib.hid (bs (bs (bs (bs (bs (bs hbw (p := ⟨w.heap.size, 0, none⟩) (Nat.le_refl _) (.int .i64 0)) (p := ⟨w.heap.size, 1, none⟩) (Nat.le_refl _) (.int .u32 0)) (p := ⟨w.heap.size, 2, none⟩) (Nat.le_refl _) (.int .u64 0)) (p := ⟨w.heap.size, 3, none⟩) (Nat.le_refl _) (.int .i64 0)) (p := ⟨w.heap.size, 4, none⟩) (Nat.le_refl _) (.slice none 0 0)) (p := ⟨w.heap.size, 5, none⟩) (Nat.le_refl _) (.string ⟨#[]⟩))
    clear hb2 hbw
    go_wp2
    refine bodyPost_ret (v := .tuple #[.agg (msgA zeroM), .bool false]) (by simp [results, Tryd.results90, go_sem, c0, c1, c2, c3, c4, c5, hz]) rfl ⟨by rw [HG.out]; rfl, HB.out⟩
  · have d1 : decide (seq ≤ l0) = false := by simpa using h1
    by_cases h2 : c0 < seq
    · have d2 : decide (c0 < seq) = true := by simpa using h2
      have HG := Lib.hid (show getZ lo R p seq = none from by
        unfold getZ
        rw [if_neg]
        rintro ⟨g1, g2, g3⟩
        have := HA.out.2.2.2.1
        unfold cntZ at this
        rw [if_pos g1] at this
        omega)
      clear h1 h2
      go_wp2_with fail
      refine (HLo.out _ (br _)).mono ?_
      rintro e w1 ⟨rfl, hb1⟩
      have HB1 := Lib.hid hb1
      clear hb1
      go_wp2_with fail
      refine (HCo.out _ HB1.out).mono ?_
      rintro e w2 ⟨rfl, hb2'⟩
      have hb2 := bt HB1.out hb2'
      have hx2 := (hb2.block _ HA.out.2.2.2.2).trans HA.out.2.1
      have hbw := bt HA.out.1 hb2
      have c0 : w2.cell? ⟨w.heap.size, 0, none⟩ = some (.int .i64 0) := cell_of_row _ _ 0 _ _ _ hx2
      have c1 : w2.cell? ⟨w.heap.size, 1, none⟩ = some (.int .u32 0) := cell_of_row _ _ 1 _ _ _ hx2
      have c2 : w2.cell? ⟨w.heap.size, 2, none⟩ = some (.int .u64 0) := cell_of_row _ _ 2 _ _ _ hx2
      have c3 : w2.cell? ⟨w.heap.size, 3, none⟩ = some (.int .i64 0) := cell_of_row _ _ 3 _ _ _ hx2
      have c4 : w2.cell? ⟨w.heap.size, 4, none⟩ = some (.slice none 0 0) := cell_of_row _ _ 4 _ _ _ hx2
      have c5 : w2.cell? ⟨w.heap.size, 5, none⟩ = some (.string ⟨#[]⟩) := cell_of_row _ _ 5 _ _ _ hx2
      have f0 : w2.frozen? ⟨w.heap.size, 0, none⟩ = false := frozen_of_row _ _ _ _ _ hx2
      have f1 : w2.frozen? ⟨w.heap.size, 1, none⟩ = false := frozen_of_row _ _ _ _ _ hx2
      have f2 : w2.frozen? ⟨w.heap.size, 2, none⟩ = false := frozen_of_row _ _ _ _ _ hx2
      have f3 : w2.frozen? ⟨w.heap.size, 3, none⟩ = false := frozen_of_row _ _ _ _ _ hx2
      have f4 : w2.frozen? ⟨w.heap.size, 4, none⟩ = false := frozen_of_row _ _ _ _ _ hx2
      have f5 : w2.frozen? ⟨w.heap.size, 5, none⟩ = false := frozen_of_row _ _ _ _ _ hx2
      have HB := Lib.hid (bs (bs (bs (bs (bs (bs hbw (p := ⟨w.heap.size, 0, none⟩) (Nat.le_refl _) (.int .i64 0)) (p := ⟨w.heap.size, 1, none⟩) (Nat.le_refl _) (.int .u32 0)) (p := ⟨w.heap.size, 2, none⟩) (Nat.le_refl _) (.int .u64 0)) (p := ⟨w.heap.size, 3, none⟩) (Nat.le_refl _) (.int .i64 0)) (p := ⟨w.heap.size, 4, none⟩) (Nat.le_refl _) (.slice none 0 0)) (p := ⟨w.heap.size, 5, none⟩) (Nat.le_refl _) (.string ⟨#[]⟩))
      clear hb2 hb2' hbw
      go_wp2
      refine bodyPost_ret (v := .tuple #[.agg (msgA zeroM), .bool false]) (by simp [results, Tryd.results90, go_sem, c0, c1, c2, c3, c4, c5, hz]) rfl ⟨by rw [HG.out]; rfl, HB.out⟩
    · have d2 : decide (c0 < seq) = false := by simpa using h2
      have hcond : procB p = true ∧ lo p.toNat < seq ∧ seq ≤ lo p.toNat + (R p.toNat).length := by
        have e1 := HA.out.2.2.1
        have e2 := HA.out.2.2.2.1
        unfold cntZ at e2
        by_cases hp : procB p = true
        · rw [if_pos hp] at e1 e2
          exact ⟨hp, by omega, by omega⟩
        · rw [if_neg hp] at e1 e2
          omega
      have HG := Lib.hid (show getZ lo R p seq = some (gm (R p.toNat) (seq - lo p.toNat - 1)) from if_pos hcond)
      have hf1 := from_one hcond
      rw [hf1] at HFr
      clear h1 h2 hcond hf1
      go_wp2_with fail
      refine (HLo.out _ (br _)).mono ?_
      rintro e w1 ⟨rfl, hb1⟩
      have HB1 := Lib.hid hb1
      clear hb1
      go_wp2_with fail
      refine (HCo.out _ HB1.out).mono ?_
      rintro e w2 ⟨rfl, hb2'⟩
      have HB2 := Lib.hid (bt HB1.out hb2')
      clear hb2'
      go_wp2_with fail
      refine (HFr.out _ HB2.out).mono ?_
      rintro e w3 ⟨⟨v3, L3, rfl, ho3, hmap, hfr⟩, hb3'⟩
      obtain ⟨m', rfl⟩ : ∃ m', L3 = [m'] := by
        have := congrArg List.length hmap
        simp at this
        exact one_len this
      have hcore : core m' = core (gm (R p.toNat) (seq - lo p.toNat - 1)) := by simpa using hmap
      have hb3 := bt HB2.out hb3'
      have hx2 := (hb3.block _ HA.out.2.2.2.2).trans HA.out.2.1
      have hbw := bt HA.out.1 hb3
      obtain ⟨a3, cp3, rfl⟩ := ownForm ho3
      obtain ⟨g3, rfl, hg3, hrow⟩ := own_msg ho3 (j := 0) (by simp)
      have hne : g3 ≠ w.heap.size := by
        have := (ho3.lt g3 rfl).1
        have := HB2.out.size
        have := HA.out.2.2.2.2
        omega
      have y0 : w3.cell? ⟨g3, 0, none⟩ = some (.int .i64 m'.frm) := by simpa using hrow 0 _ rfl
      have y1 : w3.cell? ⟨g3, 1, none⟩ = some (.int .u32 (m'.seq : Int)) := by simpa using hrow 1 _ rfl
      have y2 : w3.cell? ⟨g3, 2, none⟩ = some (.int .u64 (m'.stamp : Int)) := by simpa using hrow 2 _ rfl
      have y3 : w3.cell? ⟨g3, 3, none⟩ = some (.int .i64 m'.service) := by simpa using hrow 3 _ rfl
      have y4 : w3.cell? ⟨g3, 4, none⟩ = some (.slice m'.da m'.ds.length m'.dc) := by simpa using hrow 4 _ rfl
      have y5 : w3.cell? ⟨g3, 5, none⟩ = some (.string m'.pay) := by simpa using hrow 5 _ rfl
      have c0 : w3.cell? ⟨w.heap.size, 0, none⟩ = some (.int .i64 0) := cell_of_row _ _ 0 _ _ _ hx2
      have c1 : w3.cell? ⟨w.heap.size, 1, none⟩ = some (.int .u32 0) := cell_of_row _ _ 1 _ _ _ hx2
      have c2 : w3.cell? ⟨w.heap.size, 2, none⟩ = some (.int .u64 0) := cell_of_row _ _ 2 _ _ _ hx2
      have c3 : w3.cell? ⟨w.heap.size, 3, none⟩ = some (.int .i64 0) := cell_of_row _ _ 3 _ _ _ hx2
      have c4 : w3.cell? ⟨w.heap.size, 4, none⟩ = some (.slice none 0 0) := cell_of_row _ _ 4 _ _ _ hx2
      have c5 : w3.cell? ⟨w.heap.size, 5, none⟩ = some (.string ⟨#[]⟩) := cell_of_row _ _ 5 _ _ _ hx2
      have f0 : w3.frozen? ⟨w.heap.size, 0, none⟩ = false := frozen_of_row _ _ _ _ _ hx2
      have f1 : w3.frozen? ⟨w.heap.size, 1, none⟩ = false := frozen_of_row _ _ _ _ _ hx2
      have f2 : w3.frozen? ⟨w.heap.size, 2, none⟩ = false := frozen_of_row _ _ _ _ _ hx2
      have f3 : w3.frozen? ⟨w.heap.size, 3, none⟩ = false := frozen_of_row _ _ _ _ _ hx2
      have f4 : w3.frozen? ⟨w.heap.size, 4, none⟩ = false := frozen_of_row _ _ _ _ _ hx2
      have f5 : w3.frozen? ⟨w.heap.size, 5, none⟩ = false := frozen_of_row _ _ _ _ _ hx2
      have HB := Lib.hid (bs (bs (bs (bs (bs (bs hbw (p := ⟨w.heap.size, 0, none⟩) (Nat.le_refl _) (.int .i64 m'.frm)) (p := ⟨w.heap.size, 1, none⟩) (Nat.le_refl _) (.int .u32 (m'.seq : Int))) (p := ⟨w.heap.size, 2, none⟩) (Nat.le_refl _) (.int .u64 (m'.stamp : Int))) (p := ⟨w.heap.size, 3, none⟩) (Nat.le_refl _) (.int .i64 m'.service)) (p := ⟨w.heap.size, 4, none⟩) (Nat.le_refl _) (.slice m'.da m'.ds.length m'.dc)) (p := ⟨w.heap.size, 5, none⟩) (Nat.le_refl _) (.string m'.pay))
      have hok := (hfr m' (by simp)).1
      have hk : Kept (fun b => b = w.heap.size) w3 (putM w3 w.heap.size 0 m') := by
        unfold putM
        exact ((((((show Kept (fun b => b = w.heap.size) w3 w3 from .refl _ _).setCell (p := ⟨w.heap.size, 0, none⟩) rfl _).setCell (p := ⟨w.heap.size, 0 + 1, none⟩) rfl _).setCell (p := ⟨w.heap.size, 0 + 2, none⟩) rfl _).setCell (p := ⟨w.heap.size, 0 + 3, none⟩) rfl _).setCell (p := ⟨w.heap.size, 0 + 4, none⟩) rfl _).setCell (p := ⟨w.heap.size, 0 + 5, none⟩) rfl _
      have hok2 := hok.kept hk (fun ad e hn hin => by
        obtain ⟨g, c, e2, e3, e4⟩ := (hfr m' (by simp)).2.form hn
        injection e2 with e2
        rw [e] at e2
        injection e2 with e2
        have := HB2.out.size
        have := HA.out.2.2.2.2
        rw [e2] at hin
        simp at hin
        omega)
      unfold putM at hok2
      simp only [Nat.zero_add] at hok2
      have hfre : ∀ ad, m'.da = some ad → 0 < m'.ds.length → w.heap.size ≤ ad.block := fun ad e hn => by
        obtain ⟨g, c, e2, e3, e4⟩ := (hfr m' (by simp)).2.form hn
        injection e2 with e2
        rw [e] at e2
        injection e2 with e2
        have := HB2.out.size
        have := HA.out.2.2.2.2
        rw [e2]
        show w.heap.size ≤ g
        omega
      have hvec : VecT (putM w3 w.heap.size 0 m') m' := fun ad e hn => by
        obtain ⟨c, fz, hc⟩ := Lib.ownsRow_kind (hfr m' (by simp)).2 ad.block (by rw [e]; rfl)
        refine ⟨c, fz, hk.keep hc (fun e2 => ?_)⟩
        obtain ⟨g, c, e3, e4, e5⟩ := (hfr m' (by simp)).2.form hn
        injection e3 with e3
        rw [e] at e3
        injection e3 with e3
        have := HB2.out.size
        have := HA.out.2.2.2.2
        rw [e3] at e2
        have e2 : g = w.heap.size := e2
        omega
      unfold putM at hvec
      simp only [Nat.zero_add] at hvec
      have HOK := Lib.hid (And.intro hok2 (And.intro hcore (And.intro hfre hvec)))
      clear hb3 hb3' hbw hok hk hok2 hcore hfr ho3 hmap hrow hfre hvec
      go_wp2
      refine bodyPost_ret (v := .tuple #[.agg (msgA m'), .bool true]) (by simp [results, Tryd.results90, go_sem, msgA, c0, c1, c2, c3, c4, c5]) rfl ⟨?_, HB.out⟩
      rw [HG.out]
      exact ⟨m', rfl, HOK.out.2.1, HOK.out.1, HOK.out.2.2.1, HOK.out.2.2.2⟩
theorem hGet_two (D : Nat) (lo : Nat → Nat) (R : Nat → List Msg) (V : Nat → Value) (p : Int) (seq : Nat) (w : World) (h : HoldAt w D lo R V) (hb : HoldBd lo R) (hd : ∀ p, p < 64 → ∀ m ∈ R p, m.ds.length ≤ 1000000) :
    Calls Tryd.prog 90 #[.pointer (some ⟨D, 0, none⟩), .int .i64 p, .int .u32 (seq : Int)] w fun e w' => GetEnd2 w.heap.size (getZ lo R p seq) e w' ∧ Below w.heap.size w w' :=
  (hGet_three D lo R V p seq w h hb hd).mono fun e w' ⟨h1, h2⟩ => ⟨by
    unfold GetEnd3 at h1
    unfold GetEnd2
    cases hg : getZ lo R p seq with
    | none => rw [hg] at h1; exact h1
    | some m =>
      rw [hg] at h1
      obtain ⟨m', a, b, c, d, _⟩ := h1
      exact ⟨m', a, b, c, d⟩, h2⟩
theorem hGet_any (D : Nat) (lo : Nat → Nat) (R : Nat → List Msg) (V : Nat → Value) (p : Int) (seq : Nat) (w : World) (h : HoldAt w D lo R V) (hb : HoldBd lo R) (hd : ∀ p, p < 64 → ∀ m ∈ R p, m.ds.length ≤ 1000000) :
    Calls Tryd.prog 90 #[.pointer (some ⟨D, 0, none⟩), .int .i64 p, .int .u32 (seq : Int)] w fun e w' => GetEnd (getZ lo R p seq) e w' ∧ Below w.heap.size w w' :=
  (hGet_two D lo R V p seq w h hb hd).mono fun e w' ⟨he, hb'⟩ => ⟨by
    revert he
    cases getZ lo R p seq with
    | none => exact fun h => h
    | some m => exact fun ⟨m', h1, h2, h3, _⟩ => ⟨m', h1, h2, h3⟩, hb'⟩
end Go.Proofs.YtgjlcjbmcnofiaaDoor
