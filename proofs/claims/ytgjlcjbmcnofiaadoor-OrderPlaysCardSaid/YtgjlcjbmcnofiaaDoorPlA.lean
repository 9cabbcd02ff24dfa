/-
  The reference's horizon: what was told, in plain; counts, heard.
  Conditions: those that each theorem names.
-/
import Derived.Test.YtgjlcjbmcnofiaaDoorHoldU
import Derived.Test.YtgjlcjbmcnofiaaDoorOrdR
import Derived.Deep.CutBlock
import Derived.Deep.DeepCutAuto
namespace Go.Proofs.YtgjlcjbmcnofiaaDoor
set_option linter.unusedVariables false
set_option linter.unusedSimpArgs false
open Go.RowKit
/-- what was told -/
structure Tld where
  kind : Int
  p : Int
  seq : Nat
  stamp : Nat
instance : Inhabited Tld := ⟨⟨0, 0, 0, 0⟩⟩
def tldA (t : Tld) : Array Value := #[.int .i64 t.kind, .int .i64 t.p, .int .u32 (t.seq : Int), .int .u64 (t.stamp : Int)]
theorem tldA_one (t : Tld) : ∀ v ∈ (tldA t).toList, v.oneCell' = true := by
  intro v hv
  simp [tldA] at hv
  rcases hv with rfl | rfl | rfl | rfl <;> rfl
def ToldIn (w : World) (v : Value) (T : List Tld) : Prop := ∃ ad cap, v = .slice ad T.length cap ∧ Reads w w.heap.size 4 ad T.length (enL tldA T)
theorem ToldIn.below {w w' : World} {v : Value} {T : List Tld} (h : ToldIn w v T) (hb : Below w.heap.size w w') : ToldIn w' v T := by
  obtain ⟨ad, cap, e, h3⟩ := h
  exact ⟨ad, cap, e, (h3.below hb).more hb.size⟩
theorem ToldIn.at_ {w : World} {ad : Option Addr} {cap : Nat} {T : List Tld} (h : ToldIn w (.slice ad T.length cap) T) {j : Nat} (hj : j < T.length) : ∃ g o, ad = some ⟨g, o, none⟩ ∧ g < w.heap.size ∧ w.rangeAt g (o + j * 4) (tldA T[j]).toList := by
  obtain ⟨ad', cap', e, hr⟩ := h
  injection e with e1 _ _
  subst e1
  obtain ⟨g, o, e2, hg, hc⟩ := hr.rowAt hj (by decide)
  refine ⟨g, o, e2, hg, fun i u hu => ?_⟩
  have := hc i u (enL_at (en := tldA) (K := 4) (fun _ => rfl) T hj hu)
  rw [← this]
  congr 2
  omega
def hrF (c : Nat) (oth : Nat → Bool) (v : Value) (i : Nat) : Value := if i = 0 then .int .u64 (c : Int) else if i < 65 then .bool (oth (i - 1)) else v
/-- the cells of the reference's horizon -/
def hrC (c : Nat) (oth : Nat → Bool) (v : Value) : Array Value := ((List.range 66).map (hrF c oth v)).toArray
theorem hrC_get (c : Nat) (oth : Nat → Bool) (v : Value) {i : Nat} (hi : i < 66) : (hrC c oth v)[i]? = some (hrF c oth v i) := by
  unfold hrC
  simp [List.getElem?_range hi]
theorem hrC_size (c : Nat) (oth : Nat → Bool) (v : Value) : (hrC c oth v).size = 66 := by simp [hrC]
theorem hrC_oth (c : Nat) (oth : Nat → Bool) (v : Value) {p : Nat} (hp : p < 64) : (hrC c oth v)[1 + p]? = some (.bool (oth p)) := by
  rw [hrC_get _ _ _ (by omega)]
  unfold hrF
  rw [if_neg (by omega), if_pos (by omega), show 1 + p - 1 = p by omega]
theorem hrC_all (c : Nat) (oth : Nat → Bool) (v : Value) : (hrC c oth v)[65]? = some v := by
  rw [hrC_get _ _ _ (by omega)]
  rfl
def tg (T : List Tld) (i : Nat) : Tld := T.getD i default
theorem tg_get {T : List Tld} {i : Nat} (h : i < T.length) : tg T i = T[i] := by unfold tg; simp [h]
/-- the number that came last -/
def cameR (T : List Tld) (p : Int) : Nat := T.foldl (fun c t => if t.p = p ∧ t.kind = 0 then t.seq else c) 0
theorem cameR_snoc (T : List Tld) (t : Tld) (p : Int) : cameR (T ++ [t]) p = if t.p = p ∧ t.kind = 0 then t.seq else cameR T p := by simp [cameR]
theorem take_tg {T : List Tld} {k : Nat} (hk : k < T.length) : T.take (k + 1) = T.take k ++ [tg T k] := by rw [tg_get hk]; exact List.take_succ_eq_append_getElem hk
/-- at the moment i the promise that was told as the one of number at counts -/
def hitR (T : List Tld) (p : Int) (at_ i : Nat) : Prop := at_ ≤ i ∧ (tg T i).p = p ∧ (tg T i).kind < 2 ∧ (tg T at_).seq ≤ cameR (T.take (i + 1)) p
def cntR (T : List Tld) (p : Int) (at_ : Nat) : Prop := ∃ i, i < T.length ∧ hitR T p at_ i
/-- what makes a member heard -/
def goodR (T : List Tld) (p : Int) (i : Nat) : Prop := (tg T i).p = p ∧ (tg T i).kind ≠ 2 ∧ ((tg T i).kind = 0 ∨ cntR T p i)
def TopTo (T : List Tld) (P : Nat → Prop) (k x : Nat) : Prop := (∀ i, i < k → P i → (tg T i).stamp ≤ x) ∧ (x = 0 ∨ ∃ i, i < k ∧ P i ∧ (tg T i).stamp = x)
theorem TopTo.uniq {T : List Tld} {P : Nat → Prop} {k x y : Nat} (h : TopTo T P k x) (g : TopTo T P k y) : x = y := by
  rcases h.2 with rfl | ⟨i, hi, hp, rfl⟩
  · rcases g.2 with rfl | ⟨i, hi, hp, rfl⟩
    · rfl
    · have := h.1 i hi hp
      omega
  · have h1 := g.1 i hi hp
    rcases g.2 with rfl | ⟨j, hj, hq, rfl⟩
    · omega
    · have := h.1 j hj hq
      omega
theorem TopTo.zero (T : List Tld) (P : Nat → Prop) : TopTo T P 0 0 := ⟨fun i hi => absurd hi (by omega), .inl rfl⟩
theorem TopTo.skip {T : List Tld} {P : Nat → Prop} {k x : Nat} (h : TopTo T P k x) (hn : P k → (tg T k).stamp ≤ x) : TopTo T P (k + 1) x := by
  refine ⟨fun i hi hp => ?_, h.2.imp id fun ⟨i, hi, a⟩ => ⟨i, by omega, a⟩⟩
  by_cases e : i = k
  · subst e; exact hn hp
  · exact h.1 i (by omega) hp
theorem TopTo.hit {T : List Tld} {P : Nat → Prop} {k x : Nat} (h : TopTo T P k x) (hp : P k) (hl : x < (tg T k).stamp) : TopTo T P (k + 1) (tg T k).stamp := by
  refine ⟨fun i hi hq => ?_, .inr ⟨k, by omega, hp, rfl⟩⟩
  by_cases e : i = k
  · subst e; exact Nat.le_refl _
  · have := h.1 i (by omega) hq
    omega
def BoolIs (P : Prop) (e : Ending) : Prop := ∃ b : Bool, e = .returned (.bool b) ∧ (b = true ↔ P)
/-- a horizon handed in by value, in memory -/
structure HrCtx (w : World) (X : Array Value) (v : Value) (T : List Tld) (wr : World) : Prop where
  blk : wr.heap[w.heap.size]? = some (.cells X 71 (0, 0))
  told : ToldIn wr v T
  bel : Below w.heap.size w wr
theorem HrCtx.below {w wr w' : World} {X : Array Value} {v : Value} {T : List Tld} (h : HrCtx w X v T wr) (hb : Below wr.heap.size wr w') : HrCtx w X v T w' :=
  ⟨(hb.block _ (Array.getElem?_eq_some_iff.1 h.blk).1).trans h.blk, h.told.below hb, bt h.bel hb⟩
def TldB (T : List Tld) : Prop := ∀ t ∈ T, t.seq < 4294967296 ∧ t.stamp < 18446744073709551616
set_option maxRecDepth 100000 in
set_option maxHeartbeats 8000000 in
theorem counts_any (v : Value) (c : Nat) (oth : Nat → Bool) (T : List Tld) (p : Int) (at_ : Nat) (w : World) (h : ToldIn w v T) (hl : T.length ≤ 1000) (hat : at_ < T.length) :
    Calls Tryd.prog 100 #[.agg (hrC c oth v), .int .i64 p, .int .i64 (at_ : Int)] w fun e w' => BoolIs (cntR T p at_) e ∧ Below w.heap.size w w' := by
  obtain ⟨ad, cap, rfl, _⟩ := id h
  obtain ⟨X, hX⟩ : ∃ X, X = hrC c oth (.slice ad T.length cap) := ⟨_, rfl⟩
  have x65 := hrC_all c oth (.slice ad T.length cap)
  rw [← hX] at x65 ⊢
  obtain ⟨W, hW⟩ : ∃ W, W = w.alloc (.cells X 71) := ⟨_, rfl⟩
  have hb0 := ba (br w) (.cells X 71)
  have HC0 := Lib.hid (show HrCtx w X (.slice ad T.length cap) T W from by rw [hW]; exact ⟨heap_alloc_new w _, h.below hb0, hb0⟩)
  have HX := Lib.hid x65
  have HW := Lib.hid hW
  clear h hX hb0 x65 hW
  go_enter Tryd.func100, Tryd.ntmps100
  go_upto_region 1 with (fail)
  rw [← HW.out]
  clear HW
  obtain ⟨N, hN⟩ : ∃ N, N = w.heap.size := ⟨_, rfl⟩
  have HN := Lib.hid hN
  rw [← hN]
  clear hN
  go_wp2_with fail
  go_loopw [7, 8] (fun s i wr => ∃ k : Nat, k ≤ T.length ∧ i = .int .i64 (k : Int) ∧ s = .int .u32 (cameR (T.take k) p : Int) ∧ (∀ i, i < k → ¬ hitR T p at_ i) ∧ Hid (HrCtx w X (.slice ad T.length cap) T wr)) (fun _ i _ => T.length - (intOf i).toNat)
  case atStart => exact ⟨0, by omega, rfl, rfl, fun i hi => absurd hi (by omega), HC0⟩
  case round =>
    obtain ⟨k, hk, rfl, rfl, hno, HC⟩ := hrel
    have HNO := Lib.hid hno
    clear hno
    have c65 : wr.cell? ⟨N, 65, none⟩ = some (.slice ad T.length cap) := by rw [HN.out]; exact (cell_of_row _ _ 65 _ _ _ HC.out.blk).trans HX.out
    by_cases hlt : k < T.length
    · have hbool : decide ((k : Int) < (T.length : Int)) = true := by simpa using hlt
      have hi0 : (k : Int) < (T.length : Int) := by omega
      obtain ⟨g, o, rfl, hg, hrow⟩ := HC.out.told.at_ hlt
      obtain ⟨g', o', e', hg', hrow'⟩ := HC.out.told.at_ hat
      injection e' with e'
      injection e' with e1 e2
      subst e1; subst e2
      rw [← tg_get hlt] at hrow
      rw [← tg_get hat] at hrow'
      have y0 : wr.cell? ⟨g, o + k * 4, none⟩ = some (.int .i64 (tg T k).kind) := hrow 0 _ rfl
      have y1 : wr.cell? ⟨g, o + k * 4 + 1, none⟩ = some (.int .i64 (tg T k).p) := hrow 1 _ rfl
      have y2 : wr.cell? ⟨g, o + k * 4 + 2, none⟩ = some (.int .u32 ((tg T k).seq : Int)) := hrow 2 _ rfl
      have y3 : wr.cell? ⟨g, o + k * 4 + 3, none⟩ = some (.int .u64 ((tg T k).stamp : Int)) := hrow 3 _ rfl
      have ya : wr.cell? ⟨g, o + at_ * 4 + 2, none⟩ = some (.int .u32 ((tg T at_).seq : Int)) := hrow' 2 _ rfl
      have hcs : cameR (T.take (k + 1)) p = if (tg T k).p = p ∧ (tg T k).kind = 0 then (tg T k).seq else cameR (T.take k) p := by rw [take_tg hlt, cameR_snoc]
      have HHIT := Lib.hid (show hitR T p at_ k ↔ at_ ≤ k ∧ (tg T k).p = p ∧ (tg T k).kind < 2 ∧ (tg T at_).seq ≤ cameR (T.take (k + 1)) p from Iff.rfl)
      have HNX := Lib.hid (show ¬ hitR T p at_ k → ∀ i, i < k + 1 → ¬ hitR T p at_ i from fun hn i hi => by
        by_cases e : i = k
        · subst e; exact hn
        · exact HNO.out i (by omega))
      have HLT := Lib.hid hlt
      have HCS := Lib.hid hcs
      obtain ⟨W2, hW2⟩ : ∃ W2, W2 = wr.alloc (.cells #[.int .i64 (tg T k).kind, .int .i64 (tg T k).p, .int .u32 ((tg T k).seq : Int), .int .u64 ((tg T k).stamp : Int)] 120) := ⟨_, rfl⟩
      have HW2 := Lib.hid hW2
      have hx2 := heap_alloc_new wr (.cells #[.int .i64 (tg T k).kind, .int .i64 (tg T k).p, .int .u32 ((tg T k).seq : Int), .int .u64 ((tg T k).stamp : Int)] 120)
      have hb2 := ba (br wr) (.cells #[.int .i64 (tg T k).kind, .int .i64 (tg T k).p, .int .u32 ((tg T k).seq : Int), .int .u64 ((tg T k).stamp : Int)] 120)
      rw [← hW2] at hx2 hb2
      have z0 : W2.cell? ⟨wr.heap.size, 0, none⟩ = some (.int .i64 (tg T k).kind) := cell_of_row _ _ 0 _ _ _ hx2
      have z1 : W2.cell? ⟨wr.heap.size, 1, none⟩ = some (.int .i64 (tg T k).p) := cell_of_row _ _ 1 _ _ _ hx2
      have z2 : W2.cell? ⟨wr.heap.size, 2, none⟩ = some (.int .u32 ((tg T k).seq : Int)) := cell_of_row _ _ 2 _ _ _ hx2
      have za : W2.cell? ⟨g, o + at_ * 4 + 2, none⟩ = some (.int .u32 ((tg T at_).seq : Int)) := (hb2.cell (p := ⟨g, _, none⟩) hg).trans ya
      have z65 : W2.cell? ⟨N, 65, none⟩ = some (.slice (some ⟨g, o, none⟩) T.length cap) := by
        rw [HN.out] at c65 ⊢
        exact (hb2.cell (p := ⟨w.heap.size, 65, none⟩) (Array.getElem?_eq_some_iff.1 HC.out.blk).1).trans c65
      have HC2 := Lib.hid (HC.out.below hb2)
      clear hrow hrow' hg hg' hcs hx2 hb2 hW2 ya HC HC0 HNO hk
      have hat0 : (at_ : Int) < (T.length : Int) := by omega
      generalize (tg T k).kind = tk at *
      generalize (tg T k).p = tp at *
      generalize (tg T k).stamp = ts at *
      generalize (tg T at_).seq = sq at *
      obtain ⟨sk, hsk⟩ : ∃ s, s = (tg T k).seq := ⟨_, rfl⟩
      obtain ⟨cm, hcm⟩ : ∃ s, s = cameR (T.take k) p := ⟨_, rfl⟩
      obtain ⟨cn, hcn⟩ : ∃ s, s = cameR (T.take (k + 1)) p := ⟨_, rfl⟩
      rw [← hsk] at y2 z2 HCS HW2
      rw [← hcm] at HCS ⊢
      rw [← hcn] at HCS HHIT
      have HCN := Lib.hid hcn
      clear hsk hcm hcn hat
      go_upto_region 6 with (fail)
      rw [← HW2.out]
      clear y0 y1 y2 y3 c65 HW2
      generalize wr.heap.size = N2 at *
      have hfin : ∀ (x : Nat), x = cn → ¬ hitR T p at_ k → (∃ j : Nat, j ≤ T.length ∧ Value.int .i64 ((k : Int) + 1) = .int .i64 (j : Int) ∧ Value.int .u32 (x : Int) = .int .u32 (cameR (T.take j) p : Int) ∧ (∀ i, i < j → ¬ hitR T p at_ i) ∧ Hid (HrCtx w X (.slice (some ⟨g, o, none⟩) T.length cap) T W2)) := fun x hx hn => ⟨k + 1, HLT.out, by go_num, by rw [hx, HCN.out], HNX.out hn, HC2⟩
      have HFIN := Lib.hid hfin
      clear hfin
      have hms : T.length - (k + 1) < T.length - k := by have := HLT.out; omega
      have HMS := Lib.hid hms
      clear hms
      by_cases hp : tp = p
      · have d1 : (tp == p) = true := by simpa using hp
        by_cases hk0 : tk = 0
        · have d2 : (tk == 0) = true := by simpa using hk0
          have e1 := HCS.out
          rw [if_pos ⟨hp, hk0⟩] at e1
          have d3 : decide (tk < 2) = true := by simp; omega
          by_cases ha : at_ ≤ k
          · have d4 : decide ((at_ : Int) ≤ (k : Int)) = true := by simp; omega
            have d4' : decide (at_ ≤ k) = true := by simpa using ha
            by_cases hs : sq ≤ sk
            · have d5 : decide ((sq : Int) ≤ (sk : Int)) = true := by simp; omega
              have d5' : decide (sq ≤ sk) = true := by simpa using hs
              have HR := Lib.hid (show BoolIs (cntR T p at_) (.returned (.bool true)) ∧ Below w.heap.size w W2 from ⟨⟨true, rfl, fun _ => ⟨k, HLT.out, HHIT.out.2 ⟨ha, hp, by omega, by omega⟩⟩, fun _ => rfl⟩, HC2.out.bel⟩)
              clear hp hk0 ha hs e1
              go_wp2_with fail
              go_ret
              exact HR.out
            · have d5 : decide ((sq : Int) ≤ (sk : Int)) = false := by simp; omega
              have d5' : decide (sq ≤ sk) = false := by simpa using hs
              have HR := Lib.hid (HFIN.out sk (by omega) (fun hh => by have := (HHIT.out.1 hh).2.2.2; omega))
              clear hp hk0 ha hs e1
              go_wp2_with fail
              exact ⟨HR.out, by have := HMS.out; simp [intOf]; omega⟩
          · have d4 : decide ((at_ : Int) ≤ (k : Int)) = false := by simp; omega
            have d4' : decide (at_ ≤ k) = false := by simpa using ha
            have HR := Lib.hid (HFIN.out sk (by omega) (fun hh => ha (HHIT.out.1 hh).1))
            clear hp hk0 ha e1
            go_wp2_with fail
            exact ⟨HR.out, by have := HMS.out; simp [intOf]; omega⟩
        · have d2 : (tk == 0) = false := by simpa using hk0
          have e1 := HCS.out
          rw [if_neg (fun h => hk0 h.2)] at e1
          by_cases ha : at_ ≤ k
          · have d4 : decide ((at_ : Int) ≤ (k : Int)) = true := by simp; omega
            have d4' : decide (at_ ≤ k) = true := by simpa using ha
            by_cases hk2 : tk < 2
            · have d3 : decide (tk < 2) = true := by simpa using hk2
              by_cases hs : sq ≤ cm
              · have d5 : decide ((sq : Int) ≤ (cm : Int)) = true := by simp; omega
                have d5' : decide (sq ≤ cm) = true := by simpa using hs
                have HR := Lib.hid (show BoolIs (cntR T p at_) (.returned (.bool true)) ∧ Below w.heap.size w W2 from ⟨⟨true, rfl, fun _ => ⟨k, HLT.out, HHIT.out.2 ⟨ha, hp, by omega, by omega⟩⟩, fun _ => rfl⟩, HC2.out.bel⟩)
                clear hk2 hp hk0 ha hs e1
                go_wp2_with fail
                go_ret
                exact HR.out
              · have d5 : decide ((sq : Int) ≤ (cm : Int)) = false := by simp; omega
                have d5' : decide (sq ≤ cm) = false := by simpa using hs
                have HR := Lib.hid (HFIN.out cm (by omega) (fun hh => by have := (HHIT.out.1 hh).2.2.2; omega))
                clear hk2 hp hk0 ha hs e1
                go_wp2_with fail
                exact ⟨HR.out, by have := HMS.out; simp [intOf]; omega⟩
            · have d3 : decide (tk < 2) = false := by simpa using hk2
              have HR := Lib.hid (HFIN.out cm (by omega) (fun hh => hk2 (HHIT.out.1 hh).2.2.1))
              clear hk2 hp hk0 ha e1
              go_wp2_with fail
              exact ⟨HR.out, by have := HMS.out; simp [intOf]; omega⟩
          · have d4 : decide ((at_ : Int) ≤ (k : Int)) = false := by simp; omega
            have d4' : decide (at_ ≤ k) = false := by simpa using ha
            have HR := Lib.hid (HFIN.out cm (by omega) (fun hh => ha (HHIT.out.1 hh).1))
            clear hp hk0 ha e1
            go_wp2_with fail
            exact ⟨HR.out, by have := HMS.out; simp [intOf]; omega⟩
      · have d1 : (tp == p) = false := by simpa using hp
        have e1 := HCS.out
        rw [if_neg (fun h => hp h.1)] at e1
        by_cases ha : at_ ≤ k
        · have d4 : decide ((at_ : Int) ≤ (k : Int)) = true := by simp; omega
          have d4' : decide (at_ ≤ k) = true := by simpa using ha
          have HR := Lib.hid (HFIN.out cm (by omega) (fun hh => hp (HHIT.out.1 hh).2.1))
          clear hp ha e1
          go_wp2_with fail
          exact ⟨HR.out, by have := HMS.out; simp [intOf]; omega⟩
        · have d4 : decide ((at_ : Int) ≤ (k : Int)) = false := by simp; omega
          have d4' : decide (at_ ≤ k) = false := by simpa using ha
          have HR := Lib.hid (HFIN.out cm (by omega) (fun hh => hp (HHIT.out.1 hh).2.1))
          clear hp ha e1
          go_wp2_with fail
          exact ⟨HR.out, by have := HMS.out; simp [intOf]; omega⟩
    · have hbool : decide ((k : Int) < (T.length : Int)) = false := by simpa using hlt
      obtain rfl : k = T.length := by omega
      have HR := Lib.hid (show BoolIs (cntR T p at_) (.returned (.bool false)) ∧ Below w.heap.size w wr from ⟨⟨false, rfl, fun h => (by cases h), fun ⟨i, hi, hh⟩ => absurd hh (HNO.out i hi)⟩, HC.out.bel⟩)
      clear HC HC0 HNO hlt hk
      go_wp2_with fail
      go_ret
      exact HR.out
end Go.Proofs.YtgjlcjbmcnofiaaDoor
namespace Go.Proofs.YtgjlcjbmcnofiaaDoor
set_option linter.unusedVariables false
set_option linter.unusedSimpArgs false
open Go.RowKit
theorem wpList_load_row_wantR {P : Program} {ops : Array Oper} {rest : List Oper} {o : Oper} {a : Act} {w : World} {Q : Exit → Act → World → Prop} (hw : Region.wanted o (yielded ops a.tmps) = true) (ty : TypeId) (x : Operand) (ho : o.op = .load ty x)
    (g : Nat) (hx : a.eval x = .pointer (some ⟨g, 0, none⟩)) (t : TypeId) (cs : Array Value) (fr : Nat × Nat) (d : TypeDesc) (hg : w.heap[g]? = some (.cells cs t fr))
    (hu : P.underlying ty = some d) (hd : (match d with | .struct _ | .array _ _ => true | _ => false) = true) (hi : (P.info? ty).map (·.size) = some cs.size)
    (h : wpList P ops Q rest (a.put o.dst (.agg cs)) w) : wpList P ops Q (o :: rest) a w :=
  BigFrame.wpList_want hw fun _ hK => wp_load_row ty x ho g hx t cs fr d hg hu hd hi (hK _ _ h)
theorem hrSize {c : Nat} {oth : Nat → Bool} {v : Value} : (Tryd.prog.info? 71).map (·.size) = some (hrC c oth v).size := by rw [hrC_size]; kernel_rfl
set_option maxRecDepth 100000 in
set_option maxHeartbeats 8000000 in
theorem heard_any (v : Value) (c : Nat) (oth : Nat → Bool) (T : List Tld) (p : Int) (X0 : Nat) (w : World) (h : ToldIn w v T) (hl : T.length ≤ 1000) (hX0 : TopTo T (goodR T p) T.length X0) :
    Calls Tryd.prog 96 #[.agg (hrC c oth v), .int .i64 p] w fun e w' => e = .returned (.int .u64 (X0 : Int)) ∧ Below w.heap.size w w' := by
  obtain ⟨ad, cap, rfl, _⟩ := id h
  have HCNT := Lib.hid (show ∀ (W : World) (at_ : Nat), ToldIn W (.slice ad T.length cap) T → at_ < T.length → Calls Tryd.prog 100 #[.agg (hrC c oth (.slice ad T.length cap)), .int .i64 p, .int .i64 (at_ : Int)] W _ from fun W at_ hW hat => counts_any _ c oth T p at_ W hW hl hat)
  have HT0 := Lib.hid hX0
  obtain ⟨X, hX⟩ : ∃ X, X = hrC c oth (.slice ad T.length cap) := ⟨_, rfl⟩
  have x65 := hrC_all c oth (.slice ad T.length cap)
  have hsz : (Tryd.prog.info? 71).map (·.size) = some X.size := by rw [hX]; exact hrSize
  rw [← hX] at x65 HCNT ⊢
  obtain ⟨W, hW⟩ : ∃ W, W = w.alloc (.cells X 71) := ⟨_, rfl⟩
  have hb0 := ba (br w) (.cells X 71)
  have HC0 := Lib.hid (show HrCtx w X (.slice ad T.length cap) T W from by rw [hW]; exact ⟨heap_alloc_new w _, h.below hb0, hb0⟩)
  have HX := Lib.hid (And.intro x65 hsz)
  have HW := Lib.hid hW
  clear h hX hb0 x65 hW hX0 hsz
  go_enter Tryd.func96, Tryd.ntmps96
  go_upto_region 1 with (fail)
  rw [← HW.out]
  clear HW
  obtain ⟨N, hN⟩ : ∃ N, N = w.heap.size := ⟨_, rfl⟩
  have HN := Lib.hid hN
  rw [← hN]
  clear hN
  go_wp2_with fail
  go_loopw [5, 6] (fun s i wr => ∃ k : Nat, k ≤ T.length ∧ i = .int .i64 (k : Int) ∧ ∃ x : Nat, s = .int .u64 (x : Int) ∧ Hid (TopTo T (goodR T p) k x) ∧ Hid (HrCtx w X (.slice ad T.length cap) T wr)) (fun _ i _ => T.length - (intOf i).toNat)
  case atStart => exact ⟨0, by omega, rfl, 0, rfl, TopTo.zero _ _, HC0⟩
  case round =>
    obtain ⟨k, hk, rfl, x, rfl, HTO, HC⟩ := hrel
    have c65 : wr.cell? ⟨N, 65, none⟩ = some (.slice ad T.length cap) := by rw [HN.out]; exact (cell_of_row _ _ 65 _ _ _ HC.out.blk).trans HX.out.1
    by_cases hlt : k < T.length
    · have hbool : decide ((k : Int) < (T.length : Int)) = true := by simpa using hlt
      have hi0 : (k : Int) < (T.length : Int) := by omega
      obtain ⟨g, o, rfl, hg, hrow⟩ := HC.out.told.at_ hlt
      rw [← tg_get hlt] at hrow
      have y0 : wr.cell? ⟨g, o + k * 4, none⟩ = some (.int .i64 (tg T k).kind) := hrow 0 _ rfl
      have y1 : wr.cell? ⟨g, o + k * 4 + 1, none⟩ = some (.int .i64 (tg T k).p) := hrow 1 _ rfl
      have y2 : wr.cell? ⟨g, o + k * 4 + 2, none⟩ = some (.int .u32 ((tg T k).seq : Int)) := hrow 2 _ rfl
      have y3 : wr.cell? ⟨g, o + k * 4 + 3, none⟩ = some (.int .u64 ((tg T k).stamp : Int)) := hrow 3 _ rfl
      have HGOOD := Lib.hid (show goodR T p k ↔ (tg T k).p = p ∧ (tg T k).kind ≠ 2 ∧ ((tg T k).kind = 0 ∨ cntR T p k) from Iff.rfl)
      have HSK := Lib.hid (show (goodR T p k → (tg T k).stamp ≤ x) → TopTo T (goodR T p) (k + 1) x from fun hn => HTO.out.skip hn)
      have HHT := Lib.hid (show goodR T p k → x < (tg T k).stamp → TopTo T (goodR T p) (k + 1) (tg T k).stamp from fun h1 h2 => HTO.out.hit h1 h2)
      have HLT := Lib.hid hlt
      obtain ⟨W2, hW2⟩ : ∃ W2, W2 = wr.alloc (.cells #[.int .i64 (tg T k).kind, .int .i64 (tg T k).p, .int .u32 ((tg T k).seq : Int), .int .u64 ((tg T k).stamp : Int)] 120) := ⟨_, rfl⟩
      have HW2 := Lib.hid hW2
      have hx2 := heap_alloc_new wr (.cells #[.int .i64 (tg T k).kind, .int .i64 (tg T k).p, .int .u32 ((tg T k).seq : Int), .int .u64 ((tg T k).stamp : Int)] 120)
      have hb2 := ba (br wr) (.cells #[.int .i64 (tg T k).kind, .int .i64 (tg T k).p, .int .u32 ((tg T k).seq : Int), .int .u64 ((tg T k).stamp : Int)] 120)
      rw [← hW2] at hx2 hb2
      have HZ := Lib.hid (show ∀ W3, Below W2.heap.size W2 W3 → W3.cell? ⟨wr.heap.size, 3, none⟩ = some (.int .u64 ((tg T k).stamp : Int)) from fun W3 hb => (hb.cell (p := ⟨wr.heap.size, 3, none⟩) (Array.getElem?_eq_some_iff.1 hx2).1).trans (cell_of_row _ _ 3 _ _ _ hx2))
      have z0 : W2.cell? ⟨wr.heap.size, 0, none⟩ = some (.int .i64 (tg T k).kind) := cell_of_row _ _ 0 _ _ _ hx2
      have z1 : W2.cell? ⟨wr.heap.size, 1, none⟩ = some (.int .i64 (tg T k).p) := cell_of_row _ _ 1 _ _ _ hx2
      have z3 : W2.cell? ⟨wr.heap.size, 3, none⟩ = some (.int .u64 ((tg T k).stamp : Int)) := cell_of_row _ _ 3 _ _ _ hx2
      have HC2 := Lib.hid (HC.out.below hb2)
      have HCC := Lib.hid (HCNT.out W2 k (HC2.out.told) hlt)
      clear hrow hg hx2 hb2 hW2 HC HC0 HTO hk
      generalize (tg T k).kind = tk at *
      generalize (tg T k).p = tp at *
      generalize (tg T k).seq = sq at *
      generalize (tg T k).stamp = ts at *
      go_upto_region 6 with (fail)
      rw [← HW2.out]
      clear y0 y1 y2 y3 c65 HW2
      generalize wr.heap.size = N2 at *
      have HFIN := Lib.hid (show ∀ (z : Nat) (W3 : World), TopTo T (goodR T p) (k + 1) z → Below W2.heap.size W2 W3 → (∃ j : Nat, j ≤ T.length ∧ Value.int .i64 ((k : Int) + 1) = .int .i64 (j : Int) ∧ ∃ x : Nat, Value.int .u64 (z : Int) = .int .u64 (x : Int) ∧ Hid (TopTo T (goodR T p) j x) ∧ Hid (HrCtx w X (.slice (some ⟨g, o, none⟩) T.length cap) T W3)) from fun z W3 h1 h2 => ⟨k + 1, HLT.out, by go_num, z, rfl, h1, HC2.out.below h2⟩)
      have HMS := Lib.hid (show T.length - (k + 1) < T.length - k from by have := HLT.out; omega)
      have HB2 := Lib.hid HC2.out.blk
      by_cases hp : tp = p
      · have d1 : (tp != p) = false := by simpa using hp
        by_cases hk2 : tk = 2
        · have d2 : (tk == 2) = true := by simpa using hk2
          have HR := Lib.hid (HFIN.out x W2 (HSK.out fun hh => absurd hk2 (HGOOD.out.1 hh).2.1) (br _))
          clear hp hk2
          go_wp2_with fail
          exact ⟨HR.out, by have := HMS.out; simp [intOf]; omega⟩
        · have d2 : (tk == 2) = false := by simpa using hk2
          by_cases hx : x < ts
          · have d3 : decide ((x : Int) < (ts : Int)) = true := by simp; omega
            have d3' : decide (x < ts) = true := by simpa using hx
            by_cases hk0 : tk = 0
            · have d4 : (tk == 0) = true := by simpa using hk0
              have HR := Lib.hid (HFIN.out ts W2 (HHT.out (HGOOD.out.2 ⟨hp, hk2, .inl hk0⟩) hx) (br _))
              clear hp hk2 hx hk0
              go_wp2_with fail
              exact ⟨HR.out, by have := HMS.out; simp [intOf]; omega⟩
            · have d4 : (tk == 0) = false := by simpa using hk0
              have HG2 := Lib.hid (show goodR T p k ↔ cntR T p k from ⟨fun hh => (HGOOD.out.1 hh).2.2.resolve_left hk0, fun hh => HGOOD.out.2 ⟨hp, hk2, .inr hh⟩⟩)
              have HXL := Lib.hid hx
              clear hp hk2 hx hk0
              go_wp2_with (first
                | (refine wpList_load_row_wantR (by rfl) 71 (.tmp 2) rfl N rfl 71 X (0, 0) _ (by rw [HN.out]; exact HB2.out) Tryd.underlying71 rfl HX.out.2 ?_)
                | fail)
              refine HCC.out.mono ?_
              rintro e w3 ⟨⟨b, rfl, hbc⟩, hb3⟩
              have HBC := Lib.hid hbc
              have HB3 := Lib.hid hb3
              have z3' := HZ.out w3 hb3
              clear hbc hb3 HCC z0 z1 z3
              cases b
              · have HR := Lib.hid (HFIN.out x w3 (HSK.out fun hh => by have := HBC.out.2 (HG2.out.1 hh); cases this) HB3.out)
                go_wp2_with fail
                exact ⟨HR.out, by have := HMS.out; simp [intOf]; omega⟩
              · have HR := Lib.hid (HFIN.out ts w3 (HHT.out (HG2.out.2 (HBC.out.1 rfl)) HXL.out) HB3.out)
                go_wp2_with fail
                exact ⟨HR.out, by have := HMS.out; simp [intOf]; omega⟩
          · have d3 : decide ((x : Int) < (ts : Int)) = false := by simp; omega
            have d3' : decide (x < ts) = false := by simpa using hx
            have HR := Lib.hid (HFIN.out x W2 (HSK.out fun hh => by omega) (br _))
            clear hp hk2 hx
            go_wp2_with fail
            exact ⟨HR.out, by have := HMS.out; simp [intOf]; omega⟩
      · have d1 : (tp != p) = true := by simpa using hp
        have HR := Lib.hid (HFIN.out x W2 (HSK.out fun hh => absurd (HGOOD.out.1 hh).1 hp) (br _))
        clear hp
        go_wp2_with fail
        exact ⟨HR.out, by have := HMS.out; simp [intOf]; omega⟩
    · have hbool : decide ((k : Int) < (T.length : Int)) = false := by simpa using hlt
      obtain rfl : k = T.length := by omega
      obtain rfl : x = X0 := HTO.out.uniq HT0.out
      have HR := Lib.hid HC.out.bel
      clear HC HC0 HTO hlt hk
      go_wp2_with fail
      go_ret
      exact ⟨rfl, HR.out⟩
/-- the least of the others' -/
def lowR (f : Nat → Nat) (oth : Nat → Bool) (k c : Nat) : Nat := (List.range k).foldl (fun n p => if oth p = true ∧ f p < n then f p else n) c
theorem lowR_succ (f : Nat → Nat) (oth : Nat → Bool) (k c : Nat) : lowR f oth (k + 1) c = if oth k = true ∧ f k < lowR f oth k c then f k else lowR f oth k c := by
  unfold lowR
  rw [List.range_succ, List.foldl_append]
  rfl
set_option maxRecDepth 100000 in
set_option maxHeartbeats 8000000 in
theorem rAll_any (v : Value) (c : Nat) (oth : Nat → Bool) (T : List Tld) (f : Nat → Nat) (w : World) (h : ToldIn w v T) (hl : T.length ≤ 1000) (hf : ∀ p : Nat, p < 64 → oth p = true → TopTo T (goodR T (p : Int)) T.length (f p)) :
    Calls Tryd.prog 84 #[.agg (hrC c oth v)] w fun e w' => e = .returned (.int .u64 (lowR f oth 64 c : Int)) ∧ Below w.heap.size w w' := by
  have HF := Lib.hid (show ∀ (W : World) (p : Nat), p < 64 → oth p = true → ToldIn W v T → Calls Tryd.prog 96 #[.agg (hrC c oth v), .int .i64 (p : Int)] W _ from fun W p hp ho hW => heard_any v c oth T (p : Int) (f p) W hW hl (hf p hp ho))
  obtain ⟨X, hX⟩ : ∃ X, X = hrC c oth v := ⟨_, rfl⟩
  have x0 : X[0]? = some (.int .u64 (c : Int)) := by rw [hX]; rfl
  have xo : ∀ p, p < 64 → X[1 + p]? = some (.bool (oth p)) := fun p hp => by rw [hX]; exact hrC_oth c oth v hp
  have hsz : (Tryd.prog.info? 71).map (·.size) = some X.size := by rw [hX]; exact hrSize
  rw [← hX] at HF ⊢
  obtain ⟨W, hW⟩ : ∃ W, W = w.alloc (.cells X 71) := ⟨_, rfl⟩
  have hb0 := ba (br w) (.cells X 71)
  have HC0 := Lib.hid (show HrCtx w X v T W from by rw [hW]; exact ⟨heap_alloc_new w _, h.below hb0, hb0⟩)
  have HX := Lib.hid (And.intro x0 (And.intro xo hsz))
  have HW := Lib.hid hW
  clear h hX hb0 x0 xo hW hsz hf
  go_enter Tryd.func84, Tryd.ntmps84
  go_upto_region 1 with (fail)
  rw [← HW.out]
  clear HW
  obtain ⟨N, hN⟩ : ∃ N, N = w.heap.size := ⟨_, rfl⟩
  have HN := Lib.hid hN
  rw [← hN]
  clear hN
  have c0 : W.cell? ⟨N, 0, none⟩ = some (.int .u64 (c : Int)) := by rw [HN.out]; exact (cell_of_row _ _ 0 _ _ _ HC0.out.blk).trans HX.out.1
  go_wp2_with fail
  go_loopw [3, 4] (fun s i wr => ∃ k : Nat, k ≤ 64 ∧ i = .int .i64 (k : Int) ∧ s = .int .u64 (lowR f oth k c : Int) ∧ Hid (HrCtx w X v T wr)) (fun _ i _ => 64 - (intOf i).toNat)
  case atStart => exact ⟨0, by omega, rfl, rfl, HC0⟩
  case round =>
    obtain ⟨k, hk, rfl, rfl, HC⟩ := hrel
    clear c0 HC0
    have HS := Lib.hid (lowR_succ f oth k c)
    by_cases hlt : k < 64
    · have hbool : decide ((k : Int) < 64) = true := by simp; omega
      have hi0 : (k : Int) < 64 := by omega
      have co : wr.cell? ⟨N, 1 + k, none⟩ = some (.bool (oth k)) := by rw [HN.out]; exact (cell_of_row _ _ (1 + k) _ _ _ HC.out.blk).trans (HX.out.2.1 k hlt)
      obtain ⟨lw, hlw⟩ : ∃ z, z = lowR f oth k c := ⟨_, rfl⟩
      rw [← hlw] at HS ⊢
      clear hlw
      have HO := Lib.hid (show ∀ b, oth k = b → lowR f oth (k + 1) c = if b = true ∧ f k < lw then f k else lw from fun b hb => by rw [HS.out, hb])
      have HCL := Lib.hid (show oth k = true → ∀ W3, Below wr.heap.size wr W3 → HrCtx w X v T W3 ∧ Calls Tryd.prog 96 #[.agg X, .int .i64 (k : Int)] W3 (fun e w' => e = .returned (.int .u64 (f k : Int)) ∧ Below W3.heap.size W3 w') from fun ho W3 hb => ⟨HC.out.below hb, HF.out W3 k hlt ho (HC.out.below hb).told⟩)
      have HB := Lib.hid HC
      have HLT := Lib.hid hlt
      generalize oth k = ok at *
      clear HS HC hlt
      cases ok
      · have HE := Lib.hid (HO.out false rfl)
        clear HO
        go_wp2_with fail
        exact ⟨⟨k + 1, HLT.out, by go_num, by rw [HE.out]; rfl, HB.out⟩, by have := HLT.out; simp [intOf]; omega⟩
      · have HE := Lib.hid (HO.out true rfl)
        have HK1 := Lib.hid (HCL.out rfl wr (br _))
        have HBK := Lib.hid HB.out.out.blk
        go_wp2_with (first
          | (refine wpList_load_row_wantR (by rfl) 71 (.tmp 1) rfl N rfl 71 X (0, 0) _ (by rw [HN.out]; exact HBK.out) Tryd.underlying71 rfl HX.out.2.2 ?_)
          | fail)
        refine HK1.out.2.mono ?_
        rintro e w3 ⟨rfl, hb3⟩
        have HB3 := Lib.hid hb3
        clear hb3 HK1 HBK co HO
        generalize f k = fk at *
        by_cases hfl : fk < lw
        · have d1 : decide ((fk : Int) < (lw : Int)) = true := by simp; omega
          have d1' : decide (fk < lw) = true := by simpa using hfl
          have e1 := HE.out
          rw [if_pos ⟨trivial, hfl⟩] at e1
          have HE1 := Lib.hid e1
          have HK2 := Lib.hid (HCL.out trivial w3 HB3.out)
          have HBK := Lib.hid HK2.out.1.blk
          clear e1 hfl HE
          go_wp2_with (first
            | (refine wpList_load_row_wantR (by rfl) 71 (.tmp 1) rfl N rfl 71 X (0, 0) _ (by rw [HN.out]; exact HBK.out) Tryd.underlying71 rfl HX.out.2.2 ?_)
            | fail)
          refine HK2.out.2.mono ?_
          rintro e w4 ⟨rfl, hb4⟩
          have HB4 := Lib.hid (HK2.out.1.below hb4)
          clear hb4 HK2 HBK
          go_wp2_with fail
          exact ⟨⟨k + 1, HLT.out, by go_num, by rw [HE1.out], HB4⟩, by have := HLT.out; simp [intOf]; omega⟩
        · have d1 : decide ((fk : Int) < (lw : Int)) = false := by simp; omega
          have d1' : decide (fk < lw) = false := by simpa using hfl
          have e1 := HE.out
          rw [if_neg (fun h => hfl h.2)] at e1
          have HE1 := Lib.hid e1
          have HK2 := Lib.hid (HCL.out trivial w3 HB3.out).1
          clear e1 hfl HE HCL
          go_wp2_with fail
          exact ⟨⟨k + 1, HLT.out, by go_num, by rw [HE1.out], HK2⟩, by have := HLT.out; simp [intOf]; omega⟩
    · have hbool : decide ((k : Int) < 64) = false := by simp; omega
      obtain rfl : k = 64 := by omega
      have HR := Lib.hid HC.out.bel
      clear HC hlt hk HS
      go_wp2_with fail
      go_ret
      exact ⟨rfl, HR.out⟩
/-- what was told as reached -/
def rchR (T : List Tld) (p : Int) (i : Nat) : Prop := (tg T i).p = p ∧ (tg T i).kind = 2
set_option maxRecDepth 100000 in
set_option maxHeartbeats 8000000 in
theorem rSafe_any (v : Value) (c : Nat) (oth : Nat → Bool) (T : List Tld) (f g : Nat → Nat) (w : World) (h : ToldIn w v T) (hl : T.length ≤ 1000) (hf : ∀ p : Nat, p < 64 → oth p = true → TopTo T (goodR T (p : Int)) T.length (f p)) (hg : ∀ p : Nat, p < 64 → oth p = true → TopTo T (rchR T (p : Int)) T.length (g p)) :
    Calls Tryd.prog 85 #[.agg (hrC c oth v)] w fun e w' => e = .returned (.int .u64 (lowR g oth 64 (lowR f oth 64 c) : Int)) ∧ Below w.heap.size w w' := by
  have HA := Lib.hid (show ∀ (W : World), ToldIn W v T → Calls Tryd.prog 84 #[.agg (hrC c oth v)] W _ from fun W hW => rAll_any v c oth T f W hW hl hf)
  obtain ⟨ad, cap, rfl, _⟩ := id h
  obtain ⟨X, hX⟩ : ∃ X, X = hrC c oth (.slice ad T.length cap) := ⟨_, rfl⟩
  have x65 := hrC_all c oth (.slice ad T.length cap)
  have xo : ∀ p, p < 64 → X[1 + p]? = some (.bool (oth p)) := fun p hp => by rw [hX]; exact hrC_oth c oth _ hp
  have hsz : (Tryd.prog.info? 71).map (·.size) = some X.size := by rw [hX]; exact hrSize
  rw [← hX] at HA x65 ⊢
  obtain ⟨W, hW⟩ : ∃ W, W = w.alloc (.cells X 71) := ⟨_, rfl⟩
  have hb0 := ba (br w) (.cells X 71)
  have HC0 := Lib.hid (show HrCtx w X (.slice ad T.length cap) T W from by rw [hW]; exact ⟨heap_alloc_new w _, h.below hb0, hb0⟩)
  have HX := Lib.hid (And.intro x65 (And.intro xo hsz))
  have HW := Lib.hid hW
  have HG := Lib.hid hg
  clear h hX hb0 x65 xo hW hsz hf hg
  go_enter Tryd.func85, Tryd.ntmps85
  go_upto_region 1 with (fail)
  rw [← HW.out]
  clear HW
  obtain ⟨N, hN⟩ : ∃ N, N = w.heap.size := ⟨_, rfl⟩
  have HN := Lib.hid hN
  rw [← hN]
  clear hN
  have HA0 := Lib.hid (HA.out W HC0.out.told)
  go_wp2_with (first
    | (refine wpList_load_row_wantR (by rfl) 71 (.tmp 1) rfl N rfl 71 X (0, 0) _ (by rw [HN.out]; exact HC0.out.blk) Tryd.underlying71 rfl HX.out.2.2 ?_)
    | fail)
  refine HA0.out.mono ?_
  rintro e w1 ⟨rfl, hb1⟩
  have HC1 := Lib.hid (HC0.out.below hb1)
  obtain ⟨al, hal⟩ : ∃ z, z = lowR f oth 64 c := ⟨_, rfl⟩
  have HAL := Lib.hid hal
  rw [← hal]
  clear hb1 HA0 HA HC0 hal
  go_wp2_with fail
  go_loopw [3, 4] (fun s i wr => ∃ k : Nat, k ≤ 64 ∧ i = .int .i64 (k : Int) ∧ s = .int .u64 (lowR g oth k al : Int) ∧ Hid (HrCtx w X (.slice ad T.length cap) T wr)) (fun _ i _ => 64 - (intOf i).toNat)
  case atStart => exact ⟨0, by omega, rfl, rfl, HC1⟩
  case round =>
    obtain ⟨k, hk, rfl, rfl, HC⟩ := hrel
    clear HC1
    by_cases hlt : k < 64
    · have hbool : decide ((k : Int) < 64) = true := by simp; omega
      have hi0 : (k : Int) < 64 := by omega
      have HLT := Lib.hid hlt
      clear hlt hk
      go_wp2_with fail
      go_loopw [5, 6] (fun s i wr => ∃ j : Nat, j ≤ T.length ∧ i = .int .i64 (j : Int) ∧ ∃ x : Nat, s = .int .u64 (x : Int) ∧ Hid (TopTo T (rchR T (k : Int)) j x) ∧ Hid (HrCtx w X (.slice ad T.length cap) T wr)) (fun _ i _ => T.length - (intOf i).toNat)
      case atStart => exact ⟨0, by omega, rfl, 0, rfl, TopTo.zero _ _, HC⟩
      case round =>
        obtain ⟨j, hj, rfl, x, rfl, HTO, HCj⟩ := hrel
        have c65 : wr.cell? ⟨N, 65, none⟩ = some (.slice ad T.length cap) := by rw [HN.out]; exact (cell_of_row _ _ 65 _ _ _ HCj.out.blk).trans HX.out.1
        by_cases hjl : j < T.length
        · have hbj : decide ((j : Int) < (T.length : Int)) = true := by simpa using hjl
          have hj0 : (j : Int) < (T.length : Int) := by omega
          obtain ⟨gb, o, rfl, hgb, hrow⟩ := HCj.out.told.at_ hjl
          rw [← tg_get hjl] at hrow
          have y0 : wr.cell? ⟨gb, o + j * 4, none⟩ = some (.int .i64 (tg T j).kind) := hrow 0 _ rfl
          have y1 : wr.cell? ⟨gb, o + j * 4 + 1, none⟩ = some (.int .i64 (tg T j).p) := hrow 1 _ rfl
          have y3 : wr.cell? ⟨gb, o + j * 4 + 3, none⟩ = some (.int .u64 ((tg T j).stamp : Int)) := hrow 3 _ rfl
          have HR := Lib.hid (show rchR T (k : Int) j ↔ (tg T j).p = (k : Int) ∧ (tg T j).kind = 2 from Iff.rfl)
          have HSK := Lib.hid (show (rchR T (k : Int) j → (tg T j).stamp ≤ x) → TopTo T (rchR T (k : Int)) (j + 1) x from fun hn => HTO.out.skip hn)
          have HHT := Lib.hid (show rchR T (k : Int) j → x < (tg T j).stamp → TopTo T (rchR T (k : Int)) (j + 1) (tg T j).stamp from fun h1 h2 => HTO.out.hit h1 h2)
          have HJL := Lib.hid hjl
          clear hrow hgb HTO hj hjl HC
          generalize (tg T j).kind = tk at *
          generalize (tg T j).p = tp at *
          generalize (tg T j).stamp = ts at *
          by_cases hp : tp = (k : Int)
          · have d1 : (tp == (k : Int)) = true := by simpa using hp
            by_cases hk2 : tk = 2
            · have d2 : (tk == 2) = true := by simpa using hk2
              by_cases hx : x < ts
              · have d3 : decide ((x : Int) < (ts : Int)) = true := by simp; omega
                have d3' : decide (x < ts) = true := by simpa using hx
                have HE := Lib.hid (HHT.out (HR.out.2 ⟨hp, hk2⟩) hx)
                clear hp hk2 hx
                go_wp2_with fail
                exact ⟨⟨j + 1, HJL.out, by go_num, ts, rfl, HE, HCj⟩, by have := HJL.out; simp [intOf]; omega⟩
              · have d3 : decide ((x : Int) < (ts : Int)) = false := by simp; omega
                have d3' : decide (x < ts) = false := by simpa using hx
                have HE := Lib.hid (HSK.out fun _ => by omega)
                clear hp hk2 hx
                go_wp2_with fail
                exact ⟨⟨j + 1, HJL.out, by go_num, x, rfl, HE, HCj⟩, by have := HJL.out; simp [intOf]; omega⟩
            · have d2 : (tk == 2) = false := by simpa using hk2
              have HE := Lib.hid (HSK.out fun hh => absurd (HR.out.1 hh).2 hk2)
              clear hp hk2
              go_wp2_with fail
              exact ⟨⟨j + 1, HJL.out, by go_num, x, rfl, HE, HCj⟩, by have := HJL.out; simp [intOf]; omega⟩
          · have d1 : (tp == (k : Int)) = false := by simpa using hp
            have HE := Lib.hid (HSK.out fun hh => absurd (HR.out.1 hh).1 hp)
            clear hp
            go_wp2_with fail
            exact ⟨⟨j + 1, HJL.out, by go_num, x, rfl, HE, HCj⟩, by have := HJL.out; simp [intOf]; omega⟩
        · have hbj : decide ((j : Int) < (T.length : Int)) = false := by simpa using hjl
          obtain rfl : j = T.length := by omega
          have co : wr.cell? ⟨N, 1 + k, none⟩ = some (.bool (oth k)) := by rw [HN.out]; exact (cell_of_row _ _ (1 + k) _ _ _ HCj.out.blk).trans (HX.out.2.1 k HLT.out)
          have HS := Lib.hid (lowR_succ g oth k al)
          have HU := Lib.hid (show oth k = true → x = g k from fun ho => HTO.out.uniq (HG.out k HLT.out ho))
          obtain ⟨lw, hlw⟩ : ∃ z, z = lowR g oth k al := ⟨_, rfl⟩
          rw [← hlw] at HS ⊢
          clear hlw hj hjl HTO HC
          have HO := Lib.hid (show ∀ b, oth k = b → lowR g oth (k + 1) al = if b = true ∧ x < lw then x else lw from fun b hb => by
            rw [HS.out]
            cases b
            · rw [hb, if_neg (fun h => by cases h.1), if_neg (fun h => by cases h.1)]
            · rw [hb, ← HU.out hb])
          generalize oth k = ok at *
          clear HS HU
          cases ok
          · have HE := Lib.hid (HO.out false rfl)
            clear HO
            go_wp2_with fail
            exact ⟨⟨k + 1, HLT.out, by go_num, by rw [HE.out]; rfl, HCj⟩, by have := HLT.out; simp [intOf]; omega⟩
          · by_cases hfl : x < lw
            · have d1 : decide ((x : Int) < (lw : Int)) = true := by simp; omega
              have d1' : decide (x < lw) = true := by simpa using hfl
              have e1 := HO.out true rfl
              rw [if_pos ⟨rfl, hfl⟩] at e1
              have HE1 := Lib.hid e1
              clear e1 hfl HO
              go_wp2_with fail
              exact ⟨⟨k + 1, HLT.out, by go_num, by rw [HE1.out], HCj⟩, by have := HLT.out; simp [intOf]; omega⟩
            · have d1 : decide ((x : Int) < (lw : Int)) = false := by simp; omega
              have d1' : decide (x < lw) = false := by simpa using hfl
              have e1 := HO.out true rfl
              rw [if_neg (fun h => hfl h.2)] at e1
              have HE1 := Lib.hid e1
              clear e1 hfl HO
              go_wp2_with fail
              exact ⟨⟨k + 1, HLT.out, by go_num, by rw [HE1.out], HCj⟩, by have := HLT.out; simp [intOf]; omega⟩
    · have hbool : decide ((k : Int) < 64) = false := by simp; omega
      obtain rfl : k = 64 := by omega
      have HR := Lib.hid HC.out.bel
      clear HC hlt hk
      go_wp2_with fail
      go_ret
      exact ⟨by rw [← HAL.out]; rfl, HR.out⟩
end Go.Proofs.YtgjlcjbmcnofiaaDoor
