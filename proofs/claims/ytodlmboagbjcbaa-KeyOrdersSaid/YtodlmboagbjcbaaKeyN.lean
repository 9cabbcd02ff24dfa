/-
  What the reference's Last, Newest and Above return.
  Conditions: none.
-/
import Derived.Test.YtodlmboagbjcbaaKeyM
namespace Go.Proofs.Ytodlmboagbjcbaa
set_option linter.unusedVariables false
set_option linter.unusedSimpArgs false
open Go.RowKit
def okN (l : List (Int × Int)) (x : Int × Int) : Nat → Bool
  | 0 => true
  | k + 1 => okN l x k && (if h : k < l.length then !ltB x.1 x.2 l[k].1 l[k].2 else true)
theorem okN_succ (l : List (Int × Int)) (x : Int × Int) (k : Nat) (h : k < l.length) : okN l x (k + 1) = (okN l x k && !ltB x.1 x.2 l[k].1 l[k].2) := by rw [okN, dif_pos h]
theorem okN_iff (l : List (Int × Int)) (x : Int × Int) : ∀ k, k ≤ l.length → (okN l x k = true ↔ ∀ i (h : i < l.length), i < k → ¬ keyLt x l[i]) := by
  intro k
  induction k with
  | zero => intro _; exact ⟨fun _ i h hi => by omega, fun _ => rfl⟩
  | succ k ih =>
    intro hk
    rw [okN_succ l x k (by omega), Bool.and_eq_true, ih (by omega)]
    have e : (!ltB x.1 x.2 l[k].1 l[k].2) = true ↔ ¬ keyLt x l[k] := by
      rw [← ltB_iff]
      simp
    rw [e]
    constructor
    · rintro ⟨h1, h2⟩ i h hi
      by_cases hik : i = k
      · subst hik; exact h2
      · exact h1 i h (by omega)
    · intro h
      exact ⟨fun i h1 hi => h i h1 (by omega), h k (by omega) (by omega)⟩
theorem okN_best (l : List (Int × Int)) (i : Nat) (h : i < l.length) (ho : okN l l[i] l.length = true) : bestK l l.length = l[i] :=
  bestK_uniq l (by omega) ⟨i, h, rfl⟩ fun j hj => (okN_iff l _ l.length (Nat.le_refl _)).1 ho j hj hj
theorem okN_not (l : List (Int × Int)) (i : Nat) (h : i < l.length) (ho : okN l l[i] l.length = false) : l[i] ≠ bestK l l.length := by
  intro e
  have := (okN_iff l l[i] l.length (Nat.le_refl _)).2 (by rw [e]; exact (bestK_max l l.length (Nat.le_refl _)).1)
  rw [this] at ho
  exact Bool.noConfusion ho
theorem okN_none (l : List (Int × Int)) (h : ∀ j (hj : j < l.length), j < l.length → l[j] ≠ bestK l l.length) : l = [] := by
  cases l with
  | nil => rfl
  | cons x t =>
    obtain ⟨i, hi, _, e⟩ := (bestK_max (x :: t) (x :: t).length (Nat.le_refl _)).2 (by simp)
    exact absurd e (h i hi hi)
set_option maxRecDepth 100000 in
set_option maxHeartbeats 4000000 in
theorem rLast_any (l : List (Int × Int)) (ad : Option Addr) (cap : Nat) (w : World) (h : Reads w w.heap.size 2 ad l.length (keysV l)) (hl : l.length ≤ 1000000) : Calls Try.prog 36 #[.slice ad l.length cap] w fun e w' => e = .returned (.agg #[.int .u64 (bestK l l.length).1, .int .i64 (bestK l l.length).2]) ∧ Below w.heap.size w w' := by
  have HR := Lib.hid h
  have hA := heap_alloc_new w (.cells #[.int .u64 0, .int .i64 0] 56)
  have hb := ba (br w) (.cells #[.int .u64 0, .int .i64 0] 56)
  obtain ⟨y, hy⟩ : ∃ y, bestK l l.length = y := ⟨_, rfl⟩
  have HY := Lib.hid hy
  rw [hy]
  clear h hy
  obtain ⟨z1, z2⟩ := y
  go_enter Try.func36, Try.ntmps36
  go_wp2
  generalize w.alloc (.cells #[.int .u64 0, .int .i64 0] 56) = W at *
  go_loopw [3] (fun i wr => ∃ k : Nat, k ≤ l.length ∧ i = .int .i64 (k : Int) ∧ wr.heap[w.heap.size]? = some (.cells #[.int .u64 0, .int .i64 0] 56) ∧ Below w.heap.size w wr ∧ ∀ j (hj : j < l.length), j < k → l[j] ≠ bestK l l.length) (fun i _ => l.length - (intOf i).toNat)
  case atStart => exact ⟨0, by omega, rfl, hA, hb, fun j hj h => by omega⟩
  case round =>
    clear hA hb
    obtain ⟨k, hk, rfl, hA, hb, hn⟩ := hrel
    have HN := Lib.hid hn
    clear hn
    by_cases hlt : k < l.length
    · have hbool : decide ((k : Int) < (l.length : Int)) = true := by simpa using hlt
      have hki : (k : Int) < (l.length : Int) := by omega
      obtain ⟨g, o, rfl, hg, hc⟩ := HR.out.rowAt hlt (by omega)
      have hs0 := hc 0 _ (keysV_at l k hlt).1
      have hs1 := hc 1 _ (keysV_at l k hlt).2
      have HOb := Lib.hid (okN_best l k hlt)
      have HOn := Lib.hid (okN_not l k hlt)
      obtain ⟨x, hx⟩ : ∃ x, l[k] = x := ⟨_, rfl⟩
      have HX := Lib.hid hx
      rw [hx] at hs0 hs1 HOb HOn
      have HK := Lib.hid hlt
      have HK1 := Lib.hid (show k + 1 ≤ l.length from hlt)
      have HS := Lib.hid (And.intro hg (And.intro hs0 hs1))
      have HA := Lib.hid (And.intro hA hb)
      have hsz := hb.size
      clear hc hx hs0 hs1 hA hb
      obtain ⟨x1, x2⟩ := x
      simp only at HS
      have HSz := Lib.hid hsz
      clear hsz
      go_wp2
      obtain ⟨w3, rfl⟩ : ∃ w3, w3 = wr := ⟨_, rfl⟩
      go_loopw [4, 5] (fun ok q WS => ∃ p : Nat, p ≤ l.length ∧ q = .int .i64 (p : Int) ∧ ok = .bool (okN l (x1, x2) p) ∧ Below w3.heap.size w3 WS) (fun _ q _ => l.length - (intOf q).toNat)
      case atStart => exact ⟨0, by omega, rfl, rfl, br _⟩
      case round =>
        obtain ⟨p, hp, rfl, rfl, hbs⟩ := hrel
        by_cases hpl : p < l.length
        · have pbool : decide ((p : Int) < (l.length : Int)) = true := by simpa using hpl
          have hpi : (p : Int) < (l.length : Int) := by omega
          have hbw := HA.out.2.trans (hbs.mono HA.out.2.size)
          obtain ⟨g', o', eg, hg', hc'⟩ := HR.out.rowAt hpl (by omega)
          cases eg
          have hgs : g < wr.heap.size := Nat.lt_of_lt_of_le hg' hbw.size
          have s0 := Bel.cell ((hbw.cell (p := ⟨g, o + (k * 2 + 0), none⟩) hg').trans HS.out.2.1) hgs
          have s1 := Bel.cell ((hbw.cell (p := ⟨g, o + (k * 2 + 1), none⟩) hg').trans HS.out.2.2) hgs
          have r0 := Bel.cell ((hbw.cell (p := ⟨g, o + (p * 2 + 0), none⟩) hg').trans (hc' 0 _ (keysV_at l p hpl).1)) hgs
          have r1 := Bel.cell ((hbw.cell (p := ⟨g, o + (p * 2 + 1), none⟩) hg').trans (hc' 1 _ (keysV_at l p hpl).2)) hgs
          have HE := Lib.hid (okN_succ l (x1, x2) p hpl)
          have HP := Lib.hid (And.intro hpl (And.intro (show p + 1 ≤ l.length from hpl) hbs))
          obtain ⟨y, hy⟩ : ∃ y, l[p] = y := ⟨_, rfl⟩
          rw [hy] at r0 r1 HE
          obtain ⟨y1, y2⟩ := y
          simp only [Nat.add_zero, ← Nat.add_assoc] at r0 r1 s0 s1
          clear hc' hy hbs hbw hgs
          generalize okN l (x1, x2) p = b at *
          cases b with
          | true =>
            go_wp2_with fail
            refine wp_region_bel (by kernel_rfl) (by kernel_rfl) ?_
            repeat (go_big_quiet_step ((go_at_call 45; exact bel_call (rLess_any _ _ _ _ _))))
            refine wpQuiet_nil ?_
            intro w5 hw5
            obtain ⟨x5, rfl⟩ := hw5
            have HB5 := Lib.hid (bt HP.out.2.2 x5.prop)
            generalize x5.val = w5 at *
            clear s0 s1 r0 r1
            generalize ltB x1 x2 y1 y2 = c at *
            go_wp2
            exact ⟨⟨p + 1, HP.out.2.1, by go_num, by rw [HE.out]; rfl, HB5.out⟩, measI HP.out.1⟩
          | false =>
            go_wp2_with fail
            refine wp_region_bel (by kernel_rfl) (by kernel_rfl) ?_
            repeat (go_big_quiet_step (fail))
            refine wpQuiet_nil ?_
            intro w5 hw5
            obtain ⟨x5, rfl⟩ := hw5
            have HB5 := Lib.hid (bt HP.out.2.2 x5.prop)
            generalize x5.val = w5 at *
            clear s0 s1 r0 r1
            go_wp2
            exact ⟨⟨p + 1, HP.out.2.1, by go_num, by rw [HE.out]; rfl, HB5.out⟩, measI HP.out.1⟩
        · have pbool : decide ((p : Int) < (l.length : Int)) = false := by simpa using hpl
          obtain rfl : p = l.length := by omega
          have hbw := HA.out.2.trans (hbs.mono HA.out.2.size)
          have hA5 := (hbs.block _ (Array.getElem?_eq_some_iff.1 HA.out.1).1).trans HA.out.1
          obtain ⟨b, hbb⟩ : ∃ b, okN l (x1, x2) l.length = b := ⟨_, rfl⟩
          rw [hbb]
          rw [hbb] at HOb HOn
          cases b with
          | true =>
            have e5 := HY.out.symm.trans (HOb.out rfl)
            cases e5
            have s0 := (hbw.cell (p := ⟨g, o + (k * 2 + 0), none⟩) HS.out.1).trans HS.out.2.1
            have s1 := (hbw.cell (p := ⟨g, o + (k * 2 + 1), none⟩) HS.out.1).trans HS.out.2.2
            simp only [Nat.add_zero, ← Nat.add_assoc] at s0 s1
            have r0 : wr.cell? ⟨w.heap.size, 0, none⟩ = some (.int .u64 0) := cell_of_row _ _ 0 _ _ _ hA5
            have r1 : wr.cell? ⟨w.heap.size, 1, none⟩ = some (.int .i64 0) := cell_of_row _ _ 1 _ _ _ hA5
            have f0 : wr.frozen? ⟨w.heap.size, 0, none⟩ = false := frozen_of_row _ _ 0 _ _ hA5
            have f1 : wr.frozen? ⟨w.heap.size, 1, none⟩ = false := frozen_of_row _ _ 1 _ _ hA5
            have kk := setCell_block (setCell_block hA5 0 (.int .u64 z1)) 1 (.int .i64 z2)
            have hk8 : Kept (fun q => q = w.heap.size) wr ((wr.setCell ⟨w.heap.size, 0, none⟩ (.int .u64 z1)).setCell ⟨w.heap.size, 1, none⟩ (.int .i64 z2)) :=
              ((show Kept (fun q => q = w.heap.size) wr wr from Kept.of_below (br wr)).setCell (p := ⟨w.heap.size, 0, none⟩) rfl _).setCell (p := ⟨w.heap.size, 1, none⟩) rfl _
            have q0 : ((wr.setCell ⟨w.heap.size, 0, none⟩ (.int .u64 z1)).setCell ⟨w.heap.size, 1, none⟩ (.int .i64 z2)).cell? ⟨w.heap.size, 0, none⟩ = some (.int .u64 z1) := cell_of_row _ _ 0 _ _ _ kk
            have q1 : ((wr.setCell ⟨w.heap.size, 0, none⟩ (.int .u64 z1)).setCell ⟨w.heap.size, 1, none⟩ (.int .i64 z2)).cell? ⟨w.heap.size, 1, none⟩ = some (.int .i64 z2) := cell_of_row _ _ 1 _ _ _ kk
            have HZ := Lib.hid (And.intro q0 (And.intro q1 (hk8.out hbw hbw.size (by intro q hq; omega))))
            clear kk hk8 hA5 hbw q0 q1 hbs hbb
            go_wp2
            refine bodyPost_ret (v := .agg #[.int .u64 z1, .int .i64 z2]) (by simp [results, Try.results36, go_sem, HZ.out.1, HZ.out.2.1]) rfl ⟨rfl, HZ.out.2.2⟩
          | false =>
            have HH := Lib.hid (And.intro hA5 hbw)
            clear hA5 hbw hbs hbb
            go_wp2
            refine ⟨⟨k + 1, HK1.out, by go_num, HH.out.1, HH.out.2, fun j hj hjk => ?_⟩, measI HK.out⟩
            rcases Nat.lt_or_ge j k with hjk' | hjk'
            · exact HN.out j hj hjk'
            · have e : j = k := by omega
              subst e
              rw [HX.out]
              exact HOn.out rfl
    · have hbool : decide ((k : Int) < (l.length : Int)) = false := by simpa using hlt
      obtain rfl : k = l.length := by omega
      have e : (0, 0) = (z1, z2) := by
        rw [← HY.out, okN_none l HN.out]
        rfl
      cases e
      have f0 : wr.frozen? ⟨w.heap.size, 0, none⟩ = false := frozen_of_row _ _ 0 _ _ hA
      have f1 : wr.frozen? ⟨w.heap.size, 1, none⟩ = false := frozen_of_row _ _ 1 _ _ hA
      have r0 : wr.cell? ⟨w.heap.size, 0, none⟩ = some (.int .u64 0) := cell_of_row _ _ 0 _ _ _ hA
      have r1 : wr.cell? ⟨w.heap.size, 1, none⟩ = some (.int .i64 0) := cell_of_row _ _ 1 _ _ _ hA
      have kk := setCell_block (setCell_block hA 0 (.int .u64 0)) 1 (.int .i64 0)
      have hk8 : Kept (fun q => q = w.heap.size) wr ((wr.setCell ⟨w.heap.size, 0, none⟩ (.int .u64 0)).setCell ⟨w.heap.size, 1, none⟩ (.int .i64 0)) :=
        ((show Kept (fun q => q = w.heap.size) wr wr from Kept.of_below (br wr)).setCell (p := ⟨w.heap.size, 0, none⟩) rfl _).setCell (p := ⟨w.heap.size, 1, none⟩) rfl _
      have q0 : ((wr.setCell ⟨w.heap.size, 0, none⟩ (.int .u64 0)).setCell ⟨w.heap.size, 1, none⟩ (.int .i64 0)).cell? ⟨w.heap.size, 0, none⟩ = some (.int .u64 0) := cell_of_row _ _ 0 _ _ _ kk
      have q1 : ((wr.setCell ⟨w.heap.size, 0, none⟩ (.int .u64 0)).setCell ⟨w.heap.size, 1, none⟩ (.int .i64 0)).cell? ⟨w.heap.size, 1, none⟩ = some (.int .i64 0) := cell_of_row _ _ 1 _ _ _ kk
      have HZ := Lib.hid (And.intro q0 (And.intro q1 (hk8.out hb hb.size (by intro q hq; omega))))
      clear kk hk8 hA hb q0 q1
      go_wp2
      refine bodyPost_ret (v := .agg #[.int .u64 0, .int .i64 0]) (by simp [results, Try.results36, go_sem, HZ.out.1, HZ.out.2.1]) rfl ⟨rfl, HZ.out.2.2⟩
set_option maxRecDepth 100000 in
set_option maxHeartbeats 4000000 in
theorem rNewest_any (l : List (Int × Int)) (ad : Option Addr) (cap : Nat) (w : World) (h : Reads w w.heap.size 2 ad l.length (keysV l)) (hl : l.length ≤ 1000000) : Calls Try.prog 38 #[.slice ad l.length cap] w fun e w' => e = .returned (.agg #[.int .u64 (bestK l l.length).1, .int .i64 (bestK l l.length).2]) ∧ Below w.heap.size w w' := by
  have HR := Lib.hid h
  have hA := heap_alloc_new w (.cells #[.int .u64 0, .int .i64 0] 58)
  have hb := ba (br w) (.cells #[.int .u64 0, .int .i64 0] 58)
  obtain ⟨y, hy⟩ : ∃ y, bestK l l.length = y := ⟨_, rfl⟩
  have HY := Lib.hid hy
  rw [hy]
  clear h hy
  obtain ⟨z1, z2⟩ := y
  go_enter Try.func38, Try.ntmps38
  go_wp2
  generalize w.alloc (.cells #[.int .u64 0, .int .i64 0] 58) = W at *
  go_loopw [3] (fun i wr => ∃ k : Nat, k ≤ l.length ∧ i = .int .i64 (k : Int) ∧ wr.heap[w.heap.size]? = some (.cells #[.int .u64 0, .int .i64 0] 58) ∧ Below w.heap.size w wr ∧ ∀ j (hj : j < l.length), j < k → l[j] ≠ bestK l l.length) (fun i _ => l.length - (intOf i).toNat)
  case atStart => exact ⟨0, by omega, rfl, hA, hb, fun j hj h => by omega⟩
  case round =>
    clear hA hb
    obtain ⟨k, hk, rfl, hA, hb, hn⟩ := hrel
    have HN := Lib.hid hn
    clear hn
    by_cases hlt : k < l.length
    · have hbool : decide ((k : Int) < (l.length : Int)) = true := by simpa using hlt
      have hki : (k : Int) < (l.length : Int) := by omega
      obtain ⟨g, o, rfl, hg, hc⟩ := HR.out.rowAt hlt (by omega)
      have hs0 := hc 0 _ (keysV_at l k hlt).1
      have hs1 := hc 1 _ (keysV_at l k hlt).2
      have HOb := Lib.hid (okN_best l k hlt)
      have HOn := Lib.hid (okN_not l k hlt)
      obtain ⟨x, hx⟩ : ∃ x, l[k] = x := ⟨_, rfl⟩
      have HX := Lib.hid hx
      rw [hx] at hs0 hs1 HOb HOn
      have HK := Lib.hid hlt
      have HK1 := Lib.hid (show k + 1 ≤ l.length from hlt)
      have HS := Lib.hid (And.intro hg (And.intro hs0 hs1))
      have HA := Lib.hid (And.intro hA hb)
      have hsz := hb.size
      clear hc hx hs0 hs1 hA hb
      obtain ⟨x1, x2⟩ := x
      simp only at HS
      have HSz := Lib.hid hsz
      clear hsz
      go_wp2
      obtain ⟨w3, rfl⟩ : ∃ w3, w3 = wr := ⟨_, rfl⟩
      go_loopw [4, 5] (fun ok q WS => ∃ p : Nat, p ≤ l.length ∧ q = .int .i64 (p : Int) ∧ ok = .bool (okN l (x1, x2) p) ∧ Below w3.heap.size w3 WS) (fun _ q _ => l.length - (intOf q).toNat)
      case atStart => exact ⟨0, by omega, rfl, rfl, br _⟩
      case round =>
        obtain ⟨p, hp, rfl, rfl, hbs⟩ := hrel
        by_cases hpl : p < l.length
        · have pbool : decide ((p : Int) < (l.length : Int)) = true := by simpa using hpl
          have hpi : (p : Int) < (l.length : Int) := by omega
          have hbw := HA.out.2.trans (hbs.mono HA.out.2.size)
          obtain ⟨g', o', eg, hg', hc'⟩ := HR.out.rowAt hpl (by omega)
          cases eg
          have hgs : g < wr.heap.size := Nat.lt_of_lt_of_le hg' hbw.size
          have s0 := Bel.cell ((hbw.cell (p := ⟨g, o + (k * 2 + 0), none⟩) hg').trans HS.out.2.1) hgs
          have s1 := Bel.cell ((hbw.cell (p := ⟨g, o + (k * 2 + 1), none⟩) hg').trans HS.out.2.2) hgs
          have r0 := Bel.cell ((hbw.cell (p := ⟨g, o + (p * 2 + 0), none⟩) hg').trans (hc' 0 _ (keysV_at l p hpl).1)) hgs
          have r1 := Bel.cell ((hbw.cell (p := ⟨g, o + (p * 2 + 1), none⟩) hg').trans (hc' 1 _ (keysV_at l p hpl).2)) hgs
          have HE := Lib.hid (okN_succ l (x1, x2) p hpl)
          have HP := Lib.hid (And.intro hpl (And.intro (show p + 1 ≤ l.length from hpl) hbs))
          obtain ⟨y, hy⟩ : ∃ y, l[p] = y := ⟨_, rfl⟩
          rw [hy] at r0 r1 HE
          obtain ⟨y1, y2⟩ := y
          simp only [Nat.add_zero, ← Nat.add_assoc] at r0 r1 s0 s1
          clear hc' hy hbs hbw hgs
          generalize okN l (x1, x2) p = b at *
          cases b with
          | true =>
            go_wp2_with fail
            refine wp_region_bel (by kernel_rfl) (by kernel_rfl) ?_
            repeat (go_big_quiet_step ((go_at_call 54; exact bel_call (rCLess_any _ _ _ _ _))))
            refine wpQuiet_nil ?_
            intro w5 hw5
            obtain ⟨x5, rfl⟩ := hw5
            have HB5 := Lib.hid (bt HP.out.2.2 x5.prop)
            generalize x5.val = w5 at *
            clear s0 s1 r0 r1
            generalize ltB x1 x2 y1 y2 = c at *
            go_wp2
            exact ⟨⟨p + 1, HP.out.2.1, by go_num, by rw [HE.out]; rfl, HB5.out⟩, measI HP.out.1⟩
          | false =>
            go_wp2_with fail
            refine wp_region_bel (by kernel_rfl) (by kernel_rfl) ?_
            repeat (go_big_quiet_step (fail))
            refine wpQuiet_nil ?_
            intro w5 hw5
            obtain ⟨x5, rfl⟩ := hw5
            have HB5 := Lib.hid (bt HP.out.2.2 x5.prop)
            generalize x5.val = w5 at *
            clear s0 s1 r0 r1
            go_wp2
            exact ⟨⟨p + 1, HP.out.2.1, by go_num, by rw [HE.out]; rfl, HB5.out⟩, measI HP.out.1⟩
        · have pbool : decide ((p : Int) < (l.length : Int)) = false := by simpa using hpl
          obtain rfl : p = l.length := by omega
          have hbw := HA.out.2.trans (hbs.mono HA.out.2.size)
          have hA5 := (hbs.block _ (Array.getElem?_eq_some_iff.1 HA.out.1).1).trans HA.out.1
          obtain ⟨b, hbb⟩ : ∃ b, okN l (x1, x2) l.length = b := ⟨_, rfl⟩
          rw [hbb]
          rw [hbb] at HOb HOn
          cases b with
          | true =>
            have e5 := HY.out.symm.trans (HOb.out rfl)
            cases e5
            have s0 := (hbw.cell (p := ⟨g, o + (k * 2 + 0), none⟩) HS.out.1).trans HS.out.2.1
            have s1 := (hbw.cell (p := ⟨g, o + (k * 2 + 1), none⟩) HS.out.1).trans HS.out.2.2
            simp only [Nat.add_zero, ← Nat.add_assoc] at s0 s1
            have r0 : wr.cell? ⟨w.heap.size, 0, none⟩ = some (.int .u64 0) := cell_of_row _ _ 0 _ _ _ hA5
            have r1 : wr.cell? ⟨w.heap.size, 1, none⟩ = some (.int .i64 0) := cell_of_row _ _ 1 _ _ _ hA5
            have f0 : wr.frozen? ⟨w.heap.size, 0, none⟩ = false := frozen_of_row _ _ 0 _ _ hA5
            have f1 : wr.frozen? ⟨w.heap.size, 1, none⟩ = false := frozen_of_row _ _ 1 _ _ hA5
            have kk := setCell_block (setCell_block hA5 0 (.int .u64 z1)) 1 (.int .i64 z2)
            have hk8 : Kept (fun q => q = w.heap.size) wr ((wr.setCell ⟨w.heap.size, 0, none⟩ (.int .u64 z1)).setCell ⟨w.heap.size, 1, none⟩ (.int .i64 z2)) :=
              ((show Kept (fun q => q = w.heap.size) wr wr from Kept.of_below (br wr)).setCell (p := ⟨w.heap.size, 0, none⟩) rfl _).setCell (p := ⟨w.heap.size, 1, none⟩) rfl _
            have q0 : ((wr.setCell ⟨w.heap.size, 0, none⟩ (.int .u64 z1)).setCell ⟨w.heap.size, 1, none⟩ (.int .i64 z2)).cell? ⟨w.heap.size, 0, none⟩ = some (.int .u64 z1) := cell_of_row _ _ 0 _ _ _ kk
            have q1 : ((wr.setCell ⟨w.heap.size, 0, none⟩ (.int .u64 z1)).setCell ⟨w.heap.size, 1, none⟩ (.int .i64 z2)).cell? ⟨w.heap.size, 1, none⟩ = some (.int .i64 z2) := cell_of_row _ _ 1 _ _ _ kk
            have HZ := Lib.hid (And.intro q0 (And.intro q1 (hk8.out hbw hbw.size (by intro q hq; omega))))
            clear kk hk8 hA5 hbw q0 q1 hbs hbb
            go_wp2
            refine bodyPost_ret (v := .agg #[.int .u64 z1, .int .i64 z2]) (by simp [results, Try.results38, go_sem, HZ.out.1, HZ.out.2.1]) rfl ⟨rfl, HZ.out.2.2⟩
          | false =>
            have HH := Lib.hid (And.intro hA5 hbw)
            clear hA5 hbw hbs hbb
            go_wp2
            refine ⟨⟨k + 1, HK1.out, by go_num, HH.out.1, HH.out.2, fun j hj hjk => ?_⟩, measI HK.out⟩
            rcases Nat.lt_or_ge j k with hjk' | hjk'
            · exact HN.out j hj hjk'
            · have e : j = k := by omega
              subst e
              rw [HX.out]
              exact HOn.out rfl
    · have hbool : decide ((k : Int) < (l.length : Int)) = false := by simpa using hlt
      obtain rfl : k = l.length := by omega
      have e : (0, 0) = (z1, z2) := by
        rw [← HY.out, okN_none l HN.out]
        rfl
      cases e
      have f0 : wr.frozen? ⟨w.heap.size, 0, none⟩ = false := frozen_of_row _ _ 0 _ _ hA
      have f1 : wr.frozen? ⟨w.heap.size, 1, none⟩ = false := frozen_of_row _ _ 1 _ _ hA
      have r0 : wr.cell? ⟨w.heap.size, 0, none⟩ = some (.int .u64 0) := cell_of_row _ _ 0 _ _ _ hA
      have r1 : wr.cell? ⟨w.heap.size, 1, none⟩ = some (.int .i64 0) := cell_of_row _ _ 1 _ _ _ hA
      have kk := setCell_block (setCell_block hA 0 (.int .u64 0)) 1 (.int .i64 0)
      have hk8 : Kept (fun q => q = w.heap.size) wr ((wr.setCell ⟨w.heap.size, 0, none⟩ (.int .u64 0)).setCell ⟨w.heap.size, 1, none⟩ (.int .i64 0)) :=
        ((show Kept (fun q => q = w.heap.size) wr wr from Kept.of_below (br wr)).setCell (p := ⟨w.heap.size, 0, none⟩) rfl _).setCell (p := ⟨w.heap.size, 1, none⟩) rfl _
      have q0 : ((wr.setCell ⟨w.heap.size, 0, none⟩ (.int .u64 0)).setCell ⟨w.heap.size, 1, none⟩ (.int .i64 0)).cell? ⟨w.heap.size, 0, none⟩ = some (.int .u64 0) := cell_of_row _ _ 0 _ _ _ kk
      have q1 : ((wr.setCell ⟨w.heap.size, 0, none⟩ (.int .u64 0)).setCell ⟨w.heap.size, 1, none⟩ (.int .i64 0)).cell? ⟨w.heap.size, 1, none⟩ = some (.int .i64 0) := cell_of_row _ _ 1 _ _ _ kk
      have HZ := Lib.hid (And.intro q0 (And.intro q1 (hk8.out hb hb.size (by intro q hq; omega))))
      clear kk hk8 hA hb q0 q1
      go_wp2
      refine bodyPost_ret (v := .agg #[.int .u64 0, .int .i64 0]) (by simp [results, Try.results38, go_sem, HZ.out.1, HZ.out.2.1]) rfl ⟨rfl, HZ.out.2.2⟩
theorem bestU_step (l : List Int) (hx : ∀ x ∈ l, 0 ≤ x ∧ x ≤ 18446744073709551615) (k : Nat) (h : k < l.length) : bestU l (k + 1) = if bestU l k < l[k] then l[k] else bestU l k := by
  rw [bestU_succ l k h]
  by_cases hk : k = 0
  · subst hk
    rw [if_pos (.inl rfl)]
    have := (hx _ (List.getElem_mem h)).1
    show l[0] = if 0 < l[0] then l[0] else 0
    split
    · rfl
    · omega
  · by_cases hc : bestU l k < l[k]
    · rw [if_pos hc, if_pos]
      refine .inr ?_
      rcases cmpZ_vals l[k] (bestU l k) with ⟨e, h2⟩ | ⟨e, h2⟩ | ⟨e, h2⟩
      · omega
      · omega
      · rw [e]; omega
    · rw [if_neg hc, if_neg]
      rintro (h1 | h1)
      · exact hk h1
      · rcases cmpZ_vals l[k] (bestU l k) with ⟨e, h2⟩ | ⟨e, h2⟩ | ⟨e, h2⟩
        · rw [e] at h1; omega
        · rw [e] at h1; omega
        · omega
set_option maxRecDepth 100000 in
set_option maxHeartbeats 2000000 in
theorem rAbove_any (l : List Int) (ad : Option Addr) (cap : Nat) (w : World) (h : Reads w w.heap.size 1 ad l.length (l.map fun x => .int .u64 x)) (hl : l.length ≤ 1000000) (hx : ∀ x ∈ l, 0 ≤ x ∧ x ≤ 18446744073709551615) : Calls Try.prog 39 #[.slice ad l.length cap] w fun e w' => e = .returned (.int .u64 (sumU (bestU l l.length))) ∧ w = w' := by
  have HR := Lib.hid h
  have HB := Lib.hid (bestU_step l hx)
  have H0 := Lib.hid (show bestU l 0 = 0 from rfl)
  have HI := Lib.hid (bestU_in l hx l.length (Nat.le_refl _))
  obtain ⟨v, hv⟩ : ∃ v, v = sumU (bestU l l.length) := ⟨_, rfl⟩
  rw [← hv]
  have HV := Lib.hid hv
  clear h hx hv
  go_enter Try.func39, Try.ntmps39
  go_wp2
  go_loopw [3, 4] (fun b i wr => ∃ k : Nat, k ≤ l.length ∧ i = .int .i64 (k : Int) ∧ b = .int .u64 (bestU l k) ∧ w = wr) (fun _ i _ => l.length - (intOf i).toNat)
  case atStart => exact ⟨0, by omega, rfl, by rw [H0.out], rfl⟩
  case round =>
    obtain ⟨k, hk, rfl, rfl, rfl⟩ := hrel
    by_cases hlt : k < l.length
    · have hbool : decide ((k : Int) < (l.length : Int)) = true := by simpa using hlt
      have hki : (k : Int) < (l.length : Int) := by omega
      obtain ⟨g, o, rfl, hg, hc⟩ := HR.out.rowAt hlt (by omega)
      have hs := HB.out k hlt
      have HK := Lib.hid hlt
      have HK1 := Lib.hid (show k + 1 ≤ l.length from hlt)
      have s0 : w.cell? ⟨g, o + k, none⟩ = some (.int .u64 l[k]) := by
        have := hc 0 (.int .u64 l[k]) (by rw [Nat.mul_one, Nat.add_zero, List.getElem?_map, List.getElem?_eq_getElem hlt]; rfl)
        simpa using this
      generalize l[k] = x at *
      generalize bestU l k = y at *
      clear hc
      by_cases hc : y < x
      · have d2 : decide (y < x) = true := by simpa using hc
        rw [if_pos hc] at hs
        have HE := Lib.hid hs
        clear hs hc
        go_wp2
        exact ⟨⟨k + 1, HK1.out, by go_num, by rw [HE.out], trivial⟩, measI HK.out⟩
      · have d2 : decide (y < x) = false := by simpa using hc
        rw [if_neg hc] at hs
        have HE := Lib.hid hs
        clear hs hc
        go_wp2
        exact ⟨⟨k + 1, HK1.out, by go_num, by rw [HE.out], trivial⟩, measI HK.out⟩
    · have hbool : decide ((k : Int) < (l.length : Int)) = false := by simpa using hlt
      obtain rfl : k = l.length := by omega
      obtain ⟨b0, b1⟩ := HI.out
      have hv := HV.out
      generalize bestU l l.length = y at *
      by_cases hy : y = 18446744073709551615
      · subst hy
        obtain rfl : v = 18446744073709551615 := by rw [hv]; rfl
        clear hv
        go_wp2
        go_ret
        exact ⟨rfl, rfl⟩
      · have d2 : (y == 18446744073709551615) = false := by simpa using hy
        obtain rfl : v = y + 1 := by rw [hv]; unfold sumU; rw [if_neg hy]
        have e2 : IntKind.u64.wrap (y + 1) = y + 1 := by rw [IntKind.wrap_u64]; omega
        clear hv hy
        go_wp2
        go_ret
        exact ⟨rfl, rfl⟩
end Go.Proofs.Ytodlmboagbjcbaa
