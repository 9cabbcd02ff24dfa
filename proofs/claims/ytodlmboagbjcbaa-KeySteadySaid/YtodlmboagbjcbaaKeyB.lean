/-
  What the key's functions return: the greatest of some.
  Conditions: none.
-/
import Derived.Test.YtodlmboagbjcbaaKeyA
import Derived.Test.YtodlmboagbjcbaaStreamG
namespace Go.Proofs.Ytodlmboagbjcbaa
set_option linter.unusedVariables false
set_option linter.unusedSimpArgs false
open Go.RowKit
theorem Reads.rowAt {w : World} {B s n : Nat} {ad : Option Addr} {xs : List Value} (h : Reads w B s ad n xs) {k : Nat} (hk : k < n) (hs : 0 < s) : ∃ g o, ad = some ⟨g, o, none⟩ ∧ g < B ∧ ∀ i u, xs[k * s + i]? = some u → w.cell? ⟨g, o + (k * s + i), none⟩ = some u := by
  obtain ⟨⟨g, o, sp⟩, rfl, hb, hc⟩ := h.2 (by omega)
  have hl : 0 < xs.length := by rw [h.1]; exact Nat.mul_pos (by omega) hs
  have h0 := hc 0 xs[0] (List.getElem?_eq_getElem hl)
  have hsp : sp = none := by
    have := World.cell?_spot h0
    simpa [Addr.add] using this
  subst hsp
  refine ⟨g, o, rfl, hb, fun i u hu => ?_⟩
  have := hc _ u hu
  rw [← this]
  congr 1
  unfold Addr.add
  split <;> simp_all
theorem measI {n k : Nat} (h : k < n) : n - (intOf (.int .i64 ((k : Int) + 1))).toNat < n - (intOf (.int .i64 (k : Int))).toNat := by
  show n - ((k : Int) + 1).toNat < n - (k : Int).toNat
  omega
def keysV (l : List (Int × Int)) : List Value := l.flatMap fun x => [.int .u64 x.1, .int .i64 x.2]
theorem keysV_len (l : List (Int × Int)) : (keysV l).length = l.length * 2 := by
  unfold keysV
  induction l with
  | nil => rfl
  | cons x l ih => rw [List.flatMap_cons, List.length_append, ih]; simp; omega
theorem keysV_at : ∀ (l : List (Int × Int)) (k : Nat) (h : k < l.length), (keysV l)[k * 2 + 0]? = some (.int .u64 l[k].1) ∧ (keysV l)[k * 2 + 1]? = some (.int .i64 l[k].2)
  | [], k, h => absurd h (by simp)
  | x :: l, 0, _ => ⟨rfl, rfl⟩
  | x :: l, k + 1, h => by
    have := keysV_at l k (by simpa using h)
    rw [show (k + 1) * 2 + 0 = 2 + (k * 2 + 0) by omega, show (k + 1) * 2 + 1 = 2 + (k * 2 + 1) by omega]
    unfold keysV at this ⊢
    rw [List.flatMap_cons]
    exact ⟨by rw [List.getElem?_append_right (by simp)]; simpa using this.1, by rw [List.getElem?_append_right (by simp)]; simpa using this.2⟩
/-- the best of the first k -/
def bestK (l : List (Int × Int)) : Nat → Int × Int
  | 0 => (0, 0)
  | k + 1 => if h : k < l.length then (if k = 0 ∨ 0 < keyZ l[k].1 l[k].2 (bestK l k).1 (bestK l k).2 then l[k] else bestK l k) else bestK l k
theorem bestK_succ (l : List (Int × Int)) (k : Nat) (h : k < l.length) : bestK l (k + 1) = if k = 0 ∨ 0 < keyZ l[k].1 l[k].2 (bestK l k).1 (bestK l k).2 then l[k] else bestK l k := by rw [bestK, dif_pos h]
def bestU (l : List Int) : Nat → Int
  | 0 => 0
  | k + 1 => if h : k < l.length then (if k = 0 ∨ 0 < cmpZ l[k] (bestU l k) then l[k] else bestU l k) else bestU l k
theorem bestU_succ (l : List Int) (k : Nat) (h : k < l.length) : bestU l (k + 1) = if k = 0 ∨ 0 < cmpZ l[k] (bestU l k) then l[k] else bestU l k := by rw [bestU, dif_pos h]
set_option maxRecDepth 100000 in
set_option maxHeartbeats 2000000 in
theorem greatK_any (l : List (Int × Int)) (ad : Option Addr) (cap : Nat) (w : World) (h : Reads w w.heap.size 2 ad l.length (keysV l)) (hl : l.length ≤ 1000000) : Calls Try.prog 50 #[.func (.func 29) #[] #[], .slice ad l.length cap] w fun e w' => e = .returned (.agg #[.int .u64 (bestK l l.length).1, .int .i64 (bestK l l.length).2]) ∧ Below w.heap.size w w' := by
  have HR := Lib.hid h
  have HB := Lib.hid (bestK_succ l)
  have hA := heap_alloc2_old w (.cells #[.int .u64 0, .int .i64 0] 56) (.cells #[.int .u64 0, .int .i64 0] 56)
  have hB := heap_alloc2_new w (.cells #[.int .u64 0, .int .i64 0] 56) (.cells #[.int .u64 0, .int .i64 0] 56)
  have hb := ba (ba (br w) (.cells #[.int .u64 0, .int .i64 0] 56)) (.cells #[.int .u64 0, .int .i64 0] 56)
  have h0 : bestK l 0 = (0, 0) := rfl
  have H0 := Lib.hid h0
  clear h h0
  go_enter Try.func50, Try.ntmps50
  go_wp2
  generalize (w.alloc (.cells #[.int .u64 0, .int .i64 0] 56)).alloc (.cells #[.int .u64 0, .int .i64 0] 56) = W at *
  go_loopw [10] (fun i wr => ∃ k : Nat, k ≤ l.length ∧ i = .int .i64 (k : Int) ∧ wr.heap[w.heap.size + 1]? = some (.cells #[.int .u64 (bestK l k).1, .int .i64 (bestK l k).2] 56) ∧ wr.heap[w.heap.size]? = some (.cells #[.int .u64 0, .int .i64 0] 56) ∧ Below w.heap.size w wr) (fun i _ => l.length - (intOf i).toNat)
  case atStart => exact ⟨0, by omega, rfl, by rw [H0.out]; exact hB, hA, hb⟩
  case round =>
    clear hA hB hb
    obtain ⟨k, hk, rfl, hB, hA, hb⟩ := hrel
    by_cases hlt : k < l.length
    · have hbool : decide ((k : Int) < (l.length : Int)) = true := by simpa using hlt
      have hki : (k : Int) < (l.length : Int) := by omega
      obtain ⟨g, o, rfl, hg, hc⟩ := HR.out.rowAt hlt (by omega)
      have hs := HB.out k hlt
      have HK := Lib.hid hlt
      have HK1 := Lib.hid (show k + 1 ≤ l.length from hlt)
      have s0 : wr.cell? ⟨g, o + k * 2, none⟩ = some (.int .u64 l[k].1) := (hb.cell (p := ⟨g, o + k * 2, none⟩) hg).trans (hc 0 _ (keysV_at l k hlt).1)
      have s1 : wr.cell? ⟨g, o + k * 2 + 1, none⟩ = some (.int .i64 l[k].2) := (hb.cell (p := ⟨g, o + k * 2 + 1, none⟩) hg).trans (hc 1 _ (keysV_at l k hlt).2)
      generalize l[k] = x at *
      generalize hbk : bestK l k = y at *
      obtain ⟨x1, x2⟩ := x
      obtain ⟨y1, y2⟩ := y
      simp only at *
      have HS := Lib.hid hs
      have b0 : wr.cell? ⟨w.heap.size + 1, 0, none⟩ = some (.int .u64 y1) := cell_of_row _ _ 0 _ _ _ hB
      have b1 : wr.cell? ⟨w.heap.size + 1, 1, none⟩ = some (.int .i64 y2) := cell_of_row _ _ 1 _ _ _ hB
      have hbx := ba (br wr) (.cells #[.int .u64 x1, .int .i64 x2] 56)
      have HN := Lib.hid (And.intro hB (And.intro hA hb))
      clear hc hbk hs
      by_cases hk0 : k = 0
      · subst hk0
        have e5 := HS.out
        rw [if_pos (.inl rfl)] at e5
        rw [Nat.zero_mul, Nat.add_zero] at s0 s1
        have hn := heap_alloc_new wr (.cells #[.int .u64 x1, .int .i64 x2] 56)
        have HX := Lib.hid (And.intro hn (And.intro ((hbx.block _ (Array.getElem?_eq_some_iff.1 hB).1).trans hB) (And.intro ((hbx.block _ (Array.getElem?_eq_some_iff.1 hA).1).trans hA) (hb.trans (hbx.mono hb.size)))))
        have HE := Lib.hid e5
        clear hn hbx hA hB hb e5
        go_upto_region 5 with (fail)
        clear b0 b1 s0 s1
        generalize wr.alloc (.cells #[.int .u64 x1, .int .i64 x2] 56) = w5 at *
        have x0 : w5.cell? ⟨wr.heap.size, 0, none⟩ = some (.int .u64 x1) := cell_of_row _ _ 0 _ _ _ HX.out.1
        have x1' : w5.cell? ⟨wr.heap.size, 1, none⟩ = some (.int .i64 x2) := cell_of_row _ _ 1 _ _ _ HX.out.1
        have b0 : w5.cell? ⟨w.heap.size + 1, 0, none⟩ = some (.int .u64 y1) := cell_of_row _ _ 0 _ _ _ HX.out.2.1
        have b1 : w5.cell? ⟨w.heap.size + 1, 1, none⟩ = some (.int .i64 y2) := cell_of_row _ _ 1 _ _ _ HX.out.2.1
        have f0 : w5.frozen? ⟨w.heap.size + 1, 0, none⟩ = false := frozen_of_row _ _ 0 _ _ HX.out.2.1
        have f1 : w5.frozen? ⟨w.heap.size + 1, 1, none⟩ = false := frozen_of_row _ _ 1 _ _ HX.out.2.1
        have kk := setCell_block (setCell_block HX.out.2.1 0 (.int .u64 x1)) 1 (.int .i64 x2)
        have hk8 : Kept (fun q => q = w.heap.size + 1) w5 ((w5.setCell ⟨w.heap.size + 1, 0, none⟩ (.int .u64 x1)).setCell ⟨w.heap.size + 1, 1, none⟩ (.int .i64 x2)) :=
          ((show Kept (fun q => q = w.heap.size + 1) w5 w5 from Kept.of_below (br w5)).setCell (p := ⟨w.heap.size + 1, 0, none⟩) rfl _).setCell (p := ⟨w.heap.size + 1, 1, none⟩) rfl _
        have HZ := Lib.hid (And.intro kk (And.intro (hk8.keep HX.out.2.2.1 (by omega)) (hk8.out HX.out.2.2.2 HX.out.2.2.2.size (by intro q hq; omega))))
        clear kk hk8
        go_wp2
        exact ⟨⟨1, HK1.out, by go_num, by rw [HE.out]; exact HZ.out.1, HZ.out.2.1, HZ.out.2.2⟩, measI (k := 0) HK.out⟩
      · have d1 : ((k : Int) == 0) = false := by simpa using hk0
        have hn := heap_alloc_new wr (.cells #[.int .u64 x1, .int .i64 x2] 56)
        have HX := Lib.hid (And.intro hn (And.intro ((hbx.block _ (Array.getElem?_eq_some_iff.1 hB).1).trans hB) (And.intro ((hbx.block _ (Array.getElem?_eq_some_iff.1 hA).1).trans hA) (hb.trans (hbx.mono hb.size)))))
        clear hn hbx hA hB hb
        go_upto_region 5 with (fail)
        clear b0 b1 s0 s1
        generalize wr.alloc (.cells #[.int .u64 x1, .int .i64 x2] 56) = w6 at *
        have x0 : w6.cell? ⟨wr.heap.size, 0, none⟩ = some (.int .u64 x1) := cell_of_row _ _ 0 _ _ _ HX.out.1
        have x1' : w6.cell? ⟨wr.heap.size, 1, none⟩ = some (.int .i64 x2) := cell_of_row _ _ 1 _ _ _ HX.out.1
        have b0 : w6.cell? ⟨w.heap.size + 1, 0, none⟩ = some (.int .u64 y1) := cell_of_row _ _ 0 _ _ _ HX.out.2.1
        have b1 : w6.cell? ⟨w.heap.size + 1, 1, none⟩ = some (.int .i64 y2) := cell_of_row _ _ 1 _ _ _ HX.out.2.1
        go_wp2_with fail
        refine (kCmp_any x1 x2 y1 y2 _).mono ?_
        rintro e w5 ⟨rfl, hb5⟩
        have hX5 := (hb5.block _ (Array.getElem?_eq_some_iff.1 HX.out.1).1).trans HX.out.1
        have hB5 := (hb5.block _ (Array.getElem?_eq_some_iff.1 HX.out.2.1).1).trans HX.out.2.1
        have hA5 := (hb5.block _ (Array.getElem?_eq_some_iff.1 HX.out.2.2.1).1).trans HX.out.2.2.1
        have hbw5 := HX.out.2.2.2.trans (hb5.mono HX.out.2.2.2.size)
        clear b0 b1 x0 x1' hb5
        obtain ⟨v, hv⟩ : ∃ v, keyZ x1 x2 y1 y2 = v := ⟨_, rfl⟩
        rw [hv]
        have e5 := HS.out
        rw [hv] at e5
        clear hv
        by_cases hv0 : 0 < v
        · rw [if_pos (.inr hv0)] at e5
          have d2 : decide (0 < v) = true := by simpa using hv0
          have x0 : w5.cell? ⟨wr.heap.size, 0, none⟩ = some (.int .u64 x1) := cell_of_row _ _ 0 _ _ _ hX5
          have x1' : w5.cell? ⟨wr.heap.size, 1, none⟩ = some (.int .i64 x2) := cell_of_row _ _ 1 _ _ _ hX5
          have b0 : w5.cell? ⟨w.heap.size + 1, 0, none⟩ = some (.int .u64 y1) := cell_of_row _ _ 0 _ _ _ hB5
          have b1 : w5.cell? ⟨w.heap.size + 1, 1, none⟩ = some (.int .i64 y2) := cell_of_row _ _ 1 _ _ _ hB5
          have f0 : w5.frozen? ⟨w.heap.size + 1, 0, none⟩ = false := frozen_of_row _ _ 0 _ _ hB5
          have f1 : w5.frozen? ⟨w.heap.size + 1, 1, none⟩ = false := frozen_of_row _ _ 1 _ _ hB5
          have kk := setCell_block (setCell_block hB5 0 (.int .u64 x1)) 1 (.int .i64 x2)
          have hk8 : Kept (fun q => q = w.heap.size + 1) w5 ((w5.setCell ⟨w.heap.size + 1, 0, none⟩ (.int .u64 x1)).setCell ⟨w.heap.size + 1, 1, none⟩ (.int .i64 x2)) :=
            ((show Kept (fun q => q = w.heap.size + 1) w5 w5 from Kept.of_below (br w5)).setCell (p := ⟨w.heap.size + 1, 0, none⟩) rfl _).setCell (p := ⟨w.heap.size + 1, 1, none⟩) rfl _
          have HZ := Lib.hid (And.intro kk (And.intro (hk8.keep hA5 (by omega)) (hk8.out hbw5 hbw5.size (by intro q hq; omega))))
          have HE := Lib.hid e5
          clear kk hk8 e5 hA5 hB5 hX5 hbw5
          go_wp2
          exact ⟨⟨k + 1, HK1.out, by go_num, by rw [HE.out]; exact HZ.out.1, HZ.out.2.1, HZ.out.2.2⟩, measI HK.out⟩
        · rw [if_neg (by omega)] at e5
          have d2 : decide (0 < v) = false := by simpa using hv0
          have HZ := Lib.hid (And.intro hB5 (And.intro hA5 hbw5))
          have HE := Lib.hid e5
          clear e5 hA5 hB5 hX5 hbw5
          go_wp2
          exact ⟨⟨k + 1, HK1.out, by go_num, by rw [HE.out]; exact HZ.out.1, HZ.out.2.1, HZ.out.2.2⟩, measI HK.out⟩
    · have hbool : decide ((k : Int) < (l.length : Int)) = false := by simpa using hlt
      obtain rfl : k = l.length := by omega
      obtain ⟨y1, y2, hy⟩ : ∃ y1 y2, bestK l l.length = (y1, y2) := ⟨_, _, rfl⟩
      rw [hy] at hB
      have HY := Lib.hid hy
      clear hy
      have b0 : wr.cell? ⟨w.heap.size + 1, 0, none⟩ = some (.int .u64 y1) := cell_of_row _ _ 0 _ _ _ hB
      have b1 : wr.cell? ⟨w.heap.size + 1, 1, none⟩ = some (.int .i64 y2) := cell_of_row _ _ 1 _ _ _ hB
      have r0 : wr.cell? ⟨w.heap.size, 0, none⟩ = some (.int .u64 0) := cell_of_row _ _ 0 _ _ _ hA
      have r1 : wr.cell? ⟨w.heap.size, 1, none⟩ = some (.int .i64 0) := cell_of_row _ _ 1 _ _ _ hA
      have f0 : wr.frozen? ⟨w.heap.size, 0, none⟩ = false := frozen_of_row _ _ 0 _ _ hA
      have f1 : wr.frozen? ⟨w.heap.size, 1, none⟩ = false := frozen_of_row _ _ 1 _ _ hA
      have kk := setCell_block (setCell_block hA 0 (.int .u64 y1)) 1 (.int .i64 y2)
      have hk8 : Kept (fun q => q = w.heap.size) wr ((wr.setCell ⟨w.heap.size, 0, none⟩ (.int .u64 y1)).setCell ⟨w.heap.size, 1, none⟩ (.int .i64 y2)) :=
        ((show Kept (fun q => q = w.heap.size) wr wr from Kept.of_below (br wr)).setCell (p := ⟨w.heap.size, 0, none⟩) rfl _).setCell (p := ⟨w.heap.size, 1, none⟩) rfl _
      have q0 : ((wr.setCell ⟨w.heap.size, 0, none⟩ (.int .u64 y1)).setCell ⟨w.heap.size, 1, none⟩ (.int .i64 y2)).cell? ⟨w.heap.size, 0, none⟩ = some (.int .u64 y1) := cell_of_row _ _ 0 _ _ _ kk
      have q1 : ((wr.setCell ⟨w.heap.size, 0, none⟩ (.int .u64 y1)).setCell ⟨w.heap.size, 1, none⟩ (.int .i64 y2)).cell? ⟨w.heap.size, 1, none⟩ = some (.int .i64 y2) := cell_of_row _ _ 1 _ _ _ kk
      have HZ := Lib.hid (And.intro q0 (And.intro q1 (hk8.out hb hb.size (by intro q hq; omega))))
      clear kk hk8 hA hB hb q0 q1
      go_wp2
      refine bodyPost_ret (v := .agg #[.int .u64 y1, .int .i64 y2]) (by simp [results, Try.results50, go_sem, HZ.out.1, HZ.out.2.1]) rfl ⟨by rw [HY.out], HZ.out.2.2⟩
set_option maxRecDepth 100000 in
set_option maxHeartbeats 2000000 in
theorem greatC_any (l : List (Int × Int)) (ad : Option Addr) (cap : Nat) (w : World) (h : Reads w w.heap.size 2 ad l.length (keysV l)) (hl : l.length ≤ 1000000) : Calls Try.prog 55 #[.func (.func 30) #[] #[], .slice ad l.length cap] w fun e w' => e = .returned (.agg #[.int .u64 (bestK l l.length).1, .int .i64 (bestK l l.length).2]) ∧ Below w.heap.size w w' := by
  have HR := Lib.hid h
  have HB := Lib.hid (bestK_succ l)
  have hA := heap_alloc2_old w (.cells #[.int .u64 0, .int .i64 0] 58) (.cells #[.int .u64 0, .int .i64 0] 58)
  have hB := heap_alloc2_new w (.cells #[.int .u64 0, .int .i64 0] 58) (.cells #[.int .u64 0, .int .i64 0] 58)
  have hb := ba (ba (br w) (.cells #[.int .u64 0, .int .i64 0] 58)) (.cells #[.int .u64 0, .int .i64 0] 58)
  have h0 : bestK l 0 = (0, 0) := rfl
  have H0 := Lib.hid h0
  clear h h0
  go_enter Try.func55, Try.ntmps55
  go_wp2
  generalize (w.alloc (.cells #[.int .u64 0, .int .i64 0] 58)).alloc (.cells #[.int .u64 0, .int .i64 0] 58) = W at *
  go_loopw [10] (fun i wr => ∃ k : Nat, k ≤ l.length ∧ i = .int .i64 (k : Int) ∧ wr.heap[w.heap.size + 1]? = some (.cells #[.int .u64 (bestK l k).1, .int .i64 (bestK l k).2] 58) ∧ wr.heap[w.heap.size]? = some (.cells #[.int .u64 0, .int .i64 0] 58) ∧ Below w.heap.size w wr) (fun i _ => l.length - (intOf i).toNat)
  case atStart => exact ⟨0, by omega, rfl, by rw [H0.out]; exact hB, hA, hb⟩
  case round =>
    clear hA hB hb
    obtain ⟨k, hk, rfl, hB, hA, hb⟩ := hrel
    by_cases hlt : k < l.length
    · have hbool : decide ((k : Int) < (l.length : Int)) = true := by simpa using hlt
      have hki : (k : Int) < (l.length : Int) := by omega
      obtain ⟨g, o, rfl, hg, hc⟩ := HR.out.rowAt hlt (by omega)
      have hs := HB.out k hlt
      have HK := Lib.hid hlt
      have HK1 := Lib.hid (show k + 1 ≤ l.length from hlt)
      have s0 : wr.cell? ⟨g, o + k * 2, none⟩ = some (.int .u64 l[k].1) := (hb.cell (p := ⟨g, o + k * 2, none⟩) hg).trans (hc 0 _ (keysV_at l k hlt).1)
      have s1 : wr.cell? ⟨g, o + k * 2 + 1, none⟩ = some (.int .i64 l[k].2) := (hb.cell (p := ⟨g, o + k * 2 + 1, none⟩) hg).trans (hc 1 _ (keysV_at l k hlt).2)
      generalize l[k] = x at *
      generalize hbk : bestK l k = y at *
      obtain ⟨x1, x2⟩ := x
      obtain ⟨y1, y2⟩ := y
      simp only at *
      have HS := Lib.hid hs
      have b0 : wr.cell? ⟨w.heap.size + 1, 0, none⟩ = some (.int .u64 y1) := cell_of_row _ _ 0 _ _ _ hB
      have b1 : wr.cell? ⟨w.heap.size + 1, 1, none⟩ = some (.int .i64 y2) := cell_of_row _ _ 1 _ _ _ hB
      have hbx := ba (br wr) (.cells #[.int .u64 x1, .int .i64 x2] 58)
      have HN := Lib.hid (And.intro hB (And.intro hA hb))
      clear hc hbk hs
      by_cases hk0 : k = 0
      · subst hk0
        have e5 := HS.out
        rw [if_pos (.inl rfl)] at e5
        rw [Nat.zero_mul, Nat.add_zero] at s0 s1
        have hn := heap_alloc_new wr (.cells #[.int .u64 x1, .int .i64 x2] 58)
        have HX := Lib.hid (And.intro hn (And.intro ((hbx.block _ (Array.getElem?_eq_some_iff.1 hB).1).trans hB) (And.intro ((hbx.block _ (Array.getElem?_eq_some_iff.1 hA).1).trans hA) (hb.trans (hbx.mono hb.size)))))
        have HE := Lib.hid e5
        clear hn hbx hA hB hb e5
        go_upto_region 5 with (fail)
        clear b0 b1 s0 s1
        generalize wr.alloc (.cells #[.int .u64 x1, .int .i64 x2] 58) = w5 at *
        have x0 : w5.cell? ⟨wr.heap.size, 0, none⟩ = some (.int .u64 x1) := cell_of_row _ _ 0 _ _ _ HX.out.1
        have x1' : w5.cell? ⟨wr.heap.size, 1, none⟩ = some (.int .i64 x2) := cell_of_row _ _ 1 _ _ _ HX.out.1
        have b0 : w5.cell? ⟨w.heap.size + 1, 0, none⟩ = some (.int .u64 y1) := cell_of_row _ _ 0 _ _ _ HX.out.2.1
        have b1 : w5.cell? ⟨w.heap.size + 1, 1, none⟩ = some (.int .i64 y2) := cell_of_row _ _ 1 _ _ _ HX.out.2.1
        have f0 : w5.frozen? ⟨w.heap.size + 1, 0, none⟩ = false := frozen_of_row _ _ 0 _ _ HX.out.2.1
        have f1 : w5.frozen? ⟨w.heap.size + 1, 1, none⟩ = false := frozen_of_row _ _ 1 _ _ HX.out.2.1
        have kk := setCell_block (setCell_block HX.out.2.1 0 (.int .u64 x1)) 1 (.int .i64 x2)
        have hk8 : Kept (fun q => q = w.heap.size + 1) w5 ((w5.setCell ⟨w.heap.size + 1, 0, none⟩ (.int .u64 x1)).setCell ⟨w.heap.size + 1, 1, none⟩ (.int .i64 x2)) :=
          ((show Kept (fun q => q = w.heap.size + 1) w5 w5 from Kept.of_below (br w5)).setCell (p := ⟨w.heap.size + 1, 0, none⟩) rfl _).setCell (p := ⟨w.heap.size + 1, 1, none⟩) rfl _
        have HZ := Lib.hid (And.intro kk (And.intro (hk8.keep HX.out.2.2.1 (by omega)) (hk8.out HX.out.2.2.2 HX.out.2.2.2.size (by intro q hq; omega))))
        clear kk hk8
        go_wp2
        exact ⟨⟨1, HK1.out, by go_num, by rw [HE.out]; exact HZ.out.1, HZ.out.2.1, HZ.out.2.2⟩, measI (k := 0) HK.out⟩
      · have d1 : ((k : Int) == 0) = false := by simpa using hk0
        have hn := heap_alloc_new wr (.cells #[.int .u64 x1, .int .i64 x2] 58)
        have HX := Lib.hid (And.intro hn (And.intro ((hbx.block _ (Array.getElem?_eq_some_iff.1 hB).1).trans hB) (And.intro ((hbx.block _ (Array.getElem?_eq_some_iff.1 hA).1).trans hA) (hb.trans (hbx.mono hb.size)))))
        clear hn hbx hA hB hb
        go_upto_region 5 with (fail)
        clear b0 b1 s0 s1
        generalize wr.alloc (.cells #[.int .u64 x1, .int .i64 x2] 58) = w6 at *
        have x0 : w6.cell? ⟨wr.heap.size, 0, none⟩ = some (.int .u64 x1) := cell_of_row _ _ 0 _ _ _ HX.out.1
        have x1' : w6.cell? ⟨wr.heap.size, 1, none⟩ = some (.int .i64 x2) := cell_of_row _ _ 1 _ _ _ HX.out.1
        have b0 : w6.cell? ⟨w.heap.size + 1, 0, none⟩ = some (.int .u64 y1) := cell_of_row _ _ 0 _ _ _ HX.out.2.1
        have b1 : w6.cell? ⟨w.heap.size + 1, 1, none⟩ = some (.int .i64 y2) := cell_of_row _ _ 1 _ _ _ HX.out.2.1
        go_wp2_with fail
        refine (kConf_any x1 x2 y1 y2 _).mono ?_
        rintro e w5 ⟨rfl, hb5⟩
        have hX5 := (hb5.block _ (Array.getElem?_eq_some_iff.1 HX.out.1).1).trans HX.out.1
        have hB5 := (hb5.block _ (Array.getElem?_eq_some_iff.1 HX.out.2.1).1).trans HX.out.2.1
        have hA5 := (hb5.block _ (Array.getElem?_eq_some_iff.1 HX.out.2.2.1).1).trans HX.out.2.2.1
        have hbw5 := HX.out.2.2.2.trans (hb5.mono HX.out.2.2.2.size)
        clear b0 b1 x0 x1' hb5
        obtain ⟨v, hv⟩ : ∃ v, keyZ x1 x2 y1 y2 = v := ⟨_, rfl⟩
        rw [hv]
        have e5 := HS.out
        rw [hv] at e5
        clear hv
        by_cases hv0 : 0 < v
        · rw [if_pos (.inr hv0)] at e5
          have d2 : decide (0 < v) = true := by simpa using hv0
          have x0 : w5.cell? ⟨wr.heap.size, 0, none⟩ = some (.int .u64 x1) := cell_of_row _ _ 0 _ _ _ hX5
          have x1' : w5.cell? ⟨wr.heap.size, 1, none⟩ = some (.int .i64 x2) := cell_of_row _ _ 1 _ _ _ hX5
          have b0 : w5.cell? ⟨w.heap.size + 1, 0, none⟩ = some (.int .u64 y1) := cell_of_row _ _ 0 _ _ _ hB5
          have b1 : w5.cell? ⟨w.heap.size + 1, 1, none⟩ = some (.int .i64 y2) := cell_of_row _ _ 1 _ _ _ hB5
          have f0 : w5.frozen? ⟨w.heap.size + 1, 0, none⟩ = false := frozen_of_row _ _ 0 _ _ hB5
          have f1 : w5.frozen? ⟨w.heap.size + 1, 1, none⟩ = false := frozen_of_row _ _ 1 _ _ hB5
          have kk := setCell_block (setCell_block hB5 0 (.int .u64 x1)) 1 (.int .i64 x2)
          have hk8 : Kept (fun q => q = w.heap.size + 1) w5 ((w5.setCell ⟨w.heap.size + 1, 0, none⟩ (.int .u64 x1)).setCell ⟨w.heap.size + 1, 1, none⟩ (.int .i64 x2)) :=
            ((show Kept (fun q => q = w.heap.size + 1) w5 w5 from Kept.of_below (br w5)).setCell (p := ⟨w.heap.size + 1, 0, none⟩) rfl _).setCell (p := ⟨w.heap.size + 1, 1, none⟩) rfl _
          have HZ := Lib.hid (And.intro kk (And.intro (hk8.keep hA5 (by omega)) (hk8.out hbw5 hbw5.size (by intro q hq; omega))))
          have HE := Lib.hid e5
          clear kk hk8 e5 hA5 hB5 hX5 hbw5
          go_wp2
          exact ⟨⟨k + 1, HK1.out, by go_num, by rw [HE.out]; exact HZ.out.1, HZ.out.2.1, HZ.out.2.2⟩, measI HK.out⟩
        · rw [if_neg (by omega)] at e5
          have d2 : decide (0 < v) = false := by simpa using hv0
          have HZ := Lib.hid (And.intro hB5 (And.intro hA5 hbw5))
          have HE := Lib.hid e5
          clear e5 hA5 hB5 hX5 hbw5
          go_wp2
          exact ⟨⟨k + 1, HK1.out, by go_num, by rw [HE.out]; exact HZ.out.1, HZ.out.2.1, HZ.out.2.2⟩, measI HK.out⟩
    · have hbool : decide ((k : Int) < (l.length : Int)) = false := by simpa using hlt
      obtain rfl : k = l.length := by omega
      obtain ⟨y1, y2, hy⟩ : ∃ y1 y2, bestK l l.length = (y1, y2) := ⟨_, _, rfl⟩
      rw [hy] at hB
      have HY := Lib.hid hy
      clear hy
      have b0 : wr.cell? ⟨w.heap.size + 1, 0, none⟩ = some (.int .u64 y1) := cell_of_row _ _ 0 _ _ _ hB
      have b1 : wr.cell? ⟨w.heap.size + 1, 1, none⟩ = some (.int .i64 y2) := cell_of_row _ _ 1 _ _ _ hB
      have r0 : wr.cell? ⟨w.heap.size, 0, none⟩ = some (.int .u64 0) := cell_of_row _ _ 0 _ _ _ hA
      have r1 : wr.cell? ⟨w.heap.size, 1, none⟩ = some (.int .i64 0) := cell_of_row _ _ 1 _ _ _ hA
      have f0 : wr.frozen? ⟨w.heap.size, 0, none⟩ = false := frozen_of_row _ _ 0 _ _ hA
      have f1 : wr.frozen? ⟨w.heap.size, 1, none⟩ = false := frozen_of_row _ _ 1 _ _ hA
      have kk := setCell_block (setCell_block hA 0 (.int .u64 y1)) 1 (.int .i64 y2)
      have hk8 : Kept (fun q => q = w.heap.size) wr ((wr.setCell ⟨w.heap.size, 0, none⟩ (.int .u64 y1)).setCell ⟨w.heap.size, 1, none⟩ (.int .i64 y2)) :=
        ((show Kept (fun q => q = w.heap.size) wr wr from Kept.of_below (br wr)).setCell (p := ⟨w.heap.size, 0, none⟩) rfl _).setCell (p := ⟨w.heap.size, 1, none⟩) rfl _
      have q0 : ((wr.setCell ⟨w.heap.size, 0, none⟩ (.int .u64 y1)).setCell ⟨w.heap.size, 1, none⟩ (.int .i64 y2)).cell? ⟨w.heap.size, 0, none⟩ = some (.int .u64 y1) := cell_of_row _ _ 0 _ _ _ kk
      have q1 : ((wr.setCell ⟨w.heap.size, 0, none⟩ (.int .u64 y1)).setCell ⟨w.heap.size, 1, none⟩ (.int .i64 y2)).cell? ⟨w.heap.size, 1, none⟩ = some (.int .i64 y2) := cell_of_row _ _ 1 _ _ _ kk
      have HZ := Lib.hid (And.intro q0 (And.intro q1 (hk8.out hb hb.size (by intro q hq; omega))))
      clear kk hk8 hA hB hb q0 q1
      go_wp2
      refine bodyPost_ret (v := .agg #[.int .u64 y1, .int .i64 y2]) (by simp [results, Try.results55, go_sem, HZ.out.1, HZ.out.2.1]) rfl ⟨by rw [HY.out], HZ.out.2.2⟩
set_option maxRecDepth 100000 in
set_option maxHeartbeats 2000000 in
theorem greatU_any (l : List Int) (ad : Option Addr) (cap : Nat) (w : World) (h : Reads w w.heap.size 1 ad l.length (l.map fun x => .int .u64 x)) (hl : l.length ≤ 1000000) : Calls Try.prog 52 #[.func (.func 48) #[] #[], .slice ad l.length cap] w fun e w' => e = .returned (.int .u64 (bestU l l.length)) ∧ w = w' := by
  have HR := Lib.hid h
  have HB := Lib.hid (bestU_succ l)
  have H0 := Lib.hid (show bestU l 0 = 0 from rfl)
  clear h
  go_enter Try.func52, Try.ntmps52
  go_wp2
  go_loopw [5, 10] (fun b i wr => ∃ k : Nat, k ≤ l.length ∧ i = .int .i64 (k : Int) ∧ b = .int .u64 (bestU l k) ∧ w = wr) (fun _ i _ => l.length - (intOf i).toNat)
  case atStart => exact ⟨0, by omega, rfl, by rw [H0.out], rfl⟩
  case round =>
    obtain ⟨k, hk, rfl, rfl, rfl⟩ := hrel
    by_cases hlt : k < l.length
    · have hbool : decide ((k : Int) < (l.length : Int)) = true := by simpa using hlt
      have hki : (k : Int) < (l.length : Int) := by omega
      obtain ⟨g, o, rfl, hg, hc⟩ := HR.out.rowAt hlt (by omega)
      have hs := HB.out k hlt
      have HK := Lib.hid hlt
      have HK1 := Lib.hid (show k + 1 ≤ l.length from hlt)
      have s0 : w.cell? ⟨g, o + k, none⟩ = some (.int .u64 l[k]) := by
        have := hc 0 (.int .u64 l[k]) (by rw [Nat.mul_one, Nat.add_zero, List.getElem?_map, List.getElem?_eq_getElem hlt]; rfl)
        simpa using this
      generalize l[k] = x at *
      generalize bestU l k = y at *
      have HS := Lib.hid hs
      clear hs hc
      by_cases hk0 : k = 0
      · subst hk0
        have e5 := HS.out
        rw [if_pos (.inl rfl)] at e5
        rw [Nat.add_zero] at s0
        have HE := Lib.hid e5
        clear e5
        go_wp2
        exact ⟨⟨1, HK1.out, by go_num, by rw [HE.out], trivial⟩, measI (k := 0) HK.out⟩
      · have d1 : ((k : Int) == 0) = false := by simpa using hk0
        go_wp2_with fail
        refine (cmpU_any x y _).mono ?_
        rintro e w5 ⟨rfl, rfl⟩
        obtain ⟨v, hv⟩ : ∃ v, cmpZ x y = v := ⟨_, rfl⟩
        rw [hv]
        have e5 := HS.out
        rw [hv] at e5
        clear hv
        by_cases hv0 : 0 < v
        · rw [if_pos (.inr hv0)] at e5
          have d2 : decide (0 < v) = true := by simpa using hv0
          have HE := Lib.hid e5
          clear e5
          go_wp2
          exact ⟨⟨k + 1, HK1.out, by go_num, by rw [HE.out], trivial⟩, measI HK.out⟩
        · rw [if_neg (by omega)] at e5
          have d2 : decide (0 < v) = false := by simpa using hv0
          have HE := Lib.hid e5
          clear e5
          go_wp2
          exact ⟨⟨k + 1, HK1.out, by go_num, by rw [HE.out], trivial⟩, measI HK.out⟩
    · have hbool : decide ((k : Int) < (l.length : Int)) = false := by simpa using hlt
      obtain rfl : k = l.length := by omega
      go_wp2
      go_ret
      exact ⟨rfl, rfl⟩
set_option maxRecDepth 100000 in
set_option maxHeartbeats 2000000 in
theorem kLast_any (l : List (Int × Int)) (ad : Option Addr) (cap : Nat) (w : World) (h : Reads w w.heap.size 2 ad l.length (keysV l)) (hl : l.length ≤ 1000000) : Calls Try.prog 31 #[.slice ad l.length cap] w fun e w' => e = .returned (.agg #[.int .u64 (bestK l l.length).1, .int .i64 (bestK l l.length).2]) ∧ Below w.heap.size w w' := by
  have hA := heap_alloc_new w (.cells #[.int .u64 0, .int .i64 0] 56)
  have hb := ba (br w) (.cells #[.int .u64 0, .int .i64 0] 56)
  have hc := greatK_any l ad cap (w.alloc (.cells #[.int .u64 0, .int .i64 0] 56)) ((h.below hb).more hb.size) hl
  have HC := Lib.hid hc
  clear hc h
  go_enter Try.func31, Try.ntmps31
  go_wp2_with fail
  refine HC.out.mono ?_
  rintro e w5 ⟨rfl, hb5⟩
  have hA5 := (hb5.block _ (Array.getElem?_eq_some_iff.1 hA).1).trans hA
  have hbw := bt hb hb5
  clear hA hb hb5 HC
  obtain ⟨y1, y2, hy⟩ : ∃ y1 y2, bestK l l.length = (y1, y2) := ⟨_, _, rfl⟩
  rw [hy]
  have HY := Lib.hid hy
  clear hy
  have r0 : w5.cell? ⟨w.heap.size, 0, none⟩ = some (.int .u64 0) := cell_of_row _ _ 0 _ _ _ hA5
  have r1 : w5.cell? ⟨w.heap.size, 1, none⟩ = some (.int .i64 0) := cell_of_row _ _ 1 _ _ _ hA5
  have f0 : w5.frozen? ⟨w.heap.size, 0, none⟩ = false := frozen_of_row _ _ 0 _ _ hA5
  have f1 : w5.frozen? ⟨w.heap.size, 1, none⟩ = false := frozen_of_row _ _ 1 _ _ hA5
  have kk := setCell_block (setCell_block hA5 0 (.int .u64 y1)) 1 (.int .i64 y2)
  have hk8 : Kept (fun q => q = w.heap.size) w5 ((w5.setCell ⟨w.heap.size, 0, none⟩ (.int .u64 y1)).setCell ⟨w.heap.size, 1, none⟩ (.int .i64 y2)) :=
    ((show Kept (fun q => q = w.heap.size) w5 w5 from Kept.of_below (br w5)).setCell (p := ⟨w.heap.size, 0, none⟩) rfl _).setCell (p := ⟨w.heap.size, 1, none⟩) rfl _
  have q0 : ((w5.setCell ⟨w.heap.size, 0, none⟩ (.int .u64 y1)).setCell ⟨w.heap.size, 1, none⟩ (.int .i64 y2)).cell? ⟨w.heap.size, 0, none⟩ = some (.int .u64 y1) := cell_of_row _ _ 0 _ _ _ kk
  have q1 : ((w5.setCell ⟨w.heap.size, 0, none⟩ (.int .u64 y1)).setCell ⟨w.heap.size, 1, none⟩ (.int .i64 y2)).cell? ⟨w.heap.size, 1, none⟩ = some (.int .i64 y2) := cell_of_row _ _ 1 _ _ _ kk
  have HZ := Lib.hid (And.intro q0 (And.intro q1 (hk8.out hbw hbw.size (by intro q hq; omega))))
  clear kk hk8 hA5 hbw q0 q1
  go_wp2
  refine bodyPost_ret (v := .agg #[.int .u64 y1, .int .i64 y2]) (by simp [results, Try.results31, go_sem, HZ.out.1, HZ.out.2.1]) rfl ⟨by rw [HY.out], HZ.out.2.2⟩
set_option maxRecDepth 100000 in
set_option maxHeartbeats 2000000 in
theorem kNewest_any (l : List (Int × Int)) (ad : Option Addr) (cap : Nat) (w : World) (h : Reads w w.heap.size 2 ad l.length (keysV l)) (hl : l.length ≤ 1000000) : Calls Try.prog 37 #[.slice ad l.length cap] w fun e w' => e = .returned (.agg #[.int .u64 (bestK l l.length).1, .int .i64 (bestK l l.length).2]) ∧ Below w.heap.size w w' := by
  have hA := heap_alloc_new w (.cells #[.int .u64 0, .int .i64 0] 58)
  have hb := ba (br w) (.cells #[.int .u64 0, .int .i64 0] 58)
  have hc := greatC_any l ad cap (w.alloc (.cells #[.int .u64 0, .int .i64 0] 58)) ((h.below hb).more hb.size) hl
  have HC := Lib.hid hc
  clear hc h
  go_enter Try.func37, Try.ntmps37
  go_wp2_with fail
  refine HC.out.mono ?_
  rintro e w5 ⟨rfl, hb5⟩
  have hA5 := (hb5.block _ (Array.getElem?_eq_some_iff.1 hA).1).trans hA
  have hbw := bt hb hb5
  clear hA hb hb5 HC
  obtain ⟨y1, y2, hy⟩ : ∃ y1 y2, bestK l l.length = (y1, y2) := ⟨_, _, rfl⟩
  rw [hy]
  have HY := Lib.hid hy
  clear hy
  have r0 : w5.cell? ⟨w.heap.size, 0, none⟩ = some (.int .u64 0) := cell_of_row _ _ 0 _ _ _ hA5
  have r1 : w5.cell? ⟨w.heap.size, 1, none⟩ = some (.int .i64 0) := cell_of_row _ _ 1 _ _ _ hA5
  have f0 : w5.frozen? ⟨w.heap.size, 0, none⟩ = false := frozen_of_row _ _ 0 _ _ hA5
  have f1 : w5.frozen? ⟨w.heap.size, 1, none⟩ = false := frozen_of_row _ _ 1 _ _ hA5
  have kk := setCell_block (setCell_block hA5 0 (.int .u64 y1)) 1 (.int .i64 y2)
  have hk8 : Kept (fun q => q = w.heap.size) w5 ((w5.setCell ⟨w.heap.size, 0, none⟩ (.int .u64 y1)).setCell ⟨w.heap.size, 1, none⟩ (.int .i64 y2)) :=
    ((show Kept (fun q => q = w.heap.size) w5 w5 from Kept.of_below (br w5)).setCell (p := ⟨w.heap.size, 0, none⟩) rfl _).setCell (p := ⟨w.heap.size, 1, none⟩) rfl _
  have q0 : ((w5.setCell ⟨w.heap.size, 0, none⟩ (.int .u64 y1)).setCell ⟨w.heap.size, 1, none⟩ (.int .i64 y2)).cell? ⟨w.heap.size, 0, none⟩ = some (.int .u64 y1) := cell_of_row _ _ 0 _ _ _ kk
  have q1 : ((w5.setCell ⟨w.heap.size, 0, none⟩ (.int .u64 y1)).setCell ⟨w.heap.size, 1, none⟩ (.int .i64 y2)).cell? ⟨w.heap.size, 1, none⟩ = some (.int .i64 y2) := cell_of_row _ _ 1 _ _ _ kk
  have HZ := Lib.hid (And.intro q0 (And.intro q1 (hk8.out hbw hbw.size (by intro q hq; omega))))
  clear kk hk8 hA5 hbw q0 q1
  go_wp2
  refine bodyPost_ret (v := .agg #[.int .u64 y1, .int .i64 y2]) (by simp [results, Try.results37, go_sem, HZ.out.1, HZ.out.2.1]) rfl ⟨by rw [HY.out], HZ.out.2.2⟩
end Go.Proofs.Ytodlmboagbjcbaa
