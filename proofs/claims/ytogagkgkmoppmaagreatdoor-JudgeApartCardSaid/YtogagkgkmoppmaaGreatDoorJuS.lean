/-
  What the judge compares: two messages, two rows of them; whether a stay delivers a message.
  Conditions: those that each theorem names.
-/
import Derived.Test.YtogagkgkmoppmaaGreatDoorJuE
namespace Go.Proofs.YtogagkgkmoppmaaGreatDoor
set_option linter.unusedVariables false
set_option linter.unusedSimpArgs false
open Go.RowKit GM
set_option maxHeartbeats 8000000 in
theorem jsame_any (a b : Msg) (w : World) (ha : MsgR w a) (hb : MsgR w b) :
    Calls Tryz.prog 21 #[.agg (msgA a), .agg (msgA b)] w fun e w' => e = .returned (.bool (sameM a b)) ∧ Below w.heap.size w w' := by
  obtain ⟨ha, hal⟩ := ha
  obtain ⟨hb, hbl⟩ := hb
  obtain ⟨R, hR⟩ : ∃ R, R = sameM a b := ⟨_, rfl⟩
  rw [← hR]
  unfold sameM at hR
  unfold msgA
  obtain ⟨a0, a1, a2, a3, xs, a5, aa, ac⟩ := a
  obtain ⟨b0, b1, b2, b3, ys, b5, bb, bc⟩ := b
  simp only at ha hb hal hbl hR ⊢
  have hbel : Below w.heap.size w ((w.alloc (.cells #[.int .i64 a0, .int .u32 (a1 : Int), .int .u64 (a2 : Int), .int .i64 a3, .slice aa xs.length ac, .string a5] 31)).alloc (.cells #[.int .i64 b0, .int .u32 (b1 : Int), .int .u64 (b2 : Int), .int .i64 b3, .slice bb ys.length bc, .string b5] 31)) := ba (ba (br w) _) _
  have HW := Lib.hid hbel
  have HR := Lib.hid hR
  have HE := Lib.hid (eqU_any aa bb ac bc xs ys _ (ha.below hbel) (hb.below hbel) hal hbl)
  have HL := Lib.hid (show R = decide (a0 = b0 ∧ a1 = b1 ∧ a2 = b2 ∧ a3 = b3 ∧ a5 = b5 ∧ xs = ys) from hR)
  clear ha hb hal hbl hbel hR
  by_cases e0 : a0 = b0
  · subst e0
    by_cases e1 : a1 = b1
    · subst e1
      by_cases e2 : a2 = b2
      · subst e2
        by_cases e3 : a3 = b3
        · subst e3
          by_cases e5 : a5 = b5
          · subst e5
            have hRt : R = decide (xs = ys) := by rw [HR.out]; simp
            clear HR HL
            rw [← hRt] at HE
            clear hRt
            have hs : (a5.toList == a5.toList) = true := by simp
            go_enter Tryz.func21, Tryz.ntmps21
            go_wp2_with fail
            refine HE.out.mono ?_
            rintro e w1 ⟨rfl, hb1⟩
            have hb2 := bt HW.out hb1
            clear hb1 HE
            go_wp2_with fail
            go_ret
            exact ⟨rfl, hb2⟩
          · have d5 : (a5.toList == b5.toList) = false := (Lib.bytes_beq_false_iff _ _).2 e5
            have hRf : R = false := by rw [HR.out]; exact decide_eq_false fun h => e5 h.2.2.2.2.1
            subst hRf
            clear HE
            go_enter Tryz.func21, Tryz.ntmps21
            go_wp2
            go_ret
            exact ⟨rfl, HW.out⟩
        · have d5 : (a3 == b3) = false := by simpa using e3
          have hRf : R = false := by rw [HR.out]; exact decide_eq_false fun h => e3 h.2.2.2.1
          subst hRf
          clear HE
          go_enter Tryz.func21, Tryz.ntmps21
          go_wp2
          go_ret
          exact ⟨rfl, HW.out⟩
      · have d5 : ((a2 : Int) == (b2 : Int)) = false := by simp; omega
        have hRf : R = false := by rw [HR.out]; exact decide_eq_false fun h => e2 h.2.2.1
        subst hRf
        clear HE
        go_enter Tryz.func21, Tryz.ntmps21
        go_wp2
        go_ret
        exact ⟨rfl, HW.out⟩
    · have d5 : ((a1 : Int) == (b1 : Int)) = false := by simp; omega
      have hRf : R = false := by rw [HR.out]; exact decide_eq_false fun h => e1 h.2.1
      subst hRf
      clear HE
      go_enter Tryz.func21, Tryz.ntmps21
      go_wp2
      go_ret
      exact ⟨rfl, HW.out⟩
  · have d5 : (a0 == b0) = false := by simpa using e0
    have hRf : R = false := by rw [HR.out]; exact decide_eq_false fun h => e0 h.1
    subst hRf
    clear HE
    go_enter Tryz.func21, Tryz.ntmps21
    go_wp2
    go_ret
    exact ⟨rfl, HW.out⟩
set_option maxRecDepth 100000 in
set_option maxHeartbeats 8000000 in
theorem jeqFn_any (x y : List Msg) (xa ya : Option Addr) (xc yc : Nat) (w : World) (hx : RdM w xa x) (hy : RdM w ya y) :
    Calls Tryz.prog 25 #[.slice xa x.length xc, .slice ya y.length yc, .func (.func 21) #[] #[]] w fun e w' => e = .returned (.bool (sameL x y)) ∧ Below w.heap.size w w' := by
  obtain ⟨r, hr⟩ : ∃ r, r = sameL x y := ⟨_, rfl⟩
  obtain ⟨n, hn⟩ : ∃ n, n = x.length := ⟨_, rfl⟩
  obtain ⟨m, hm⟩ : ∃ m, m = y.length := ⟨_, rfl⟩
  rw [← hr, ← hn, ← hm]
  have HL := Lib.hid (And.intro hx (And.intro hy (And.intro hn (And.intro hm hr))))
  have hn9 : n ≤ 9223372036854775807 := by rw [hn]; exact hx.1
  by_cases hnm : n = m
  rotate_left
  · have d4 : ((n : Int) == (m : Int)) = false := by simp; omega
    have d4' : ((n : Int) != (m : Int)) = true := by simp; omega
    have hrf : r = false := by rw [hr]; exact sameL_len (by omega)
    subst hrf
    clear hx hy hn hm hr
    go_enter Tryz.func25, Tryz.ntmps25
    go_wp2
    go_ret
    exact ⟨rfl, br _⟩
  have HNM := Lib.hid hnm
  subst hnm
  clear hx hy hn hm hr
  go_enter Tryz.func25, Tryz.ntmps25
  go_wp2_with fail
  go_loopw [17] (fun i wr => ∃ k : Nat, k ≤ n ∧ i = .int .i64 (k : Int) ∧ Hid (∀ i (hi : i < x.length) (hj : i < y.length), i < k → sameM x[i] y[i] = true) ∧ Below w.heap.size w wr) (fun i _ => n - (intOf i).toNat)
  case atStart => exact ⟨0, by omega, rfl, fun i hi hj h => absurd h (by omega), br _⟩
  case round =>
    obtain ⟨k, hk, rfl, HT, hbr⟩ := hrel
    have HBW := Lib.hid hbr
    by_cases hlt : k < n
    · have hd : decide ((k : Int) < (n : Int)) = true := by simpa using hlt
      have hi1 : (k : Int) < (n : Int) := by omega
      have hkx : k < x.length := by rw [← HL.out.2.2.1]; exact hlt
      have hky : k < y.length := by rw [← HL.out.2.2.2.1]; exact hlt
      obtain ⟨hmx, g, o, rfl, hg, hrg⟩ := (HL.out.1.below hbr).2 k hkx
      obtain ⟨hmy, g2, o2, rfl, hg2, hrg2⟩ := (HL.out.2.1.below hbr).2 k hky
      obtain ⟨u, hu⟩ : ∃ u, u = x[k] := ⟨_, rfl⟩
      obtain ⟨v, hv⟩ : ∃ v, v = y[k] := ⟨_, rfl⟩
      rw [← hu] at hmx hrg
      rw [← hv] at hmy hrg2
      obtain ⟨cu, hcu⟩ : ∃ cs, cs = msgA u := ⟨_, rfl⟩
      obtain ⟨cv, hcv⟩ : ∃ cs, cs = msgA v := ⟨_, rfl⟩
      have z1 : cu.size = 6 := by rw [hcu]; rfl
      have z2 : cv.size = 6 := by rw [hcv]; rfl
      have p1 : cu.all (·.oneCell') = true := by rw [hcu]; simp [msgA, Value.oneCell']
      have p2 : cv.all (·.oneCell') = true := by rw [hcv]; simp [msgA, Value.oneCell']
      have hs := jsame_any u v
      rw [← hcu, ← hcv] at hs
      rw [← hcu] at hrg
      rw [← hcv] at hrg2
      have hc1 : cu.toList.toArray = cu := by simp
      have hc2 : cv.toList.toArray = cv := by simp
      obtain ⟨U, hU⟩ : ∃ U, U = wr.heap.size := ⟨_, rfl⟩
      have hz := heap_alloc_new wr (.cells #[.int .i64 0, .int .u32 0, .int .u64 0, .int .i64 0, .slice none 0 0, .string ⟨#[]⟩] 31)
      have hbz := ba (br wr) (.cells #[.int .i64 0, .int .u32 0, .int .u64 0, .int .i64 0, .slice none 0 0, .string ⟨#[]⟩] 31)
      rw [← hU] at hz
      obtain ⟨w2, hw2⟩ : ∃ w2, w2 = (wr.alloc (.cells #[.int .i64 0, .int .u32 0, .int .u64 0, .int .i64 0, .slice none 0 0, .string ⟨#[]⟩] 31)).setRow U cu := ⟨_, rfl⟩
      have hb2 : Below wr.heap.size wr w2 := by rw [hw2]; exact (kept_setRow' (wr.alloc (.cells #[.int .i64 0, .int .u32 0, .int .u64 0, .int .i64 0, .slice none 0 0, .string ⟨#[]⟩] 31)) U cu).out hbz hbz.size (fun k hk' e => by omega)
      have hx2 : w2.heap[U]? = some (.cells cu 31 (0, 0)) := by rw [hw2]; exact setRow_heap _ _ _ _ _ _ hz
      have HZ := Lib.hid (And.intro hz hU)
      obtain ⟨V, hV⟩ : ∃ V, V = w2.heap.size := ⟨_, rfl⟩
      have hz2 := heap_alloc_new w2 (.cells #[.int .i64 0, .int .u32 0, .int .u64 0, .int .i64 0, .slice none 0 0, .string ⟨#[]⟩] 31)
      have hbz2 := ba (br w2) (.cells #[.int .i64 0, .int .u32 0, .int .u64 0, .int .i64 0, .slice none 0 0, .string ⟨#[]⟩] 31)
      rw [← hV] at hz2
      obtain ⟨w3, hw3⟩ : ∃ w3, w3 = (w2.alloc (.cells #[.int .i64 0, .int .u32 0, .int .u64 0, .int .i64 0, .slice none 0 0, .string ⟨#[]⟩] 31)).setRow V cv := ⟨_, rfl⟩
      have hb3 : Below w2.heap.size w2 w3 := by rw [hw3]; exact (kept_setRow' (w2.alloc (.cells #[.int .i64 0, .int .u32 0, .int .u64 0, .int .i64 0, .slice none 0 0, .string ⟨#[]⟩] 31)) V cv).out hbz2 hbz2.size (fun k hk' e => by omega)
      have hx3 : w3.heap[V]? = some (.cells cv 31 (0, 0)) := by rw [hw3]; exact setRow_heap _ _ _ _ _ _ hz2
      have HZ2 := Lib.hid (And.intro hz2 hV)
      have HW3 := Lib.hid (And.intro hx3 (And.intro ((hb3.block _ (Array.getElem?_eq_some_iff.1 hx2).1).trans hx2) (bt HBW.out (bt hb2 hb3))))
      have hrg2' : w2.rangeAt g2 (o2 + k * 6) cv.toList := fun j u hu => (hb2.cell (p := ⟨g2, o2 + k * 6 + j, none⟩) hg2).trans (hrg2 j u hu)
      have HS := Lib.hid (hs w3 (hmx.below (bt hb2 hb3)) (hmy.below (bt hb2 hb3)))
      have HG := Lib.hid (And.intro hrg (And.intro hrg2' (And.intro z1 (And.intro z2 (And.intro p1 (And.intro p2 (And.intro hu hv)))))))
      clear hz hbz hb2 hx2 hU hz2 hbz2 hb3 hx3 hV hrg hrg2 hrg2' z1 z2 p1 p2 hu hv hmx hmy hs hbr hcu hcv
      go_upto_region 6 with (first
        | (refine wpList_load_mid rfl 31 (.tmp 20) rfl g (o + k * 6) rfl cu.toList _ HG.out.1 Tryz.underlying31 rfl (by rw [Array.length_toList, HG.out.2.2.1]; kernel_rfl) ?_)
        | (refine wpList_store_row rfl 31 (.tmp 8) (.tmp 21) rfl U cu (by rw [HZ.out.2]; rfl) (by rw [← hc1]; rfl) 31 _ HZ.out.1 (by rw [HG.out.2.2.1]; kernel_rfl) (by rw [HG.out.2.2.1]; rfl) HG.out.2.2.2.2.1 ?_))
      rw [← hw2, ← HZ.out.2]
      clear hw2
      go_upto_region 7 with (first
        | (refine wpList_load_mid rfl 31 (.tmp 24) rfl g2 (o2 + k * 6) rfl cv.toList _ HG.out.2.1 Tryz.underlying31 rfl (by rw [Array.length_toList, HG.out.2.2.2.1]; kernel_rfl) ?_)
        | (refine wpList_store_row rfl 31 (.tmp 9) (.tmp 25) rfl V cv (by rw [HZ2.out.2]; rfl) (by rw [← hc2]; rfl) 31 _ HZ2.out.1 (by rw [HG.out.2.2.2.1]; kernel_rfl) (by rw [HG.out.2.2.2.1]; rfl) HG.out.2.2.2.2.2.1 ?_))
      rw [← hw3, ← HZ2.out.2]
      clear hw3
      go_wp2_with (first
        | (refine wpList_load_row rfl 31 (.tmp 8) rfl U rfl 31 cu (0, 0) _ HW3.out.2.1 Tryz.underlying31 rfl (by rw [HG.out.2.2.1]; kernel_rfl) ?_)
        | (refine wpList_load_row rfl 31 (.tmp 9) rfl V rfl 31 cv (0, 0) _ HW3.out.1 Tryz.underlying31 rfl (by rw [HG.out.2.2.2.1]; kernel_rfl) ?_))
      cases hs : sameM u v
      · rw [hs] at HS
        have hrf : r = false := by rw [HL.out.2.2.2.2]; exact sameL_at hkx hky (by rw [← HG.out.2.2.2.2.2.2.1, ← HG.out.2.2.2.2.2.2.2]; exact hs)
        refine HS.out.mono ?_
        rintro e w4 ⟨rfl, hb4⟩
        have hb5 := bt HW3.out.2.2 hb4
        clear hb4 hs HS
        subst hrf
        go_wp2_with fail
        go_ret
        exact ⟨rfl, hb5⟩
      · rw [hs] at HS
        refine HS.out.mono ?_
        rintro e w4 ⟨rfl, hb4⟩
        have HE := Lib.hid (And.intro hlt (And.intro (show Hid (∀ i (hi : i < x.length) (hj : i < y.length), i < k + 1 → sameM x[i] y[i] = true) from fun i hi hj h => by
          by_cases hik : i = k
          · subst hik; rw [← HG.out.2.2.2.2.2.2.1, ← HG.out.2.2.2.2.2.2.2]; exact hs
          · exact HT.out i hi hj (by omega)) (bt HW3.out.2.2 hb4)))
        clear hb4 hs HS
        go_wp2_with fail
        exact ⟨⟨k + 1, HE.out.1, by go_num, HE.out.2⟩, by have := HE.out.1; simp [intOf]; omega⟩
    · have hd : decide ((k : Int) < (n : Int)) = false := by simpa using hlt
      have hrt : r = true := by
        rw [HL.out.2.2.2.2]
        exact sameL_all (by rw [← HL.out.2.2.1, ← HL.out.2.2.2.1]) fun i h1 h2 => HT.out i h1 h2 (by have := HL.out.2.2.1; omega)
      subst hrt
      go_wp2
      go_ret
      exact ⟨rfl, HBW.out⟩

/-- a row of deliveries that can be read -/
def gotA (at_ : Int) (m : Msg) (t : Bool) : List Value := .int .i64 at_ :: ((msgA m).toList ++ [.bool t])
theorem gotC_is (l : List Ev) (p : Nat × Bool) : gotC l p = gotA (p.1 : Int) (gotM l p) p.2 := rfl
theorem gotA_len (a : Int) (m : Msg) (t : Bool) : (gotA a m t).length = 8 := rfl
theorem gotA_all (a : Int) (m : Msg) (t : Bool) : (gotA a m t).toArray.all (·.oneCell') = true := by simp [gotA, msgA, Value.oneCell']
structure RdG (w : World) (l : List Ev) (ad : Option Addr) (L : List (Nat × Bool)) : Prop where
  len : L.length ≤ 1000000
  at_ : ∀ i (h : i < L.length), MsgR w (gotM l L[i]) ∧ ∃ g o, ad = some ⟨g, o, none⟩ ∧ g < w.heap.size ∧ w.rangeAt g (o + i * 8) (gotC l L[i])
theorem RdG.below {w w' : World} {l : List Ev} {ad : Option Addr} {L : List (Nat × Bool)} (h : RdG w l ad L) (hb : Below w.heap.size w w') : RdG w' l ad L := ⟨h.len, fun i hi => by
  obtain ⟨h1, g, o, e, hg, hr⟩ := h.at_ i hi
  exact ⟨h1.below hb, g, o, e, Nat.lt_of_lt_of_le hg hb.size, fun j u hu => (hb.cell (p := ⟨g, o + i * 8 + j, none⟩) hg).trans (hr j u hu)⟩⟩
set_option maxHeartbeats 8000000 in
theorem hasFn_any (a : Int) (y x : Msg) (t : Bool) (X : Nat) (w : World) (hX : w.heap[X]? = some (.cells (msgA x) 31 (0, 0))) (hx : MsgR w x) (hy : MsgR w y) :
    Calls Tryz.prog 79 #[.agg (gotA a y t).toArray, .pointer (some ⟨X, 0, none⟩)] w fun e w' => e = .returned (.bool (sameM y x)) ∧ Below w.heap.size w w' := by
  obtain ⟨N, hN⟩ : ∃ N, N = w.heap.size := ⟨_, rfl⟩
  obtain ⟨CG, hCG⟩ : ∃ C, C = (gotA a y t).toArray := ⟨_, rfl⟩
  obtain ⟨W, hW⟩ : ∃ W, W = w.alloc (.cells CG 58) := ⟨_, rfl⟩
  have hbA := ba (br w) (.cells CG 58)
  have hxA := heap_alloc_new w (.cells CG 58)
  rw [← hW] at hxA hbA
  rw [← hN] at hxA
  have hXW := (hbA.block _ (Array.getElem?_eq_some_iff.1 hX).1).trans hX
  have HS := Lib.hid (jsame_any y x W (hy.below hbA) (hx.below hbA))
  obtain ⟨CX, hCX⟩ : ∃ C, C = msgA x := ⟨_, rfl⟩
  obtain ⟨CY, hCY⟩ : ∃ C, C = msgA y := ⟨_, rfl⟩
  have z1 : CX.size = 6 := by rw [hCX]; rfl
  have z2 : CY.toList.length = 6 := by rw [hCY]; rfl
  have hrY : W.rangeAt N 1 CY.toList := by
    intro j u hu
    have hj : j < 6 := by rw [← z2]; exact (List.getElem?_eq_some_iff.1 hu).1
    refine (cell_of_row _ _ (1 + j) _ _ _ hxA).trans ?_
    rw [hCG, ← hu, hCY]
    rcases (by omega : j = 0 ∨ j = 1 ∨ j = 2 ∨ j = 3 ∨ j = 4 ∨ j = 5) with rfl | rfl | rfl | rfl | rfl | rfl <;> rfl
  have zG1 : CG.all (·.oneCell') = true := by rw [hCG]; exact gotA_all a y t
  have zG2 : CG.size = 8 := by rw [hCG]; rfl
  rw [← hCX] at hXW HS
  rw [← hCY] at HS
  have hcl : CY.toList.toArray = CY := by simp
  rw [← hcl] at HS
  have HH := Lib.hid (And.intro hXW (And.intro hrY (And.intro hbA (And.intro z1 z2))))
  rw [← hCG]
  clear hX hx hy hXW hxA hbA hCX hCY z1 z2 hrY hCG
  go_enter Tryz.func79, Tryz.ntmps79
  go_upto_region 1 with (fail)
  rw [← hW, ← hN]
  clear hW hN zG1 zG2
  go_wp2_with (first
    | (refine wpList_load_mid rfl 31 (.tmp 4) rfl N 1 rfl CY.toList _ HH.out.2.1 Tryz.underlying31 rfl (by rw [HH.out.2.2.2.2]; kernel_rfl) ?_)
    | (refine wpList_load_row rfl 31 (.tmp 1) rfl X rfl 31 CX (0, 0) _ HH.out.1 Tryz.underlying31 rfl (by rw [HH.out.2.2.2.1]; kernel_rfl) ?_))
  refine HS.out.mono ?_
  rintro e w1 ⟨rfl, hb1⟩
  have hb2 := bt HH.out.2.2.1 hb1
  clear hb1 HS
  go_wp2_with fail
  go_ret
  exact ⟨rfl, hb2⟩
def idxG (l : List Ev) (x : Msg) (L : List (Nat × Bool)) : Int := match L.findIdx? (fun p => sameM (gotM l p) x) with
  | some i => (i : Int)
  | none => -1
theorem idxG_none {l : List Ev} {x : Msg} {L : List (Nat × Bool)} (h : ∀ i (hi : i < L.length), sameM (gotM l L[i]) x = false) : idxG l x L = -1 := by
  unfold idxG
  rw [List.findIdx?_eq_none_iff.2 (fun y hy => by obtain ⟨i, hi, rfl⟩ := List.getElem_of_mem hy; simpa using h i hi)]
theorem idxG_some {l : List Ev} {x : Msg} {L : List (Nat × Bool)} {k : Nat} (hk : k < L.length) (h1 : sameM (gotM l L[k]) x = true) (h : ∀ i (hi : i < k), sameM (gotM l (L[i]'(by omega))) x = false) : idxG l x L = (k : Int) := by
  unfold idxG
  have : L.findIdx? (fun p => sameM (gotM l p) x) = some k := by
    rw [List.findIdx?_eq_some_iff_getElem]
    exact ⟨hk, h1, fun j hj => by rw [h j hj]; exact Bool.noConfusion⟩
  rw [this]
theorem idxG_any (l : List Ev) (x : Msg) (L : List (Nat × Bool)) : decide (0 ≤ idxG l x L) = L.any (fun p => sameM (gotM l p) x) := by
  unfold idxG
  cases h : L.findIdx? (fun p => sameM (gotM l p) x) with
  | none =>
    rw [List.findIdx?_eq_none_iff] at h
    have : L.any (fun p => sameM (gotM l p) x) = false := by rw [List.any_eq_false]; intro y hy; rw [h y hy]; exact Bool.noConfusion
    rw [this]
    decide
  | some i =>
    rw [List.findIdx?_eq_some_iff_getElem] at h
    obtain ⟨hi, h1, _⟩ := h
    have : L.any (fun p => sameM (gotM l p) x) = true := by rw [List.any_eq_true]; exact ⟨_, List.getElem_mem hi, h1⟩
    rw [this]
    simp
set_option maxHeartbeats 8000000 in
theorem idxGot_any (l : List Ev) (x : Msg) (L : List (Nat × Bool)) (ad : Option Addr) (cap X : Nat) (w : World) (hX : w.heap[X]? = some (.cells (msgA x) 31 (0, 0))) (hx : MsgR w x) (hl : RdG w l ad L) :
    Calls Tryz.prog 86 #[.slice ad L.length cap, .func (.func 79) #[] #[.pointer (some ⟨X, 0, none⟩)]] w fun e w' => e = .returned (.int .i64 (idxG l x L)) ∧ Below w.heap.size w w' := by
  obtain ⟨r, hr⟩ : ∃ r, r = idxG l x L := ⟨_, rfl⟩
  obtain ⟨n, hn⟩ : ∃ n, n = L.length := ⟨_, rfl⟩
  rw [← hr, ← hn]
  have HL := Lib.hid (And.intro hl (And.intro hn hr))
  have HX := Lib.hid (And.intro hX hx)
  have hn9 : n ≤ 1000000 := by rw [hn]; exact hl.len
  clear hl hn hr hX hx
  go_enter Tryz.func86, Tryz.ntmps86
  go_wp2_with fail
  go_loopw [8] (fun i wr => ∃ k : Nat, k ≤ n ∧ i = .int .i64 (k : Int) ∧ Hid (∀ i (hi : i < L.length), i < k → sameM (gotM l L[i]) x = false) ∧ Below w.heap.size w wr) (fun i _ => n - (intOf i).toNat)
  case atStart => exact ⟨0, by omega, rfl, fun i hi h => absurd h (by omega), br _⟩
  case round =>
    obtain ⟨k, hk, rfl, HT, hbr⟩ := hrel
    have HBW := Lib.hid hbr
    by_cases hlt : k < n
    · have hd : decide ((k : Int) < (n : Int)) = true := by simpa using hlt
      have hi1 : (k : Int) < (n : Int) := by omega
      have hkl : k < L.length := by rw [← HL.out.2.1]; exact hlt
      obtain ⟨hm, g, o, rfl, hg, hrg⟩ := (HL.out.1.below hbr).at_ k hkl
      have HS := Lib.hid (hasFn_any (L[k].1 : Int) (gotM l L[k]) x L[k].2 X wr ((hbr.block _ (Array.getElem?_eq_some_iff.1 HX.out.1).1).trans HX.out.1) (HX.out.2.below hbr) hm)
      rw [gotC_is] at hrg
      obtain ⟨y, hy⟩ : ∃ y, y = gotM l L[k] := ⟨_, rfl⟩
      rw [← hy] at HS hrg
      obtain ⟨cs, hcs⟩ : ∃ cs, cs = gotA (L[k].1 : Int) y L[k].2 := ⟨_, rfl⟩
      have z1 : cs.length = 8 := by rw [hcs]; rfl
      rw [← hcs] at HS hrg
      have HG := Lib.hid (And.intro hrg (And.intro z1 hy))
      clear hbr hrg hm z1 hcs hy
      go_upto_region 4 with (fail)
      go_wp2_with (refine wpList_load_mid rfl 58 (.tmp 14) rfl g (o + k * 8) rfl cs _ HG.out.1 Tryz.underlying58 rfl (by rw [HG.out.2.1]; kernel_rfl) ?_)
      cases hs : sameM (gotM l L[k]) x
      · rw [← HG.out.2.2] at hs
        rw [hs] at HS
        refine HS.out.mono ?_
        rintro e w1 ⟨rfl, hb1⟩
        have HE := Lib.hid (And.intro hlt (And.intro (show Hid (∀ i (hi : i < L.length), i < k + 1 → sameM (gotM l L[i]) x = false) from fun i hi h => by
          by_cases hik : i = k
          · subst hik; rw [← HG.out.2.2]; exact hs
          · exact HT.out i hi (by omega)) (bt HBW.out hb1)))
        clear hb1 hs HS
        go_wp2_with fail
        exact ⟨⟨k + 1, HE.out.1, by go_num, HE.out.2⟩, by have := HE.out.1; simp [intOf]; omega⟩
      · have hrk : r = (k : Int) := by rw [HL.out.2.2]; exact idxG_some hkl hs (fun i hi => HT.out i (by omega) hi)
        rw [← HG.out.2.2] at hs
        rw [hs] at HS
        refine HS.out.mono ?_
        rintro e w1 ⟨rfl, hb1⟩
        have hb2 := bt HBW.out hb1
        clear hb1 hs HS
        subst hrk
        go_wp2_with fail
        go_ret
        exact ⟨rfl, hb2⟩
    · have hd : decide ((k : Int) < (n : Int)) = false := by simpa using hlt
      have hrt : r = -1 := by
        rw [HL.out.2.2]
        exact idxG_none fun i hi => HT.out i hi (by have := HL.out.2.1; omega)
      subst hrt
      go_wp2
      go_ret
      exact ⟨rfl, HBW.out⟩
theorem contGot_any (l : List Ev) (x : Msg) (L : List (Nat × Bool)) (ad : Option Addr) (cap X : Nat) (w : World) (hX : w.heap[X]? = some (.cells (msgA x) 31 (0, 0))) (hx : MsgR w x) (hl : RdG w l ad L) :
    Calls Tryz.prog 78 #[.slice ad L.length cap, .func (.func 79) #[] #[.pointer (some ⟨X, 0, none⟩)]] w fun e w' => e = .returned (.bool (L.any (fun p => sameM (gotM l p) x))) ∧ Below w.heap.size w w' := by
  have HI := Lib.hid (idxGot_any l x L ad cap X w hX hx hl)
  have ha := idxG_any l x L
  generalize L.length = n at *
  clear hX hx hl
  generalize idxG l x L = r at *
  generalize L.any (fun p => sameM (gotM l p) x) = b at *
  go_enter Tryz.func78, Tryz.ntmps78
  go_wp2_with fail
  refine HI.out.mono ?_
  rintro e w1 ⟨rfl, hb1⟩
  go_wp2_with fail
  go_ret
  exact ⟨rfl, hb1⟩
end Go.Proofs.YtogagkgkmoppmaaGreatDoor
