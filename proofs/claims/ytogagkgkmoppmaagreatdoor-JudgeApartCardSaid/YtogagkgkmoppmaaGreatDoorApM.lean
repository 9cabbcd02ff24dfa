/-
  The judge of views: each EvUp behind one EvCast, by rising keys.
  Conditions: those that each theorem names.
-/
import Derived.Test.YtogagkgkmoppmaaGreatDoorApL
namespace Go.Proofs.YtogagkgkmoppmaaGreatDoor
set_option linter.unusedVariables false
set_option linter.unusedSimpArgs false
open Go.RowKit GM Go.Shelf
def castB (l : List Ev) (nm : Nat → List NameK) (x : Ev) (j : Nat) : Bool := decide ((evAt l j).kind = 8) && (decide (viewK (evAt l j) = viewK x) && (sameM (evAt l j).m x.m && (decide ((nm j).length = 1) && decide ((name0 nm j).1 = x.m.frm))))
def castN (l : List Ev) (nm : Nat → List NameK) (x : Ev) : Nat → Nat
  | 0 => 0
  | q + 1 => castN l nm x q + (if castB l nm x q = true then 1 else 0)
theorem castN_le (l : List Ev) (nm : Nat → List NameK) (x : Ev) : ∀ q, castN l nm x q ≤ q
  | 0 => Nat.le_refl _
  | q + 1 => by
    have := castN_le l nm x q
    unfold castN
    split <;> omega
def castC (n : Nat) (k : Option (Nat × Int)) (m : Msg) : Bool := !((n : Int) == 1) || (match k with
  | none => false
  | some k => decide (0 ≤ keyZ (k.1 : Int) k.2 (m.stamp : Int) m.frm))
def upOf (nm : Nat → List NameK) (l : List Ev) (i : Nat) : UpK := ((name0 nm i).1, (name0 nm i).2, (evAt l i).vn)
def castStep (l : List Ev) (nm : Nat → List NameK) (i : Nat) (s : Int × List (UpK × (Nat × Int))) : Int × List (UpK × (Nat × Int)) :=
  if (evAt l i).kind = 9 ∧ (nm i).length = 1 then
    (wrongZ 4 s.1 (castC (castN l nm (evAt l i) i) (get s.2 (upOf nm l i)) (evAt l i).m), put s.2 (upOf nm l i) ((evAt l i).m.stamp, (evAt l i).m.frm))
  else s
def castRun (l : List Ev) (nm : Nat → List NameK) (z : Int) : Nat → Int × List (UpK × (Nat × Int))
  | 0 => (z, [])
  | i + 1 => castStep l nm i (castRun l nm z i)
abbrev keyV2 (k : Nat × Int) : Value := .agg #[.int .u64 (k.1 : Int), .int .i64 k.2]
section
variable {wB w : World} {g o N : Nat} {l : List Ev} {nm : Nat → List NameK} {M : JM} {R : List Pc} {z : Int}
def CaAt (wB : World) (g o N : Nat) (l : List Ev) (M : JM) (R : List Pc) (ub : Nat) (s : Int × List (UpK × (Nat × Int))) (w : World) : Prop := JZ wB g o l (mapPc upV ub (vals keyV2 s.2) :: R) N M s.1 w
set_option maxRecDepth 100000 in
set_option maxHeartbeats 16000000 in
theorem cast_gen (h : JZ wB g o l R N M z w) (hT : Tr wB g o l nm) (hl : l.length ≤ 500) (hcap : l.length ≤ M.h.lc) :
    Calls Tryz.prog 15 #[.pointer (some ⟨M.h.T, 0, none⟩)] w fun e w' => e = .returned (.tuple #[]) ∧ JZ wB g o l R N M (castRun l nm z l.length).1 w' := by
  obtain ⟨n, hn⟩ : ∃ n, n = l.length := ⟨_, rfl⟩
  obtain ⟨ub, hub⟩ : ∃ b, b = w.heap.size := ⟨_, rfl⟩
  obtain ⟨w1, hw1⟩ : ∃ w1, w1 = w.alloc (.map #[] 0) := ⟨_, rfl⟩
  have h1 := h.made upV keyV2
  rw [← hw1, ← hub] at h1
  have H0 := Lib.hid (show CaAt wB g o N l M R ub (castRun l nm z 0) w1 from h1)
  have c0 : w1.cell? ⟨M.h.T, 0, none⟩ = some (.slice M.h.la n M.h.lc) := by rw [h1.trace.2.2.1 ⟨w1, br w1⟩, h1.trace.1, hn]
  obtain ⟨TT, hTT⟩ : ∃ T, T = M.h.T := ⟨_, rfl⟩
  obtain ⟨la, hla⟩ : ∃ a, a = M.h.la := ⟨_, rfl⟩
  obtain ⟨lc, hlc⟩ : ∃ a, a = M.h.lc := ⟨_, rfl⟩
  rw [← hTT, ← hla, ← hlc] at c0
  have HLS := Lib.hid (show 0 < l.length → la = some ⟨g, o, none⟩ from fun h => hla.trans (h1.trace.2.1 h))
  have HH := Lib.hid (And.intro hT (And.intro hl (And.intro hn (And.intro hTT (And.intro hla hlc)))))
  have HWR := Lib.hid (fun (R' : List Pc) (z' : Int) (W : World) (h' : JZ wB g o l R' N M z' W) (r : Int) (b : Bool) => h'.wr1 r b)
  have hn9 : n ≤ 500 := by rw [hn]; exact hl
  have hnc : n ≤ lc := by rw [hn, hlc]; exact hcap
  have hmm := @run_makeMap Tryz.prog
  rw [← hTT] at HWR ⊢
  clear h hT hl hn hTT h1 hla hlc hcap
  go_enter Tryz.func15, Tryz.ntmps15
  go_upto_region 1 with (fail)
  rw [← hw1, ← hub]
  clear hw1 hub hmm
  go_wp2_with fail
  clear c0
  go_loopw [17] (fun i wr => ∃ j : Nat, j ≤ n ∧ i = .int .i64 (j : Int) ∧ Hid (CaAt wB g o N l M R ub (castRun l nm z j) wr)) (fun i _ => n - (intOf i).toNat)
  case atStart => exact ⟨0, by omega, rfl, H0⟩
  case round =>
    obtain ⟨j, hj, rfl, HW⟩ := hrel
    by_cases hlt : j < n
    · have hd1 : decide ((j : Int) < (n : Int)) = true := by rw [decide_eq_true_eq]; omega
      have hd2 : decide (j < n) = true := by rw [decide_eq_true_eq]; omega
      have hd3 : (j : Int) < (n : Int) := by omega
      have hjl : j < l.length := by rw [← HH.out.2.2.1]; exact hlt
      obtain ⟨x, hx⟩ : ∃ x, l[j]? = some x := ⟨_, List.getElem?_eq_getElem hjl⟩
      have hTr := HH.out.1.below HW.out.bel
      have hr : wr.rangeAt g (o + j * 19) (evA x).toList := by
        have h := (hTr.ev j hjl).2.1
        rwa [show l[j] = x from by rw [List.getElem?_eq_getElem hjl] at hx; injection hx] at h
      have had := HLS.out (by omega)
      obtain ⟨cx, hcx⟩ : ∃ cx, cx = evA x := ⟨_, rfl⟩
      rw [← hcx] at hr
      have y1 : cx.size = 19 := by rw [hcx]; rfl
      have p1 : cx.all (·.oneCell') = true := by rw [hcx]; simp [evA, Value.oneCell']
      have hc1 : cx.toList.toArray = cx := by simp
      obtain ⟨X, hX⟩ : ∃ X, X = wr.heap.size := ⟨_, rfl⟩
      have hz := heap_alloc_new wr (.cells zEv 36)
      have hbz := ba (br wr) (.cells zEv 36)
      rw [← hX] at hz
      obtain ⟨w2, hw2⟩ : ∃ w2, w2 = (wr.alloc (.cells zEv 36)).setRow X cx := ⟨_, rfl⟩
      have hb2 : Below wr.heap.size wr w2 := by rw [hw2]; exact (kept_setRow' (wr.alloc (.cells zEv 36)) X cx).out hbz hbz.size (fun k hk' e => by omega)
      have hx2 : w2.heap[X]? = some (.cells cx 36 (0, 0)) := by rw [hw2]; exact setRow_heap _ _ _ _ _ _ hz
      have hx2' := hx2
      rw [hcx] at hx2'
      obtain ⟨zz, hzz⟩ : ∃ zz, zz = (castRun l nm z j).1 := ⟨_, rfl⟩
      obtain ⟨L0, hL0⟩ : ∃ L0, L0 = (castRun l nm z j).2 := ⟨_, rfl⟩
      have hJ2 := HW.out
      unfold CaAt at hJ2
      rw [← hzz, ← hL0] at hJ2
      replace hJ2 := hJ2.box x hb2 (by rw [← hX]; exact hx2')
      rw [← hX] at hJ2
      obtain ⟨n1, n2⟩ := (HH.out.1.below hJ2.bel).nms j hjl
      rw [show l[j] = x from by rw [List.getElem?_eq_getElem hjl] at hx; injection hx] at n1 n2
      have hst : castRun l nm z (j + 1) = if x.kind = 9 ∧ (nm j).length = 1 then
          (wrongZ 4 zz (castC (castN l nm x j) (get L0 (upOf nm l j)) x.m), put L0 (upOf nm l j) (x.m.stamp, x.m.frm)) else (zz, L0) := by
        show castStep l nm j (castRun l nm z j) = _
        unfold castStep
        rw [evAt_of hx, ← hzz, ← hL0, hzz, hL0]
      have HZ := Lib.hid (And.intro hz hX)
      have HG := Lib.hid (And.intro hr (And.intro y1 (And.intro p1 (And.intro hcx (And.intro hlt hx)))))
      have H2 := Lib.hid hJ2
      have HST := Lib.hid hst
      have e0 : w2.cell? ⟨X, 0, none⟩ = some (.int .i64 x.kind) := cell_of_row _ _ 0 _ _ _ hx2'
      have e17 : w2.cell? ⟨X, 17, none⟩ = some (.slice x.na (nm j).length x.nc) := by rw [n1]; exact cell_of_row _ _ 17 _ _ _ hx2'
      have HN := Lib.hid n2
      rw [had]
      clear hr hz hbz hX hx2 hx2' y1 p1 hcx hx hlt hjl hTr hb2 HW H0 had hJ2 n1 n2 hzz hL0 hst
      unfold zEv at hw2 HZ
      go_upto_region 4 with (first
        | (with_reducible refine wpList_load_mid rfl 36 (.tmp 20) rfl g (o + j * 19) rfl cx.toList _ HG.out.1 Tryz.underlying36 rfl (by rw [Array.length_toList, HG.out.2.1]; kernel_rfl) ?_)
        | (refine wpList_store_row rfl 36 (.tmp 4) (.tmp 21) rfl X cx (by rw [HZ.out.2]; rfl) (by rw [← hc1]; rfl) 36 _ HZ.out.1 (by rw [HG.out.2.1]; kernel_rfl) (by rw [HG.out.2.1]; rfl) HG.out.2.2.1 ?_)
        | fail)
      rw [← hw2, ← HZ.out.2]
      clear hw2 hc1 HZ
      by_cases h9 : x.kind = 9
      rotate_left
      · have d1 : (x.kind != 9) = true := by simpa using h9
        have HE := Lib.hid (show CaAt wB g o N l M R ub (castRun l nm z (j + 1)) w2 from by
          rw [HST.out, if_neg (fun h => h9 h.1)]
          exact H2.out.drop (Q := [evPc X x]))
        have HLT := HG.out.2.2.2.2.1
        clear h9 H2 HST
        go_wp2_with fail
        exact ⟨⟨j + 1, HLT, by go_num, HE⟩, by simp [intOf]; omega⟩
      by_cases h1 : (nm j).length = 1
      rotate_left
      · obtain ⟨ln, hln⟩ : ∃ ln, ln = (nm j).length := ⟨_, rfl⟩
        have d1 : ((ln : Int) != 1) = true := by rw [bne_iff_ne]; omega
        have HE := Lib.hid (show CaAt wB g o N l M R ub (castRun l nm z (j + 1)) w2 from by
          rw [HST.out, if_neg (fun h => h1 h.2)]
          exact H2.out.drop (Q := [evPc X x]))
        have HLT := HG.out.2.2.2.2.1
        rw [h9] at e0
        rw [← hln] at e17
        clear h9 H2 HST h1 HN hln
        go_wp2_with fail
        exact ⟨⟨j + 1, HLT, by go_num, HE⟩, by simp [intOf]; omega⟩
      rw [h9] at e0
      have HST2 := Lib.hid (HST.out.trans (if_pos ⟨h9, h1⟩))
      have c0 : w2.cell? ⟨TT, 0, none⟩ = some (.slice (some ⟨g, o, none⟩) n lc) := by
        rw [HH.out.2.2.2.1, H2.out.trace.2.2.1 ⟨w2, br w2⟩, H2.out.trace.1, ← HH.out.2.2.1, ← HH.out.2.2.2.2.1, ← HH.out.2.2.2.2.2, HLS.out (by have := HG.out.2.2.2.2.1; have := HH.out.2.2.1; omega)]
      have HX := Lib.hid h1
      rw [h1] at e17
      clear HST h9 h1
      have hjc : j ≤ lc := by have := HG.out.2.2.2.2.1; omega
      have H3 := Lib.hid (show (0 : Nat) = castN l nm x 0 ∧ JZ wB g o l (evPc X x :: mapPc upV ub (vals keyV2 L0) :: R) N M zz w2 from ⟨rfl, H2.out⟩)
      clear HN H2
      go_wp2_with fail
      clear c0 e17 e0
      go_loopw [5, 38] (fun c q wr => ∃ (e ce : Nat), e ≤ j ∧ c = .int .i64 (ce : Int) ∧ q = .int .i64 (e : Int) ∧ Hid (ce = castN l nm x e ∧ JZ wB g o l (evPc X x :: mapPc upV ub (vals keyV2 L0) :: R) N M zz wr)) (fun _ q _ => j - (intOf q).toNat)
      case atStart => exact ⟨0, 0, by omega, rfl, rfl, H3⟩
      case round =>
        obtain ⟨e, ce, he, rfl, rfl, HW⟩ := hrel
        have hce : ce ≤ 500 := by rw [HW.out.1]; have := castN_le l nm x e; omega
        by_cases hej : e < j
        · have hq1 : decide ((e : Int) < (j : Int)) = true := by rw [decide_eq_true_eq]; omega
          have hq2 : decide (e < j) = true := by rw [decide_eq_true_eq]; omega
          have hq3 : (e : Int) < (j : Int) := by omega
          have hel : e < l.length := by have := HG.out.2.2.2.2.1; have := HH.out.2.2.1; omega
          obtain ⟨y, hy⟩ : ∃ y, l[e]? = some y := ⟨_, List.getElem?_eq_getElem hel⟩
          have hTr := HH.out.1.below HW.out.2.bel
          have hr : wr.rangeAt g (o + e * 19) (evA y).toList := by
            have h := (hTr.ev e hel).2.1
            rwa [show l[e] = y from by rw [List.getElem?_eq_getElem hel] at hy; injection hy] at h
          obtain ⟨cy, hcy⟩ : ∃ cy, cy = evA y := ⟨_, rfl⟩
          rw [← hcy] at hr
          have y1 : cy.size = 19 := by rw [hcy]; rfl
          have p1 : cy.all (·.oneCell') = true := by rw [hcy]; simp [evA, Value.oneCell']
          have hc1 : cy.toList.toArray = cy := by simp
          obtain ⟨Y, hY⟩ : ∃ Y, Y = wr.heap.size := ⟨_, rfl⟩
          have hz := heap_alloc_new wr (.cells zEv 36)
          have hbz := ba (br wr) (.cells zEv 36)
          rw [← hY] at hz
          obtain ⟨w3, hw3⟩ : ∃ w3, w3 = (wr.alloc (.cells zEv 36)).setRow Y cy := ⟨_, rfl⟩
          have hb3 : Below wr.heap.size wr w3 := by rw [hw3]; exact (kept_setRow' (wr.alloc (.cells zEv 36)) Y cy).out hbz hbz.size (fun k hk' e => by omega)
          have hy3 : w3.heap[Y]? = some (.cells cy 36 (0, 0)) := by rw [hw3]; exact setRow_heap _ _ _ _ _ _ hz
          rw [hcy] at hy3
          have hJ3 := HW.out.2.below hb3
          have hx3 : w3.heap[X]? = some (.cells (evA x) 36 (0, 0)) := hJ3.part List.mem_cons_self
          have HZ := Lib.hid (And.intro hz hY)
          have HY := Lib.hid (And.intro hr (And.intro y1 (And.intro p1 (And.intro hcy (And.intro hej hy)))))
          have H3 := Lib.hid hJ3
          have HB := Lib.hid (And.intro hx3 hy3)
          have HCE := Lib.hid HW.out.1
          clear hr hz hbz hY hx3 hy3 y1 p1 hcy hy hej hel hTr hb3 HW hJ3
          unfold zEv at hw3 HZ
          go_upto_region 9 with (first
            | (with_reducible refine wpList_load_mid rfl 36 (.tmp 40) rfl g (o + e * 19) rfl cy.toList _ HY.out.1 Tryz.underlying36 rfl (by rw [Array.length_toList, HY.out.2.1]; kernel_rfl) ?_)
            | (refine wpList_store_row rfl 36 (.tmp 7) (.tmp 41) rfl Y cy (by rw [HZ.out.2]; rfl) (by rw [← hc1]; rfl) 36 _ HZ.out.1 (by rw [HY.out.2.1]; kernel_rfl) (by rw [HY.out.2.1]; rfl) HY.out.2.2.1 ?_)
            | fail)
          rw [← hw3, ← HZ.out.2]
          clear hw3 hc1 HZ
          obtain ⟨bb, hbb⟩ : ∃ bb, bb = castB l nm x e := ⟨_, rfl⟩
          simp only [Act.put]
          go_cut [75] (fun s75 wx => s75 = .bool bb ∧ JZ wB g o l (evPc X x :: mapPc upV ub (vals keyV2 L0) :: R) N M zz wx)
          case first =>
            --{
            have hy3 := HB.out.2
            have hx3 := HB.out.1
            have hyb := (Array.getElem?_eq_some_iff.1 hy3).1
            have hxb := (Array.getElem?_eq_some_iff.1 hx3).1
            have yk := Bel.cell (show w3.cell? ⟨Y, 0, none⟩ = some (.int .i64 y.kind) from cell_of_row _ _ 0 _ _ _ hy3) hyb
            have y13 := Bel.cell (show w3.cell? ⟨Y, 13, none⟩ = some (.int .u64 (y.vn : Int)) from cell_of_row _ _ 13 _ _ _ hy3) hyb
            have y14 := Bel.cell (show w3.cell? ⟨Y, 14, none⟩ = some (.int .u64 (y.vce : Int)) from cell_of_row _ _ 14 _ _ _ hy3) hyb
            have y15 := Bel.cell (show w3.cell? ⟨Y, 15, none⟩ = some (.int .i64 y.vcr) from cell_of_row _ _ 15 _ _ _ hy3) hyb
            have y16 := Bel.cell (show w3.cell? ⟨Y, 16, none⟩ = some (.int .u64 (y.vm : Int)) from cell_of_row _ _ 16 _ _ _ hy3) hyb
            have x13 := Bel.cell (show w3.cell? ⟨X, 13, none⟩ = some (.int .u64 (x.vn : Int)) from cell_of_row _ _ 13 _ _ _ hx3) hxb
            have x14 := Bel.cell (show w3.cell? ⟨X, 14, none⟩ = some (.int .u64 (x.vce : Int)) from cell_of_row _ _ 14 _ _ _ hx3) hxb
            have x15 := Bel.cell (show w3.cell? ⟨X, 15, none⟩ = some (.int .i64 x.vcr) from cell_of_row _ _ 15 _ _ _ hx3) hxb
            have x16 := Bel.cell (show w3.cell? ⟨X, 16, none⟩ = some (.int .u64 (x.vm : Int)) from cell_of_row _ _ 16 _ _ _ hx3) hxb
            have x7 := Bel.cell (show w3.cell? ⟨X, 7, none⟩ = some (.int .i64 x.m.frm) from cell_of_row _ _ 7 _ _ _ hx3) hxb
            obtain ⟨ln, hln⟩ : ∃ ln, ln = (nm e).length := ⟨_, rfl⟩
            have hTr := HH.out.1.below H3.out.bel
            have hel : e < l.length := (List.getElem?_eq_some_iff.1 HY.out.2.2.2.2.2).1
            obtain ⟨n1, n2⟩ := hTr.nms e hel
            rw [show l[e] = y from by have hy := HY.out.2.2.2.2.2; rw [List.getElem?_eq_getElem hel] at hy; injection hy, ← hln] at n1
            rw [show l[e] = y from by have hy := HY.out.2.2.2.2.2; rw [List.getElem?_eq_getElem hel] at hy; injection hy] at n2
            have y17 := Bel.cell (show w3.cell? ⟨Y, 17, none⟩ = some (.slice y.na ln y.nc) from by rw [n1]; exact cell_of_row _ _ 17 _ _ _ hy3) hyb
            obtain ⟨cy2, hcy2⟩ : ∃ cs, cs = msgA y.m := ⟨_, rfl⟩
            obtain ⟨cm, hcm⟩ : ∃ cs, cs = msgA x.m := ⟨_, rfl⟩
            have q1 : cy2.size = 6 := by rw [hcy2]; rfl
            have q2 : cm.size = 6 := by rw [hcm]; rfl
            have HM := Lib.hid (And.intro q1 q2)
            have HSM := Lib.hid (show ∀ z : Bel w3, Calls Tryz.prog 21 #[.agg cy2, .agg cm] z.val fun e w' => e = .returned (.bool (sameM y.m x.m)) ∧ Below z.val.heap.size z.val w' from fun z => by
              rw [hcy2, hcm]
              exact jsame_any y.m x.m z.val ((msgR_of (hTr.ok HY.out.2.2.2.2.2)).below z.prop) ((msgR_of (hTr.ok HG.out.2.2.2.2.2)).below z.prop))
            have HG1 := Lib.hid (Bel.range (show w3.rangeAt Y 7 cy2.toList from by rw [hcy2]; exact range_of hy3 _ (fun j u hu => ev_msg y j u hu)) hyb)
            have HG2 := Lib.hid (Bel.range (show w3.rangeAt X 7 cm.toList from by rw [hcm]; exact range_of hx3 _ (fun j u hu => ev_msg x j u hu)) hxb)
            have hbd : bb = (decide (y.kind = 8) && (decide (viewK y = viewK x) && (sameM y.m x.m && (decide (ln = 1) && decide ((name0 nm e).1 = x.m.frm))))) := by
              rw [hbb]
              unfold castB
              rw [evAt_of HY.out.2.2.2.2.2, hln]
            clear hcy2 hcm q1 q2 hy3 hx3 hyb hxb hbb
            by_cases k8 : y.kind = 8
            rotate_left
            · obtain rfl : bb = false := by rw [hbd, decide_eq_false k8]; rfl
              have d1 : (y.kind == 8) = false := by simpa using k8
              clear hbd k8 n1 n2 hln hTr hel
              refine wp_region_bel (by kernel_rfl) (by kernel_rfl) ?_
              repeat (first
                | ((with_reducible refine wpQuiet_load_midW rfl 31 (.tmp 53) rfl Y 7 rfl cy2.toList _ HG1.out Tryz.underlying31 rfl (by rw [Array.length_toList, HM.out.1]; kernel_rfl) ?_); simp only [Act.put, Array.toArray_toList, List.setIfInBounds_toArray, List.set_cons_zero, List.set_cons_succ])
                | ((with_reducible refine wpQuiet_load_midW rfl 31 (.tmp 55) rfl X 7 rfl cm.toList _ HG2.out Tryz.underlying31 rfl (by rw [Array.length_toList, HM.out.2]; kernel_rfl) ?_); simp only [Act.put, Array.toArray_toList, List.setIfInBounds_toArray, List.set_cons_zero, List.set_cons_succ])
                | go_big_quiet_step ((go_at_call 21; with_reducible exact bel_call (HSM.out _))))
              refine wpQuiet_nil ?_
              intro w5 hw5
              have HB5 := Lib.hid (bel_out hw5)
              clear hw5
              clear yk y13 y14 y15 y16 x13 x14 x15 x16 y17 x7 d1
              go_wp2_with fail
              go_meet
              exact ⟨rfl, H3.out.below HB5.out⟩
            rw [decide_eq_true k8, Bool.true_and] at hbd
            rw [k8] at yk
            have hve := fun W : World => viewEql W (y.vn : Int) (y.vce : Int) y.vcr (y.vm : Int) (x.vn : Int) (x.vce : Int) x.vcr (x.vm : Int)
            obtain ⟨vb, hvb⟩ : ∃ vb, vb = ((((y.vn : Int) == (x.vn : Int) && (y.vce : Int) == (x.vce : Int)) && y.vcr == x.vcr) && (y.vm : Int) == (x.vm : Int)) := ⟨_, rfl⟩
            have hvd : decide (viewK y = viewK x) = vb := by
              rw [hvb, Bool.eq_iff_iff]
              simp [viewK, Prod.ext_iff, and_assoc]
              omega
            rw [← hvb] at hve
            rw [hvd] at hbd
            clear hvb hvd k8
            cases vb
            · obtain rfl : bb = false := by rw [hbd]; rfl
              clear hbd n1 n2 hln hTr hel
              refine wp_region_bel (by kernel_rfl) (by kernel_rfl) ?_
              repeat (first
                | ((with_reducible refine wpQuiet_load_midW rfl 31 (.tmp 53) rfl Y 7 rfl cy2.toList _ HG1.out Tryz.underlying31 rfl (by rw [Array.length_toList, HM.out.1]; kernel_rfl) ?_); simp only [Act.put, Array.toArray_toList, List.setIfInBounds_toArray, List.set_cons_zero, List.set_cons_succ])
                | ((with_reducible refine wpQuiet_load_midW rfl 31 (.tmp 55) rfl X 7 rfl cm.toList _ HG2.out Tryz.underlying31 rfl (by rw [Array.length_toList, HM.out.2]; kernel_rfl) ?_); simp only [Act.put, Array.toArray_toList, List.setIfInBounds_toArray, List.set_cons_zero, List.set_cons_succ])
                | go_big_quiet_step ((go_at_call 21; with_reducible exact bel_call (HSM.out _))))
              refine wpQuiet_nil ?_
              intro w5 hw5
              have HB5 := Lib.hid (bel_out hw5)
              clear hw5
              clear yk y13 y14 y15 y16 x13 x14 x15 x16 y17 x7 hve
              go_wp2_with fail
              go_meet
              exact ⟨rfl, H3.out.below HB5.out⟩
            rw [Bool.true_and] at hbd
            obtain ⟨sb, hsb⟩ : ∃ sb, sb = sameM y.m x.m := ⟨_, rfl⟩
            rw [← hsb] at hbd HSM
            clear hsb
            cases sb
            · obtain rfl : bb = false := by rw [hbd]; rfl
              clear hbd n1 n2 hln hTr hel
              refine wp_region_bel (by kernel_rfl) (by kernel_rfl) ?_
              repeat (first
                | ((with_reducible refine wpQuiet_load_midW rfl 31 (.tmp 53) rfl Y 7 rfl cy2.toList _ HG1.out Tryz.underlying31 rfl (by rw [Array.length_toList, HM.out.1]; kernel_rfl) ?_); simp only [Act.put, Array.toArray_toList, List.setIfInBounds_toArray, List.set_cons_zero, List.set_cons_succ])
                | ((with_reducible refine wpQuiet_load_midW rfl 31 (.tmp 55) rfl X 7 rfl cm.toList _ HG2.out Tryz.underlying31 rfl (by rw [Array.length_toList, HM.out.2]; kernel_rfl) ?_); simp only [Act.put, Array.toArray_toList, List.setIfInBounds_toArray, List.set_cons_zero, List.set_cons_succ])
                | go_big_quiet_step ((go_at_call 21; with_reducible exact bel_call (HSM.out _))))
              refine wpQuiet_nil ?_
              intro w5 hw5
              have HB5 := Lib.hid (bel_out hw5)
              clear hw5
              clear yk y13 y14 y15 y16 x13 x14 x15 x16 y17 x7 hve
              go_wp2_with fail
              go_meet
              exact ⟨rfl, H3.out.below HB5.out⟩
            rw [Bool.true_and] at hbd
            by_cases h1 : ln = 1
            rotate_left
            · obtain rfl : bb = false := by rw [hbd, decide_eq_false h1]; rfl
              have d1 : ((ln : Int) == 1) = false := by rw [beq_eq_false_iff_ne]; omega
              clear hbd n1 n2 hln hTr hel h1
              refine wp_region_bel (by kernel_rfl) (by kernel_rfl) ?_
              repeat (first
                | ((with_reducible refine wpQuiet_load_midW rfl 31 (.tmp 53) rfl Y 7 rfl cy2.toList _ HG1.out Tryz.underlying31 rfl (by rw [Array.length_toList, HM.out.1]; kernel_rfl) ?_); simp only [Act.put, Array.toArray_toList, List.setIfInBounds_toArray, List.set_cons_zero, List.set_cons_succ])
                | ((with_reducible refine wpQuiet_load_midW rfl 31 (.tmp 55) rfl X 7 rfl cm.toList _ HG2.out Tryz.underlying31 rfl (by rw [Array.length_toList, HM.out.2]; kernel_rfl) ?_); simp only [Act.put, Array.toArray_toList, List.setIfInBounds_toArray, List.set_cons_zero, List.set_cons_succ])
                | go_big_quiet_step ((go_at_call 21; with_reducible exact bel_call (HSM.out _))))
              refine wpQuiet_nil ?_
              intro w5 hw5
              have HB5 := Lib.hid (bel_out hw5)
              clear hw5
              clear yk y13 y14 y15 y16 x13 x14 x15 x16 y17 x7 hve d1
              go_wp2_with fail
              go_meet
              exact ⟨rfl, H3.out.below HB5.out⟩
            subst h1
            rw [decide_eq_true rfl, Bool.true_and] at hbd
            have hl0 : 0 < (nm e).length := by omega
            rw [← n1, hln] at n2
            obtain ⟨gn, on, hna, hgn, c0, c1⟩ := names_cells n2 hl0
            obtain ⟨yn, hyn⟩ : ∃ yn, yn = (nm e)[0] := ⟨_, rfl⟩
            have hn0 : name0 nm e = yn := by
              rw [hyn]
              unfold name0
              rw [List.headD_eq_head?_getD, List.head?_eq_getElem?, List.getElem?_eq_getElem hl0]
              rfl
            rw [← hyn] at c0
            rw [hn0] at hbd
            have m0 : ∀ z : Bel w3, z.val.cell? ⟨gn, on, none⟩ = some (.int .i64 yn.1) := Bel.cell (by simpa using c0) hgn
            have hfd : (yn.1 == x.m.frm) = bb := by rw [hbd]; rfl
            rw [hna] at y17
            clear hbd n1 n2 hln hTr hel hna hgn c0 c1 hn0 hyn hl0
            refine wp_region_bel (by kernel_rfl) (by kernel_rfl) ?_
            repeat (first
              | ((with_reducible refine wpQuiet_load_midW rfl 31 (.tmp 53) rfl Y 7 rfl cy2.toList _ HG1.out Tryz.underlying31 rfl (by rw [Array.length_toList, HM.out.1]; kernel_rfl) ?_); simp only [Act.put, Array.toArray_toList, List.setIfInBounds_toArray, List.set_cons_zero, List.set_cons_succ])
              | ((with_reducible refine wpQuiet_load_midW rfl 31 (.tmp 55) rfl X 7 rfl cm.toList _ HG2.out Tryz.underlying31 rfl (by rw [Array.length_toList, HM.out.2]; kernel_rfl) ?_); simp only [Act.put, Array.toArray_toList, List.setIfInBounds_toArray, List.set_cons_zero, List.set_cons_succ])
              | go_big_quiet_step ((go_at_call 21; with_reducible exact bel_call (HSM.out _))))
            refine wpQuiet_nil ?_
            intro w5 hw5
            have HB5 := Lib.hid (bel_out hw5)
            clear hw5
            clear yk y13 y14 y15 y16 x13 x14 x15 x16 y17 x7 hve m0 hfd
            go_wp2_with fail
            go_meet
            exact ⟨rfl, H3.out.below HB5.out⟩
            --}
          case rest =>
          obtain ⟨rfl, hJ⟩ := hcut
          have HLE := HY.out.2.2.2.2.1
          cases bb
          · have HE := Lib.hid (show ce = castN l nm x (e + 1) ∧ JZ wB g o l (evPc X x :: mapPc upV ub (vals keyV2 L0) :: R) N M zz wc from ⟨by
              unfold castN
              rw [← hbb, ← HCE.out]
              rfl, hJ⟩)
            clear hJ hbb H3 HB HCE
            go_wp2_with fail
            exact ⟨⟨e + 1, ce, HLE, rfl, by go_num, HE⟩, by simp [intOf]; omega⟩
          · have HE := Lib.hid (show ce + 1 = castN l nm x (e + 1) ∧ JZ wB g o l (evPc X x :: mapPc upV ub (vals keyV2 L0) :: R) N M zz wc from ⟨by
              unfold castN
              rw [← hbb, ← HCE.out]
              rfl, hJ⟩)
            clear hJ hbb H3 HB HCE
            go_wp2_with fail
            exact ⟨⟨e + 1, ce + 1, HLE, by go_num, by go_num, HE⟩, by simp [intOf]; omega⟩
        · have hq1 : decide ((e : Int) < (j : Int)) = false := by rw [decide_eq_false_iff_not]; omega
          have hq2 : decide (e < j) = false := by rw [decide_eq_false_iff_not]; omega
          have HE := Lib.hid (show ce = castN l nm x j ∧ JZ wB g o l (evPc X x :: mapPc upV ub (vals keyV2 L0) :: R) N M zz wr from by
            have := HW.out
            rwa [show e = j by omega] at this)
          clear HW H3 hej
          have hx3 : wr.heap[X]? = some (.cells (evA x) 36 (0, 0)) := HE.out.2.part List.mem_cons_self
          have hxb := (Array.getElem?_eq_some_iff.1 hx3).1
          have hjl : j < l.length := (List.getElem?_eq_some_iff.1 HG.out.2.2.2.2.2).1
          obtain ⟨n1, n2⟩ := (HH.out.1.below HE.out.2.bel).nms j hjl
          rw [show l[j] = x from by have hx := HG.out.2.2.2.2.2; rw [List.getElem?_eq_getElem hjl] at hx; injection hx] at n1 n2
          have hl0 : 0 < (nm j).length := by rw [HX.out]; omega
          rw [← n1] at n2
          obtain ⟨gn, on, hna, hgn, c0, c1⟩ := names_cells n2 hl0
          obtain ⟨y, hy⟩ : ∃ y, y = (nm j)[0] := ⟨_, rfl⟩
          have hn0 : name0 nm j = y := by
            rw [hy]
            unfold name0
            rw [List.headD_eq_head?_getD, List.head?_eq_getElem?, List.getElem?_eq_getElem hl0]
            rfl
          rw [← hy] at c0 c1
          have m0 : ∀ z : Bel wr, z.val.cell? ⟨gn, on, none⟩ = some (.int .i64 y.1) := Bel.cell (by simpa using c0) hgn
          have m1 : ∀ z : Bel wr, z.val.cell? ⟨gn, on + 1, none⟩ = some (.int .u32 (y.2 : Int)) := Bel.cell (by simpa using c1) hgn
          have x17 := Bel.cell (show wr.cell? ⟨X, 17, none⟩ = some (.slice (some ⟨gn, on, none⟩) 1 x.nc) from by rw [← hna, ← HX.out, n1]; exact cell_of_row _ _ 17 _ _ _ hx3) hxb
          have x13 := Bel.cell (show wr.cell? ⟨X, 13, none⟩ = some (.int .u64 (x.vn : Int)) from cell_of_row _ _ 13 _ _ _ hx3) hxb
          have hup : upOf nm l j = (y.1, y.2, x.vn) := by unfold upOf; rw [hn0, evAt_of HG.out.2.2.2.2.2]
          have HUP := Lib.hid hup
          obtain ⟨U, hU⟩ : ∃ U, U = wr.heap.size := ⟨_, rfl⟩
          have HU := Lib.hid hU
          clear hx3 hxb hjl n1 n2 hl0 hna hgn c0 c1 hy hn0 hup
          go_upto_region 12 with (fail)
          refine wp_region_mask (fun w' => ∃ z : Bel wr, w' = z.val) 9 2 [true, true, true, true, true, true, true, true, false, false] #[true, true, true, true, true, true, true, true, false, false] (by kernel_rfl) (by kernel_rfl) (by kernel_rfl) ⟨⟨_, (br wr).drew⟩, rfl⟩ ?_
          have HB0 := Lib.hid (show Below wr.heap.size wr wr.drew ∧ wr.drew.heap.size = U from ⟨(br wr).drew, hU.symm⟩)
          clear hU
          generalize wr.drew = W0 at *
          iterate 8
            refine wpMask_take _ (Or.inl ⟨by rfl, fun w' hS => by obtain ⟨z, rfl⟩ := hS; have q1 := x17 z; have q2 := m0 z; have q3 := m1 z; have q4 := x13 z; go_simp; try with_reducible rfl⟩) ?_
            simp only [Act.put, List.getElem_toArray, List.getElem_cons_succ, List.getElem_cons_zero, List.setIfInBounds_toArray, List.set_cons_zero, List.set_cons_succ]
          refine wpMask_skip (wpMask_skip (wpMask_nil ?_))
          clear x17 m0 m1 x13
          refine wpAnyS_ready (rs := [8]) (by kernel_rfl) (by simp) ?_
          refine AllReadyS.cons rfl (fun K hK => ?_) AllReadyS.nil
          go_simp
          refine hK.out _ _ (fun _ => ⟨⟨_, ba HB0.out.1 _⟩, rfl⟩) ?_
          clear hK K
          simp only [Act.put, List.getElem_toArray, List.getElem_cons_succ, List.getElem_cons_zero, List.setIfInBounds_toArray, List.set_cons_zero, List.set_cons_succ]
          refine wpAnyS_ready (rs := [9]) (by kernel_rfl) (by simp) ?_
          refine AllReadyS.cons rfl (fun K hK => ?_) AllReadyS.nil
          go_simp
          refine hK.out _ _ (fun h => absurd h (by omega)) ?_
          clear hK K
          refine wpAnyS_done (by kernel_rfl) ?_ _
          obtain ⟨w5, hw5⟩ : ∃ w5, w5 = W0.alloc (.cells #[.int .i64 y.1, .int .u32 (y.2 : Int), .int .u64 (x.vn : Int)] 101) := ⟨_, rfl⟩
          have hJ5 := (HE.out.2.below HB0.out.1).var #[.int .i64 y.1, .int .u32 (y.2 : Int), .int .u64 (x.vn : Int)] 101 (by decide) (by decide)
          rw [← hw5, HB0.out.2] at hJ5
          rw [← hw5, HB0.out.2]
          have hu5 : w5.heap[U]? = some (.cells #[.int .i64 y.1, .int .u32 (y.2 : Int), .int .u64 (x.vn : Int)] 101 (0, 0)) := hJ5.part List.mem_cons_self
          have u0 : w5.cell? ⟨U, 0, none⟩ = some (.int .i64 y.1) := cell_of_row _ _ 0 _ _ _ hu5
          have u1 : w5.cell? ⟨U, 1, none⟩ = some (.int .u32 (y.2 : Int)) := cell_of_row _ _ 1 _ _ _ hu5
          have u2 : w5.cell? ⟨U, 2, none⟩ = some (.int .u64 (x.vn : Int)) := cell_of_row _ _ 2 _ _ _ hu5
          have hgm : GMap upV w5 ub (vals keyV2 L0) := hJ5.part (List.mem_cons_of_mem _ (List.mem_cons_of_mem _ List.mem_cons_self))
          have hlk : ∃ (k1 : Nat) (k2 : Int) (th : Bool), (Instr.lookup 99 (.map (some ub)) (.agg #[.int .i64 y.1, .int .u32 (y.2 : Int), .int .u64 (x.vn : Int)]) true).run Tryz.prog w5 = .ok (.tuple #[.agg #[.int .u64 (k1 : Int), .int .i64 k2], .bool th]) w5 ∧ (th = false ∧ get L0 (upOf nm l j) = none ∨ th = true ∧ get L0 (upOf nm l j) = some (k1, k2)) := by
            have h := hgm.lookup_ok (P := Tryz.prog) Tryz.underlying99 upLawJ (z := .agg #[.int .u64 0, .int .i64 0]) (by kernel_rfl) (upOf nm l j)
            rw [get_vals, has_vals, has_get] at h
            rcases hget : get L0 (upOf nm l j) with _ | k
            · rw [hget, HUP.out] at h
              exact ⟨0, 0, false, h, .inl ⟨rfl, rfl⟩⟩
            · rw [hget, HUP.out] at h
              exact ⟨k.1, k.2, true, h, .inr ⟨rfl, rfl⟩⟩
          obtain ⟨k1, k2, th, hlk, hth⟩ := hlk
          obtain ⟨K, hK⟩ : ∃ K, K = w5.heap.size := ⟨_, rfl⟩
          obtain ⟨w6, hw6⟩ : ∃ w6, w6 = w5.alloc (.cells #[.int .u64 (k1 : Int), .int .i64 k2] 83) := ⟨_, rfl⟩
          have hJ6 := hJ5.var #[.int .u64 (k1 : Int), .int .i64 k2] 83 (by decide) (by decide)
          rw [← hw6, ← hK] at hJ6
          have H6 := Lib.hid hJ6
          have HTH := Lib.hid hth
          have HCE := Lib.hid HE.out.1
          clear hJ5 hu5 hgm hJ6 hth HE HB0 hw5 HU
          go_upto_region 14 with (fail)
          rw [← hw6, ← hK]
          clear hw6 hK hlk u0 u1 u2
          obtain ⟨cc, hcc⟩ : ∃ cc, cc = castC (castN l nm x j) (get L0 (upOf nm l j)) x.m := ⟨_, rfl⟩
          obtain ⟨cm, hcm⟩ : ∃ cs, cs = msgA x.m := ⟨_, rfl⟩
          have q2 : cm.size = 6 := by rw [hcm]; rfl
          have HM := Lib.hid (And.intro q2 hcm)
          have HOF := Lib.hid (fun W : World => kOf_any x.m W)
          rw [← hcm] at HOF
          clear q2
          go_cut [10] (fun s10 wx => s10 = .bool th ∧ JZ wB g o l (varPc U #[.int .i64 y.1, .int .u32 (y.2 : Int), .int .u64 (x.vn : Int)] 101 (by decide) (by decide) :: evPc X x :: mapPc upV ub (vals keyV2 L0) :: R) N M (wrongZ 4 zz cc) wx)
          case first =>
            --{
            rw [← HCE.out] at hcc
            by_cases c1 : ce = 1
            rotate_left
            · replace hcc : cc = true := by
                rw [hcc]
                unfold castC
                rw [show ((ce : Int) == 1) = false from by rw [beq_eq_false_iff_ne]; omega]
                rfl
              have d1 : ((ce : Int) != 1) = true := by rw [bne_iff_ne]; omega
              clear c1 hcm HOF
              refine wp_region_bel_tail 14 (by kernel_rfl) (by kernel_rfl) ?_
              simp only [List.take_succ_cons, List.take_zero, List.drop_succ_cons, List.drop_zero]
              repeat (go_big_quiet_step (((fail))))
              refine wpQuiet_nil ?_
              intro w7 hw7
              have H7 := Lib.hid (HWR.out _ _ _ (H6.out.below (bel_out hw7)) 4 (true))
              clear hw7
              go_wp2_with fail
              refine H7.out.mono ?_
              rintro e w8 ⟨rfl, h8⟩
              have H8 := Lib.hid (h8.drop (Q := [varPc K _ _ (by decide) (by decide)]))
              clear h8 H7
              go_wp2_with fail
              go_meet
              exact ⟨rfl, by rw [hcc]; exact H8.out⟩
            subst c1
            rcases HTH.out with ⟨rfl, hg⟩ | ⟨rfl, hg⟩
            · replace hcc : cc = false := by
                rw [hcc, hg]
                rfl
              clear hcm HOF hg
              refine wp_region_bel_tail 14 (by kernel_rfl) (by kernel_rfl) ?_
              simp only [List.take_succ_cons, List.take_zero, List.drop_succ_cons, List.drop_zero]
              repeat (go_big_quiet_step (((fail))))
              refine wpQuiet_nil ?_
              intro w7 hw7
              have H7 := Lib.hid (HWR.out _ _ _ (H6.out.below (bel_out hw7)) 4 (false))
              clear hw7
              go_wp2_with fail
              refine H7.out.mono ?_
              rintro e w8 ⟨rfl, h8⟩
              have H8 := Lib.hid (h8.drop (Q := [varPc K _ _ (by decide) (by decide)]))
              clear h8 H7
              go_wp2_with fail
              go_meet
              exact ⟨rfl, by rw [hcc]; exact H8.out⟩
            · replace hcc : cc = decide (0 ≤ keyZ (k1 : Int) k2 (x.m.stamp : Int) x.m.frm) := by
                rw [hcc, hg]
                rfl
              have hk6 : w6.heap[K]? = some (.cells #[.int .u64 (k1 : Int), .int .i64 k2] 83 (0, 0)) := H6.out.part List.mem_cons_self
              have hkb := (Array.getElem?_eq_some_iff.1 hk6).1
              have k0c := Bel.cell (show w6.cell? ⟨K, 0, none⟩ = some (.int .u64 (k1 : Int)) from cell_of_row _ _ 0 _ _ _ hk6) hkb
              have k1c := Bel.cell (show w6.cell? ⟨K, 1, none⟩ = some (.int .i64 k2) from cell_of_row _ _ 1 _ _ _ hk6) hkb
              have hx6 : w6.heap[X]? = some (.cells (evA x) 36 (0, 0)) := H6.out.part (List.mem_cons_of_mem _ (List.mem_cons_of_mem _ List.mem_cons_self))
              have HG2 := Lib.hid (Bel.range (show w6.rangeAt X 7 cm.toList from by rw [hcm]; exact range_of hx6 _ (fun j u hu => ev_msg x j u hu)) (Array.getElem?_eq_some_iff.1 hx6).1)
              clear hcm hg hk6 hkb hx6
              refine wp_region_bel_tail 14 (by kernel_rfl) (by kernel_rfl) ?_
              simp only [List.take_succ_cons, List.take_zero, List.drop_succ_cons, List.drop_zero]
              repeat (first
                | ((with_reducible refine wpQuiet_load_midW rfl 31 (.tmp 100) rfl X 7 rfl cm.toList _ HG2.out Tryz.underlying31 rfl (by rw [Array.length_toList, HM.out.1]; kernel_rfl) ?_); simp only [Act.put, Array.toArray_toList, List.setIfInBounds_toArray, List.set_cons_zero, List.set_cons_succ])
                | go_big_quiet_step ((first | (go_at_call 24; with_reducible exact bel_call (HOF.out _)) | (go_at_call 23; with_reducible exact bel_call (kCmp_any _ _ _ _ _)))))
              refine wpQuiet_nil ?_
              intro w7 hw7
              have H7 := Lib.hid (HWR.out _ _ _ (H6.out.below (bel_out hw7)) 4 (decide (0 ≤ keyZ (k1 : Int) k2 (x.m.stamp : Int) x.m.frm)))
              clear hw7 k0c k1c HOF HG2
              go_wp2_with fail
              refine H7.out.mono ?_
              rintro e w8 ⟨rfl, h8⟩
              have H8 := Lib.hid (h8.drop (Q := [varPc K _ _ (by decide) (by decide)]))
              clear h8 H7
              go_wp2_with fail
              go_meet
              exact ⟨rfl, by rw [hcc]; exact H8.out⟩
            --}
          case rest =>
          obtain ⟨hcj, hct⟩ : ∃ q : JZ wB g o l (varPc U #[.int .i64 y.1, .int .u32 (y.2 : Int), .int .u64 (x.vn : Int)] 101 (by decide) (by decide) :: evPc X x :: mapPc upV ub (vals keyV2 L0) :: R) N M (wrongZ 4 zz cc) wc, True := ⟨hcut.2, trivial⟩
          obtain ⟨rfl, hcut⟩ := hcut
          have H7 := Lib.hid hcj
          have hu7 := hcj.part List.mem_cons_self
          have hx7 : wc.heap[X]? = some (.cells (evA x) 36 (0, 0)) := hcj.part (List.mem_cons_of_mem _ List.mem_cons_self)
          have hub7 := (Array.getElem?_eq_some_iff.1 hu7).1
          have u0 := Bel.cell (show wc.cell? ⟨U, 0, none⟩ = some (.int .i64 y.1) from cell_of_row _ _ 0 _ _ _ hu7) hub7
          have u1 := Bel.cell (show wc.cell? ⟨U, 1, none⟩ = some (.int .u32 (y.2 : Int)) from cell_of_row _ _ 1 _ _ _ hu7) hub7
          have u2 := Bel.cell (show wc.cell? ⟨U, 2, none⟩ = some (.int .u64 (x.vn : Int)) from cell_of_row _ _ 2 _ _ _ hu7) hub7
          have HG2 := Lib.hid (Bel.range (show wc.rangeAt X 7 cm.toList from by rw [HM.out.2]; exact range_of hx7 _ (fun j u hu => ev_msg x j u hu)) (Array.getElem?_eq_some_iff.1 hx7).1)
          have HLT := HG.out.2.2.2.2.1
          clear hu7 hx7 hub7 hcut hcj hct H6 HTH HCE hcm
          go_upto_region 15 with (fail)
          refine wp_region_bel_tail 5 (by kernel_rfl) (by kernel_rfl) ?_
          simp only [List.take_succ_cons, List.take_zero, List.drop_succ_cons, List.drop_zero]
          repeat (first
            | ((with_reducible refine wpQuiet_load_midW rfl 31 (.tmp 110) rfl X 7 rfl cm.toList _ HG2.out Tryz.underlying31 rfl (by rw [Array.length_toList, HM.out.1]; kernel_rfl) ?_); simp only [Act.put, Array.toArray_toList, List.setIfInBounds_toArray, List.set_cons_zero, List.set_cons_succ])
            | go_big_quiet_step ((go_at_call 24; with_reducible exact bel_call (HOF.out _))))
          refine wpQuiet_nil ?_
          intro w8 hw8
          have h8 := (H7.out.below (bel_out hw8)).drop (Q := [varPc U _ _ (by decide) (by decide), evPc X x])
          clear hw8 u0 u1 u2
          obtain ⟨w9, hrun, hg9, hgr9, _⟩ := (show GMap upV w8 ub (vals keyV2 L0) from h8.part List.mem_cons_self).update (P := Tryz.prog) Tryz.underlying99 upLawJ (upOf nm l j) (keyV2 (x.m.stamp, x.m.frm))
          rw [put_vals keyV2] at hg9
          have HE := Lib.hid (show CaAt wB g o N l M R ub (castRun l nm z (j + 1)) w9 from by
            rw [HST2.out, ← hcc]
            exact h8.map hg9 hgr9)
          rw [HUP.out] at hrun
          have hrun : (Instr.mapUpdate 99 (.map (some ub)) (.agg #[.int .i64 y.1, .int .u32 (y.2 : Int), .int .u64 (x.vn : Int)]) (.agg #[.int .u64 (x.m.stamp : Int), .int .i64 x.m.frm])).run Tryz.prog w8 = .ok () w9 := hrun
          clear h8 hg9 hgr9 H7 HST2 hcc
          go_wp2_with fail
          exact ⟨⟨j + 1, HLT, by go_num, HE⟩, by simp [intOf]; omega⟩
    · have hd1 : decide ((j : Int) < (n : Int)) = false := by rw [decide_eq_false_iff_not]; omega
      have hd2 : decide (j < n) = false := by rw [decide_eq_false_iff_not]; omega
      have HE := Lib.hid (show JZ wB g o l R N M (castRun l nm z l.length).1 wr from by
        have h := HW.out
        unfold CaAt at h
        rw [show j = l.length by rw [← HH.out.2.2.1]; omega] at h
        exact h.drop (Q := [mapPc upV ub _]))
      clear HW H0 hlt
      go_wp2_with fail
      go_end0
      exact ⟨rfl, HE.out⟩
end
end Go.Proofs.YtogagkgkmoppmaaGreatDoor
