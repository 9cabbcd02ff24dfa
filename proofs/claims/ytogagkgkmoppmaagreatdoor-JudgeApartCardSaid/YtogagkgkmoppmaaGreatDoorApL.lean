/-
  The judge of views: the views' chain.
  Conditions: those that each theorem names.
-/
import Derived.Test.YtogagkgkmoppmaaGreatDoorApKZs
import Derived.Test.YtogagkgkmoppmaaGreatDoorApFZs
import Derived.Test.YtogagkgkmoppmaaGreatDoorJuKZs
namespace Go.Proofs.YtogagkgkmoppmaaGreatDoor
set_option linter.unusedVariables false
set_option linter.unusedSimpArgs false
open Go.RowKit GM Go.Shelf
abbrev natV (n : Nat) : Value := .int .i64 (n : Int)
/-- what the walks through views ask of a trace's events -/
def VwOk (l : List Ev) : Prop := ∀ x ∈ l, x.vm < 18446744073709551616 ∧ x.nl ≤ 140737488351232 / 8
def lastStep (i : Nat) (s : Int × List (NameK × Nat)) (y : NameK) : Int × List (NameK × Nat) :=
  (wrongZ 2 s.1 (match get s.2 y with
    | none => false
    | some a => decide ((a : Int) ≠ (i : Int) - 1)), put s.2 y i)
def lastRun (i : Nat) (L : List NameK) (s : Int × List (NameK × Nat)) : Nat → Int × List (NameK × Nat)
  | 0 => s
  | q + 1 => lastStep i (lastRun i L s q) (L.getD q (0, 0))
noncomputable def chB (l : List Ev) (nm : Nat → List NameK) (j : Nat) (m : Int) : Bool := !mostB ((evAt l j).vm : Int) m || !decide (procsL (nm j) = (listS (evAt l j).vm).map fun p : Nat => (p : Int))
noncomputable def chStep (l : List Ev) (nm : Nat → List NameK) (i j : Nat) (s : Int × Int × List (NameK × Nat)) : Int × Int × List (NameK × Nat) :=
  ((lastRun i (nm j) (wrongZ 1 s.1 (chB l nm j s.2.1), s.2.2) (nm j).length).1, ((evAt l j).vm : Int), (lastRun i (nm j) (wrongZ 1 s.1 (chB l nm j s.2.1), s.2.2) (nm j).length).2)
noncomputable def chRun (l : List Ev) (nm : Nat → List NameK) (n : Nat) (z : Int) : Nat → Int × Int × List (NameK × Nat)
  | 0 => (wrongZ 1 z (!(vrun l nm l.length).2), allZ n, [])
  | i + 1 => chStep l nm i ((vplaces l nm).getD i 0) (chRun l nm n z i)
abbrev rowsA (l : List Ev) (js : List Nat) : List Value := rowsE (js.map (evAt l))
theorem rdI_own {w : World} {b n cap : Nat} {ad : Option Addr} {xs : List Int} (h : w.ownsRow b 3 1 (.slice ad n cap) n (intsL xs)) : RdI w ad xs := by
  intro i hi
  obtain ⟨g, c, hv, _, hlt⟩ := h.form (by
    have := h.1
    rw [intsL_len] at this
    omega)
  injection hv with e1 e2 e3
  subst e1
  have h2 := h.cells (g := g) rfl i (.int .i64 xs[i]) (by unfold intsL; simp [hi])
  rw [show (⟨g, 0, none⟩ : Addr).add i = ⟨g, 0 + i, none⟩ from by unfold Addr.add; split <;> simp_all] at h2
  exact ⟨g, 0, rfl, hlt, h2⟩
theorem natsL_ints (l : List Nat) : natsL l = intsL (l.map fun p : Nat => (p : Int)) := by
  unfold natsL intsL
  rw [List.map_map]
  rfl
/-- an event of a row that is held -/
theorem all_at {w : World} {b n cap : Nat} {ad : Option Addr} {l : List Ev} {js : List Nat} (h : w.ownsRow b 36 19 (.slice ad n cap) n (rowsA l js)) {i : Nat} (hi : i < js.length) : ∃ g, ad = some ⟨g, 0, none⟩ ∧ g < w.heap.size ∧ w.rangeAt g (i * 19) (evA (evAt l js[i])).toList := by
  obtain ⟨g, c, hv, _, hlt⟩ := h.form (by
    have := h.1
    rw [rowsE_len19, List.length_map] at this
    omega)
  injection hv with e1 e2 e3
  subst e1
  refine ⟨g, rfl, hlt, fun j u hu => ?_⟩
  have h2 := h.cells (g := g) rfl (i * 19 + j) u (rowsE_at _ i (by simpa using hi) j u (by rw [List.getElem_map]; exact hu))
  rwa [show (⟨g, 0, none⟩ : Addr).add (i * 19 + j) = ⟨g, i * 19 + j, none⟩ from by unfold Addr.add; split <;> simp_all] at h2
/-- an event that is kept in a box, beside a judge -/
theorem JZ.box {wB w w' : World} {g o n : Nat} {l : List Ev} {R : List Pc} {M : JM} {z : Int} (h : JZ wB g o l R n M z w) (x : Ev) (hb : Below w.heap.size w w') (hx : w'.heap[w.heap.size]? = some (.cells (evA x) 36 (0, 0))) : JZ wB g o l (evPc w.heap.size x :: R) n M z w' := h.new (evPc w.heap.size x) hb hx (fun b e => by cases e)
section
variable {wB w : World} {g o N : Nat} {l : List Ev} {nm : Nat → List NameK} {M : JM} {R : List Pc} {z : Int}
def ChEnd (wB : World) (g o N : Nat) (l : List Ev) (nm : Nat → List NameK) (M : JM) (R : List Pc) (z : Int) (n : Nat) (e : Ending) (w' : World) : Prop :=
  ∃ ad cap, e = .returned (.slice ad (vplaces l nm).length cap) ∧ JZ wB g o l (allPc (.slice ad (vplaces l nm).length cap) (vplaces l nm).length (rowsA l (vplaces l nm)) :: R) N M (chRun l nm n z (vplaces l nm).length).1 w'
/-- the state ahead of a view -/
def ChAt (wB : World) (g o N : Nat) (l : List Ev) (nm : Nat → List NameK) (M : JM) (R : List Pc) (lb : Nat) (v : Value) (k : Nat) (s : Int × Int × List (NameK × Nat)) (mm : Int) (w : World) : Prop :=
  mm = s.2.1 ∧ JZ wB g o l (mapPc nameV lb (vals natV s.2.2) :: allPc v k (rowsA l (vplaces l nm)) :: R) N M s.1 w
set_option maxRecDepth 100000 in
set_option maxHeartbeats 16000000 in
theorem chain_gen (h : JZ wB g o l R N M z w) (hT : Tr wB g o l nm) (hl : l.length ≤ 500) (hv : VwOk l) (hTab : Tab wB) (n : Nat) (h0 : 0 < n) (hn : n ≤ 64) :
    Calls Tryz.prog 14 #[.pointer (some ⟨M.h.T, 0, none⟩), .int .i64 (n : Int)] w (ChEnd wB g o N l nm M R z n) := by
  have c0 := h.trace.2.2.1 ⟨w, br w⟩
  rw [h.trace.1] at c0
  have HV := Lib.hid (views_gen (hT.below h.bel) M.h.la h.trace.2.1 M.h.lc hl)
  have HA := Lib.hid (fun W => setAllZ_any n h0 hn W)
  have HJ := Lib.hid h
  have HT := Lib.hid (And.intro hT (And.intro hv (And.intro hTab hl)))
  have HWR := Lib.hid (fun (R' : List Pc) (z' : Int) (W : World) (h' : JZ wB g o l R' N M z' W) (r : Int) (b : Bool) => h'.wr1 r b)
  have hmm := @run_makeMap Tryz.prog
  obtain ⟨TT, hTT⟩ : ∃ T, T = M.h.T := ⟨_, rfl⟩
  rw [← hTT] at c0 HWR ⊢
  clear h hT hl hTT hv hTab
  generalize l.length = ln at c0 HV
  generalize M.h.la = la at c0 HV
  generalize M.h.lc = lc at c0 HV
  go_enter Tryz.func14, Tryz.ntmps14
  go_wp2_with fail
  refine HV.out.mono ?_
  rintro e w1 ⟨v, ⟨rfl, hvo⟩, hb1⟩
  obtain ⟨k, hk⟩ : ∃ k, k = (vplaces l nm).length := ⟨_, rfl⟩
  have hJ1 := HJ.out.below hb1
  have hform : ∃ ad cap, v = .slice ad k cap := by
    rcases hvo.2 with ⟨rfl, h2⟩ | ⟨gg, cap, cur, rfl, _⟩
    · exact ⟨none, 0, by rw [hk, h2]⟩
    · exact ⟨_, cap, by rw [hk]⟩
  obtain ⟨ad, cap, rfl⟩ := hform
  rw [← hk] at hvo
  have hJ2 := hJ1.new (allPc (.slice ad k cap) k (rowsA l (vplaces l nm))) (br w1) (hvo.mono (Nat.zero_le _)) (fun b e => by cases e)
  obtain ⟨b0, hb0⟩ : ∃ b0, b0 = (vrun l nm l.length).2 := ⟨_, rfl⟩
  have HW1 := Lib.hid (HWR.out _ _ _ hJ2 1 (!b0))
  have HK := Lib.hid (And.intro hk hb0)
  rw [← hb0]
  clear hb1 HV HJ c0 hJ1 hJ2 hvo hk hb0
  go_wp2_with fail
  refine HW1.out.mono ?_
  rintro e w2 ⟨rfl, h2⟩
  have H2 := Lib.hid h2
  clear h2 HW1
  go_wp2_with fail
  refine (HA.out _).mono ?_
  rintro e w3 ⟨rfl, rfl⟩
  obtain ⟨lb, hlb⟩ : ∃ b, b = w2.heap.size := ⟨_, rfl⟩
  obtain ⟨w4, hw4⟩ : ∃ w4, w4 = w2.alloc (.map #[] 0) := ⟨_, rfl⟩
  have h4 := H2.out.made nameV natV
  rw [← hw4, ← hlb] at h4
  obtain ⟨m0, hm0⟩ : ∃ m0, m0 = allZ n := ⟨_, rfl⟩
  have H4 := Lib.hid (show ChAt wB g o N l nm M R lb (.slice ad k cap) k (chRun l nm n z 0) m0 w4 from ⟨hm0, by
    show JZ wB g o l _ N M (wrongZ 1 z (!(vrun l nm l.length).2)) w4
    rw [← HK.out.2]
    exact h4⟩)
  have hk5 : k ≤ 500 := by
    rw [HK.out.1, vplaces_len]
    exact Nat.le_trans (vrun_ok l nm l.length).2.1 HT.out.2.2.2
  rw [← hm0]
  clear h4 H2 HA hm0
  go_upto_region 5 with (fail)
  rw [← hw4, ← hlb]
  clear hw4 hlb hmm
  go_wp2_with fail
  go_loopw [7, 33] (fun m i wr => ∃ (j : Nat) (mm : Int), j ≤ k ∧ m = .int .u64 mm ∧ i = .int .i64 (j : Int) ∧ Hid (ChAt wB g o N l nm M R lb (.slice ad k cap) k (chRun l nm n z j) mm wr)) (fun _ i _ => k - (intOf i).toNat)
  case atStart => exact ⟨0, m0, by omega, rfl, rfl, H4⟩
  case round =>
    obtain ⟨j, mm, hj, rfl, rfl, HW⟩ := hrel
    by_cases hlt : j < k
    · have hd1 : decide ((j : Int) < (k : Int)) = true := by rw [decide_eq_true_eq]; omega
      have hd2 : decide (j < k) = true := by rw [decide_eq_true_eq]; omega
      have hd3 : (j : Int) < (k : Int) := by omega
      have hjl : j < (vplaces l nm).length := by rw [← HK.out.1]; exact hlt
      obtain ⟨p, hp⟩ : ∃ p, p = (vplaces l nm)[j] := ⟨_, rfl⟩
      have hpl := (vplaces_mem (l := l) (nm := nm) (hp ▸ List.getElem_mem hjl)).1
      obtain ⟨x, hx⟩ : ∃ x, x = evAt l p := ⟨_, rfl⟩
      have hlx : l[p]? = some x := by rw [hx]; unfold evAt; rw [List.getElem?_eq_getElem hpl]; rfl
      obtain ⟨g2, hg2, hg2l, hr⟩ := all_at (show wr.ownsRow 0 36 19 (.slice ad k cap) k (rowsA l (vplaces l nm)) from HW.out.2.part (List.mem_cons_of_mem _ List.mem_cons_self)) hjl
      rw [← hp, ← hx] at hr
      obtain ⟨cx, hcx⟩ : ∃ cx, cx = evA x := ⟨_, rfl⟩
      rw [← hcx] at hr
      have y1 : cx.size = 19 := by rw [hcx]; rfl
      have p1 : cx.all (·.oneCell') = true := by rw [hcx]; simp [evA, Value.oneCell']
      have hc1 : cx.toList.toArray = cx := by simp
      obtain ⟨X, hX⟩ : ∃ X, X = wr.heap.size := ⟨_, rfl⟩
      have hz := heap_alloc_new wr (.cells zEv 36)
      have hbz := ba (br wr) (.cells zEv 36)
      rw [← hX] at hz
      obtain ⟨w2, hw2⟩ : ∃ w2, w2 = (wr.alloc (.cells zEv 36)).setRow X cx := ⟨_, rfl⟩
      have hb2 : Below wr.heap.size wr w2 := by rw [hw2]; exact (kept_setRow' (wr.alloc (.cells zEv 36)) X cx).out hbz hbz.size (fun k hk' e => by omega)
      have hx2 : w2.heap[X]? = some (.cells cx 36 (0, 0)) := by rw [hw2]; exact setRow_heap _ _ _ _ _ _ hz
      have hx2' := hx2
      rw [hcx] at hx2'
      have hJ2 := HW.out.2.box x hb2 (by rw [← hX]; exact hx2')
      rw [← hX] at hJ2
      have HZ := Lib.hid (And.intro hz hX)
      have hpd : (vplaces l nm).getD j 0 = p := by rw [hp]; simp [hjl]
      have HG := Lib.hid (And.intro hr (And.intro y1 (And.intro p1 (And.intro hcx (And.intro hlt (And.intro hpd (And.intro hx hlx)))))))
      have H2 := Lib.hid (And.intro HW.out.1 hJ2)
      have hTr := HT.out.1.below hJ2.bel
      obtain ⟨n1, n2⟩ := hTr.nms p hpl
      rw [show l[p] = x from by rw [List.getElem?_eq_getElem hpl] at hlx; injection hlx] at n1 n2
      have e16 : w2.cell? ⟨X, 16, none⟩ = some (.int .u64 x.vm) := cell_of_row _ _ 16 _ _ _ hx2'
      have e17 : w2.cell? ⟨X, 17, none⟩ = some (.slice x.na (nm p).length x.nc) := by rw [n1]; exact cell_of_row _ _ 17 _ _ _ hx2'
      have hvx := HT.out.2.1 x (List.mem_of_getElem? hlx)
      have HN := Lib.hid (show Reads w2 w2.heap.size 2 x.na (nm p).length (namesV (nm p)) from by rw [n1]; exact n2)
      have HQ := Lib.hid (And.intro hvx (And.intro n1 hpl))
      subst hg2
      clear hr hz hbz hX hx2 hx2' y1 p1 hcx hx hlt hp hjl hpd hTr hb2 HW H4 hlx n1 n2 hJ2 hvx hpl hg2l
      unfold zEv at hw2 HZ
      go_upto_region 8 with (first
        | (with_reducible refine wpList_load_mid rfl 36 (.tmp 36) rfl g2 (j * 19) rfl cx.toList _ HG.out.1 Tryz.underlying36 rfl (by rw [Array.length_toList, HG.out.2.1]; kernel_rfl) ?_)
        | (refine wpList_store_row rfl 36 (.tmp 10) (.tmp 37) rfl X cx (by rw [HZ.out.2]; rfl) (by rw [← hc1]; rfl) 36 _ HZ.out.1 (by rw [HG.out.2.1]; kernel_rfl) (by rw [HG.out.2.1]; rfl) HG.out.2.2.1 ?_)
        | fail)
      rw [← hw2, ← HZ.out.2]
      clear hw2 hc1 HZ
      obtain ⟨zz, hzz⟩ : ∃ zz, zz = (chRun l nm n z j).1 := ⟨_, rfl⟩
      obtain ⟨L0, hL0⟩ : ∃ L0, L0 = (chRun l nm n z j).2.2 := ⟨_, rfl⟩
      rw [← hzz, ← hL0] at H2
      obtain ⟨bm, hbm⟩ : ∃ b, b = mostB (x.vm : Int) mm := ⟨_, rfl⟩
      have HM := Lib.hid (fun W => most_any (x.vm : Int) mm W)
      rw [← hbm] at HM
      have HS := Lib.hid (And.intro hzz (And.intro hL0 hbm))
      clear hzz hL0 hbm
      go_upto_region 9 with (fail)
      go_cut [] (fun wx => JZ wB g o l (evPc X x :: mapPc nameV lb (vals natV L0) :: allPc (.slice (some ⟨g2, 0, none⟩) k cap) k (rowsA l (vplaces l nm)) :: R) N M (wrongZ 1 zz (chB l nm p mm)) wx)
      case first =>
        have HCB := Lib.hid (show chB l nm p mm = (!bm || !decide (procsL (nm p) = (listS x.vm).map fun p : Nat => (p : Int))) from by unfold chB; rw [← HG.out.2.2.2.2.2.2.1, HS.out.2.2])
        go_wp2_with fail
        refine (HM.out _).mono ?_
        rintro e w5 ⟨rfl, rfl⟩
        clear HM
        cases bm
        · go_wp2_with fail
          refine (HWR.out _ _ _ H2.out.2 1 true).mono ?_
          rintro e w5 ⟨rfl, h5⟩
          have H5 := Lib.hid h5
          clear h5
          go_wp2_with fail
          go_meet
          rw [HCB.out]
          exact H5.out
        · have HP := Lib.hid (procs_any (nm p) x.na x.nc w2 HN.out (by rw [HQ.out.2.1]; exact HQ.out.1.2))
          go_wp2_with fail
          refine HP.out.mono ?_
          rintro e w5 ⟨ad1, cap1, ⟨rfl, ho1⟩, hb5⟩
          have HL := Lib.hid (setList_any x.vm HQ.out.1.1 w5 ((HT.out.2.2.1.below (bt H2.out.2.bel hb5) HT.out.2.2.1.lt)))
          have H5 := Lib.hid (And.intro (rdI_own ho1) hb5)
          clear ho1 hb5 HP
          go_wp2_with fail
          refine HL.out.mono ?_
          rintro e w6 ⟨ad2, cap2, rfl, ho2, hb6⟩
          rw [natsL_ints] at ho2
          have hln : ((listS x.vm).map fun p : Nat => (p : Int)).length = (listS x.vm).length := List.length_map _
          have hEQ := eqI_any ad1 ad2 cap1 cap2 (procsL (nm p)) ((listS x.vm).map fun p : Nat => (p : Int)) w6 (H5.out.1.below hb6) (by rw [← hln] at ho2; exact rdI_own ho2)
            (by unfold procsL; rw [List.length_map, HQ.out.2.1]; have := HQ.out.1.2; omega) (by rw [hln]; have := listS_len x.vm; omega)
          rw [hln] at hEQ
          have HEQ := Lib.hid hEQ
          have H6 := Lib.hid (bt H5.out.2 hb6)
          clear hEQ ho2 hb6 hln HL H5
          go_wp2_with fail
          refine HEQ.out.mono ?_
          rintro e w7 ⟨rfl, hb7⟩
          have HW7 := Lib.hid (HWR.out _ _ _ (H2.out.2.below (bt H6.out hb7)) 1)
          clear hb7 HEQ
          obtain ⟨qq, hqq⟩ : ∃ qq, qq = decide (procsL (nm p) = (listS x.vm).map fun p : Nat => (p : Int)) := ⟨_, rfl⟩
          rw [← hqq] at HCB ⊢
          clear hqq
          go_wp2_with fail
          refine (HW7.out _).mono ?_
          rintro e w8 ⟨rfl, h8⟩
          have H8 := Lib.hid h8
          clear h8
          go_wp2_with fail
          go_meet
          rw [HCB.out]
          exact H8.out
      obtain ⟨s0, hs0⟩ : ∃ s0, s0 = (wrongZ 1 zz (chB l nm p mm), L0) := ⟨_, rfl⟩
      have HC := Lib.hid (show JZ wB g o l (evPc X x :: mapPc nameV lb (vals natV (lastRun j (nm p) s0 0).2) :: allPc (.slice (some ⟨g2, 0, none⟩) k cap) k (rowsA l (vplaces l nm)) :: R) N M (lastRun j (nm p) s0 0).1 wc from by rw [hs0]; exact hcut)
      have hx3 : wc.heap[X]? = some (.cells (evA x) 36 (0, 0)) := hcut.part List.mem_cons_self
      obtain ⟨nn, hnn⟩ : ∃ nn, nn = (nm p).length := ⟨_, rfl⟩
      have e17 : wc.cell? ⟨X, 17, none⟩ = some (.slice x.na nn x.nc) := by rw [hnn, HQ.out.2.1]; exact cell_of_row _ _ 17 _ _ _ hx3
      have hnn9 : nn ≤ 17592186043904 := by rw [hnn, HQ.out.2.1]; exact HQ.out.1.2
      have HRN := Lib.hid (show ∀ W, Below wB.heap.size wB W → Reads W W.heap.size 2 x.na (nm p).length (namesV (nm p)) from fun W hb => by
        obtain ⟨n1, n2⟩ := (HT.out.1.below hb).nms p HQ.out.2.2
        have hlx := HG.out.2.2.2.2.2.2.2
        rw [show l[p]'(HQ.out.2.2) = x from by rw [List.getElem?_eq_getElem HQ.out.2.2] at hlx; injection hlx] at n1 n2
        rw [n1]
        exact n2)
      have HNN := Lib.hid (And.intro hnn hs0)
      clear hcut hx3 hnn hs0 HM HN
      go_wp2_with fail
      clear e17
      go_loopw [60] (fun i wr => ∃ q : Nat, q ≤ nn ∧ i = .int .i64 (q : Int) ∧ Hid (JZ wB g o l (evPc X x :: mapPc nameV lb (vals natV (lastRun j (nm p) s0 q).2) :: allPc (.slice (some ⟨g2, 0, none⟩) k cap) k (rowsA l (vplaces l nm)) :: R) N M (lastRun j (nm p) s0 q).1 wr)) (fun i _ => nn - (intOf i).toNat)
      case atStart => exact ⟨0, by omega, rfl, HC⟩
      case round =>
        obtain ⟨q, hq, rfl, HW⟩ := hrel
        by_cases hqn : q < nn
        · have hq1 : decide ((q : Int) < (nn : Int)) = true := by rw [decide_eq_true_eq]; omega
          have hq2 : decide (q < nn) = true := by rw [decide_eq_true_eq]; omega
          have hq3 : (q : Int) < (nn : Int) := by omega
          have hql : q < (nm p).length := by rw [← HNN.out.1]; exact hqn
          obtain ⟨g3, o3, hna, hgl, c0, c1⟩ := names_cells (HRN.out wr HW.out.bel) hql
          obtain ⟨y, hy⟩ : ∃ y, y = (nm p)[q] := ⟨_, rfl⟩
          rw [← hy] at c0 c1
          have hyd : (nm p).getD q (0, 0) = y := by rw [hy]; simp [hql]
          obtain ⟨w5, hw5⟩ : ∃ w5, w5 = wr.alloc (.cells #[.int .i64 y.1, .int .u32 (y.2 : Int)] 97) := ⟨_, rfl⟩
          obtain ⟨Y, hY⟩ : ∃ Y, Y = wr.heap.size := ⟨_, rfl⟩
          obtain ⟨z5, hz5⟩ : ∃ z5, z5 = (lastRun j (nm p) s0 q).1 := ⟨_, rfl⟩
          obtain ⟨L5, hL5⟩ : ∃ L5, L5 = (lastRun j (nm p) s0 q).2 := ⟨_, rfl⟩
          have hJ5 := HW.out
          rw [← hz5, ← hL5] at hJ5
          replace hJ5 := hJ5.var #[.int .i64 y.1, .int .u32 (y.2 : Int)] 97 (by decide) (by decide)
          rw [← hw5, ← hY] at hJ5
          have hy5 : w5.heap[Y]? = some (.cells #[.int .i64 y.1, .int .u32 (y.2 : Int)] 97 (0, 0)) := hJ5.part List.mem_cons_self
          have x0 : w5.cell? ⟨Y, 0, none⟩ = some (.int .i64 y.1) := cell_of_row _ _ 0 _ _ _ hy5
          have x1 : w5.cell? ⟨Y, 1, none⟩ = some (.int .u32 (y.2 : Int)) := cell_of_row _ _ 1 _ _ _ hy5
          have hgm : GMap nameV w5 lb (vals natV L5) := hJ5.part (List.mem_cons_of_mem _ (List.mem_cons_of_mem _ List.mem_cons_self))
          have hlk : ∃ (a : Int) (th : Bool), (Instr.lookup 91 (.map (some lb)) (.agg #[.int .i64 y.1, .int .u32 (y.2 : Int)]) true).run Tryz.prog w5 = .ok (.tuple #[.int .i64 a, .bool th]) w5 ∧ (th && (a != (j : Int) - 1)) = (match get L5 y with
              | none => false
              | some a => decide ((a : Int) ≠ (j : Int) - 1)) := by
            have h := hgm.lookup_ok (P := Tryz.prog) Tryz.underlying91 nameLawJ (z := .int .i64 0) (by kernel_rfl) y
            rw [get_vals, has_vals, has_get] at h
            rcases hget : get L5 y with _ | a
            · rw [hget] at h
              exact ⟨_, false, h, rfl⟩
            · rw [hget] at h
              exact ⟨_, true, h, by rw [Bool.eq_iff_iff]; simp⟩
          obtain ⟨a, th, hlk, hth⟩ := hlk
          have HST := Lib.hid (show lastRun j (nm p) s0 (q + 1) = (wrongZ 2 z5 (th && (a != (j : Int) - 1)), put L5 y j) from by
            show lastStep j (lastRun j (nm p) s0 q) ((nm p).getD q (0, 0)) = _
            unfold lastStep
            rw [hyd, ← hz5, ← hL5, hth])
          have H5 := Lib.hid hJ5
          have HLT := Lib.hid hqn
          rw [hna]
          clear hql hna hgl hy hyd hz5 hL5 hJ5 hy5 hgm hth hqn HW
          go_upto_region 14 with (fail)
          rw [← hw5, ← hY]
          clear hw5 hY c0 c1
          cases th
          · go_upto_region 15 with (fail)
            clear hlk x0 x1
            go_wp2_with fail
            refine (HWR.out _ _ _ H5.out 2 false).mono ?_
            rintro e w6 ⟨rfl, h6⟩
            have hy6 : w6.heap[Y]? = some (.cells #[.int .i64 y.1, .int .u32 (y.2 : Int)] 97 (0, 0)) := h6.part List.mem_cons_self
            have x0 : w6.cell? ⟨Y, 0, none⟩ = some (.int .i64 y.1) := cell_of_row _ _ 0 _ _ _ hy6
            have x1 : w6.cell? ⟨Y, 1, none⟩ = some (.int .u32 (y.2 : Int)) := cell_of_row _ _ 1 _ _ _ hy6
            obtain ⟨w7, hrun, hg7, hgr7, _⟩ := (show GMap nameV w6 lb (vals natV L5) from h6.part (List.mem_cons_of_mem _ (List.mem_cons_of_mem _ List.mem_cons_self))).update (P := Tryz.prog) Tryz.underlying91 nameLawJ y (natV j)
            rw [put_vals natV] at hg7
            have HE := Lib.hid (show JZ wB g o l (evPc X x :: mapPc nameV lb (vals natV (lastRun j (nm p) s0 (q + 1)).2) :: allPc (.slice (some ⟨g2, 0, none⟩) k cap) k (rowsA l (vplaces l nm)) :: R) N M (lastRun j (nm p) s0 (q + 1)).1 w7 from by
              rw [HST.out]
              exact (((h6.drop (Q := [varPc Y _ _ (by decide) (by decide)])).perm (List.Perm.swap _ _ _)).map hg7 hgr7).perm (List.Perm.swap _ _ _))
            have hrun : (Instr.mapUpdate 91 (.map (some lb)) (.agg #[.int .i64 y.1, .int .u32 (y.2 : Int)]) (.int .i64 (j : Int))).run Tryz.prog w6 = .ok () w7 := hrun
            clear h6 hy6 hg7 hgr7
            go_wp2_with fail
            exact ⟨⟨q + 1, HLT.out, by go_num, HE⟩, by have := HLT.out; simp [intOf]; omega⟩
          · go_upto_region 15 with (fail)
            clear hlk x0 x1
            obtain ⟨c, hc⟩ : ∃ c, c = (a != (j : Int) - 1) := ⟨_, rfl⟩
            rw [Bool.true_and, ← hc] at HST
            go_wp2_with fail
            rw [← hc]
            refine (HWR.out _ _ _ H5.out 2 c).mono ?_
            rintro e w6 ⟨rfl, h6⟩
            have hy6 : w6.heap[Y]? = some (.cells #[.int .i64 y.1, .int .u32 (y.2 : Int)] 97 (0, 0)) := h6.part List.mem_cons_self
            have x0 : w6.cell? ⟨Y, 0, none⟩ = some (.int .i64 y.1) := cell_of_row _ _ 0 _ _ _ hy6
            have x1 : w6.cell? ⟨Y, 1, none⟩ = some (.int .u32 (y.2 : Int)) := cell_of_row _ _ 1 _ _ _ hy6
            obtain ⟨w7, hrun, hg7, hgr7, _⟩ := (show GMap nameV w6 lb (vals natV L5) from h6.part (List.mem_cons_of_mem _ (List.mem_cons_of_mem _ List.mem_cons_self))).update (P := Tryz.prog) Tryz.underlying91 nameLawJ y (natV j)
            rw [put_vals natV] at hg7
            have HE := Lib.hid (show JZ wB g o l (evPc X x :: mapPc nameV lb (vals natV (lastRun j (nm p) s0 (q + 1)).2) :: allPc (.slice (some ⟨g2, 0, none⟩) k cap) k (rowsA l (vplaces l nm)) :: R) N M (lastRun j (nm p) s0 (q + 1)).1 w7 from by
              rw [HST.out]
              exact (((h6.drop (Q := [varPc Y _ _ (by decide) (by decide)])).perm (List.Perm.swap _ _ _)).map hg7 hgr7).perm (List.Perm.swap _ _ _))
            have hrun : (Instr.mapUpdate 91 (.map (some lb)) (.agg #[.int .i64 y.1, .int .u32 (y.2 : Int)]) (.int .i64 (j : Int))).run Tryz.prog w6 = .ok () w7 := hrun
            clear h6 hy6 hg7 hgr7
            go_wp2_with fail
            exact ⟨⟨q + 1, HLT.out, by go_num, HE⟩, by have := HLT.out; simp [intOf]; omega⟩
        · have hq1 : decide ((q : Int) < (nn : Int)) = false := by rw [decide_eq_false_iff_not]; omega
          have hq2 : decide (q < nn) = false := by rw [decide_eq_false_iff_not]; omega
          have HE := Lib.hid (show ChAt wB g o N l nm M R lb (.slice (some ⟨g2, 0, none⟩) k cap) k (chRun l nm n z (j + 1)) (x.vm : Int) wr from by
            have hst : chRun l nm n z (j + 1) = ((lastRun j (nm p) s0 nn).1, (x.vm : Int), (lastRun j (nm p) s0 nn).2) := by
              show chStep l nm j ((vplaces l nm).getD j 0) (chRun l nm n z j) = _
              rw [HG.out.2.2.2.2.2.1]
              unfold chStep
              rw [← HG.out.2.2.2.2.2.2.1, ← H2.out.1, ← HS.out.1, ← HS.out.2.1, ← HNN.out.2, ← HNN.out.1]
            rw [hst]
            refine ⟨rfl, ?_⟩
            have h := HW.out
            rw [show q = nn by omega] at h
            exact h.drop (Q := [evPc X x]))
          have HLT := HG.out.2.2.2.2.1
          clear HW HC hqn
          go_wp2_with fail
          exact ⟨⟨j + 1, _, HLT, rfl, by go_num, HE⟩, by simp [intOf]; omega⟩
    · have hd1 : decide ((j : Int) < (k : Int)) = false := by rw [decide_eq_false_iff_not]; omega
      have hd2 : decide (j < k) = false := by rw [decide_eq_false_iff_not]; omega
      have HE := Lib.hid (show ChEnd wB g o N l nm M R z n (.returned (.slice ad k cap)) wr from ⟨ad, cap, by rw [HK.out.1], by
        have h := HW.out.2
        rw [show j = (vplaces l nm).length by rw [← HK.out.1]; omega] at h
        rw [HK.out.1] at h
        exact h.drop (Q := [mapPc nameV lb _])⟩)
      clear HW H4 hlt
      go_wp2_with fail
      go_ret
      exact HE.out
end
end Go.Proofs.YtogagkgkmoppmaaGreatDoor
