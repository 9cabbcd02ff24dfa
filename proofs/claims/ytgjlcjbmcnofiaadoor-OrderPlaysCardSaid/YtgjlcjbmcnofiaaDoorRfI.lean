/-
  The reference's order: Take, walked.
  Conditions: those that each theorem names.
-/
import Derived.Test.YtgjlcjbmcnofiaaDoorPlG
namespace Go.Proofs.YtgjlcjbmcnofiaaDoor
set_option linter.unusedVariables false
set_option linter.unusedSimpArgs false
open Go.RowKit
theorem setRow_keptR (w : World) (M : Nat) (cs : Array Value) : Kept (fun b => b = M) w (w.setRow M cs) := ⟨rfl, rfl, rfl, by rw [size_setRow]; exact Nat.le_refl _, fun i _ hs => setRow_other _ _ _ _ hs⟩
def TakeOk (w : World) (va vz : Value) (S : RO) (m : Msg) (e : Ending) (w' : World) : Prop := RoEnd w va vz (takeRO S m) (fun v => .tuple #[v, .int .i64 (takeRC S m)]) e w' ∧ Below w.heap.size w w'
set_option maxRecDepth 100000 in
set_option maxHeartbeats 16000000 in
theorem rTake_any (S : RO) (va vz : Value) (m : Msg) (w : World) (ha : RowsIn w va S.A) (ht : ToldIn w vz S.T) (hl : S.A.length ≤ 500) (hlt : S.T.length ≤ 500) (hmb : S.mb < 18446744073709551616) (hq : m.seq < 4294967296) :
    Calls Tryd.prog 56 #[.agg (rfC S va vz), .agg (msgA m)] w (TakeOk w va vz S m) := by
  have hz := zeroR_run
  obtain ⟨Z, hZ⟩ : ∃ Z, Z = zeroR := ⟨_, rfl⟩
  have hZs : Z.size = 199 := by rw [hZ]; unfold zeroR; rw [rfC_size]
  rw [← hZ] at hz
  have hzh := zeroX_run
  obtain ⟨ZH, hZH⟩ : ∃ Z, Z = zeroX := ⟨_, rfl⟩
  have hZHs : ZH.size = 65 := by rw [hZH]; unfold zeroX; rw [refX_size]
  rw [← hZH] at hzh
  have h1 : va.oneCell' = true := by obtain ⟨ad, cap, rfl, _⟩ := ha; rfl
  have h2 : vz.oneCell' = true := by obtain ⟨ad, cap, rfl, _⟩ := ht; rfl
  obtain ⟨X, hX⟩ : ∃ X, X = rfC S va vz := ⟨_, rfl⟩
  rw [← hX]
  obtain ⟨M, hM⟩ : ∃ M, M = msgA m := ⟨_, rfl⟩
  have m0 : M[0]? = some (.int .i64 m.frm) := by rw [hM]; rfl
  have m1 : M[1]? = some (.int .u32 (m.seq : Int)) := by rw [hM]; rfl
  have m2 : M[2]? = some (.int .u64 (m.stamp : Int)) := by rw [hM]; rfl
  have hMs : (Tryd.prog.info? 42).map (·.size) = some M.size := by rw [hM]; kernel_rfl
  rw [← hM]
  obtain ⟨W, hW⟩ : ∃ W, W = ((w.alloc (.cells X 73)).alloc (.cells M 42)).alloc (.cells Z 73) := ⟨_, rfl⟩
  have HT := Lib.hid (show RoThree w X M Z W from by rw [hW]; exact .new w X M Z)
  have hsz : w.heap.size + 3 ≤ W.heap.size := by rw [hW]; simp
  have HQ := Lib.hid (And.intro hX (And.intro hZs (And.intro h1 (And.intro h2 (And.intro hM (And.intro hMs (And.intro hZHs hsz)))))))
  have HA := Lib.hid (And.intro ha (And.intro ht (And.intro hl (And.intro hlt hq))))
  have hme := member_any S va vz m.frm W hmb
  rw [← hX] at hme
  have HME := Lib.hid hme
  have HW := Lib.hid hW
  have HXS := Lib.hid (show (Tryd.prog.info? 73).map (·.size) = some X.size ∧ Z.size = X.size ∧ X.all (·.oneCell') = true from by rw [hX]; exact ⟨rfSize, by rw [hZs, rfC_size], rfC_one _ _ _ h1 h2⟩)
  have HMC := Lib.hid (And.intro m0 (And.intro m1 m2))
  have g0 : W.cell? ⟨w.heap.size + 1, 0, none⟩ = some (.int .i64 m.frm) := (cell_of_row _ _ 0 _ _ _ HT.out.msg).trans m0
  clear hZ hZs hZH hZHs hX hM hMs ha ht hl hlt hq h1 h2 hW hsz hme m0 m1 m2 hmb
  go_enter Tryd.func56, Tryd.ntmps56
  go_upto_region 1 with (fail)
  rw [← HW.out]
  clear HW hz
  go_wp2_with (first
    | (with_reducible refine wpList_load_row rfl 73 (.tmp 2) rfl w.heap.size rfl 73 X (0, 0) _ HT.out.blk Tryd.underlying73 rfl HXS.out.1 ?_)
    | fail)
  refine HME.out.mono ?_
  rintro e w2 ⟨rfl, hb2⟩
  have HT2 := Lib.hid (HT.out.below hb2)
  have HB2 := Lib.hid hb2
  obtain ⟨hb, hhb⟩ : ∃ b, b = hasS S.mb m.frm := ⟨_, rfl⟩
  rw [← hhb]
  have HHB := Lib.hid hhb
  clear hb2 HME HT hhb g0
  cases hb
  · have HR := Lib.hid (show takeRO S m = S ∧ takeRC S m = 5 from ⟨by unfold takeRO; rw [if_neg (fun h => by rw [← HHB.out] at h; cases h.1)], by unfold takeRC; rw [if_neg (fun h => by rw [← HHB.out] at h; cases h)]⟩)
    go_wp2_with (first
      | (with_reducible refine wpList_load_row rfl 73 (.tmp 2) rfl w.heap.size rfl 73 X (0, 0) _ HT2.out.blk Tryd.underlying73 rfl HXS.out.1 ?_)
      | (with_reducible refine wpList_store_row rfl 73 (.tmp 4) (.tmp 13) rfl (w.heap.size + 1 + 1) X rfl rfl 73 _ HT2.out.res HXS.out.1 HXS.out.2.1 HXS.out.2.2 ?_)
      | fail)
    have hbE := bsr' HT2.out.bel (g := w.heap.size + 1 + 1) (by omega) X
    exact bodyPost_ret (results_cell_tmp Tryd.results56 _ _ (w.heap.size + 1 + 1) 73 X (0, 0) _ _ rfl rfl (setRow_heap _ _ _ _ _ _ HT2.out.res) Tryd.underlying73 rfl HXS.out.1) rfl ⟨⟨va, vz, by rw [HR.out.1, HR.out.2, HQ.out.1]; rfl, by rw [HR.out.1]; exact HA.out.1.below hbE, by rw [HR.out.1]; exact HA.out.2.1.below hbE, .inl rfl, .inl rfl⟩, hbE⟩
  · -- the message is put
    have h2 : w2.heap[w.heap.size]? = some (.cells (rfC S va vz) 73 (0, 0)) := by rw [← HQ.out.1]; exact HT2.out.blk
    have hra := ro_H h2
    obtain ⟨L, hL⟩ : ∃ L, L = (refX va S.lo).toList := ⟨_, rfl⟩
    have hLa : refX va S.lo = L.toArray := by rw [hL]
    have hLs : (Tryd.prog.info? 67).map (·.size) = some L.length := by rw [hL, Array.length_toList]; exact sizeX
    have hp := rPut_any va S.lo S.A m w2 (HA.out.1.below HT2.out.bel) HA.out.2.2.1 HA.out.2.2.2.2
    rw [hLa, ← HQ.out.2.2.2.2.1] at hp
    rw [← hL] at hra
    have HP := Lib.hid hp
    have HRA := Lib.hid (And.intro hra hLs)
    clear hp hra hLs hLa hL h2
    go_wp2_with (first
      | (with_reducible refine wpList_load_mid rfl 67 (.tmp 15) rfl w.heap.size 2 rfl L _ HRA.out.1 Tryd.underlying67 rfl HRA.out.2 ?_)
      | (with_reducible refine wpList_load_row rfl 42 (.tmp 3) rfl (w.heap.size + 1) rfl 42 M (0, 0) _ HT2.out.msg Tryd.underlying42 rfl HQ.out.2.2.2.2.2.1 ?_)
      | fail)
    refine HP.out.mono ?_
    rintro e w3 ⟨⟨u, hre, hu, hor⟩, hb3⟩
    have hu1 : u.oneCell' = true := by obtain ⟨_, _, rfl, _⟩ := hu; rfl
    obtain ⟨C, hC⟩ : ∃ C, C = refX u S.lo := ⟨_, rfl⟩
    obtain ⟨pc, hpc⟩ : ∃ pc, pc = putA S.A m := ⟨_, rfl⟩
    rw [← hC, ← hpc] at hre
    subst hre
    rw [← hpc] at hu hor
    have hCs : (Tryd.prog.info? 67).map (·.size) = some C.size ∧ ZH.size = C.size ∧ C.all (·.oneCell') = true := by rw [hC]; exact ⟨sizeX, by rw [HQ.out.2.2.2.2.2.2.1, refX_size], refX_one _ _ hu1⟩
    have HCS := Lib.hid hCs
    have hx4 := heap_alloc_new w3 (.cells ZH 67)
    have hb4 := ba (br w3) (.cells ZH 67)
    have HU := Lib.hid (And.intro hu (And.intro hor (And.intro hu1 (And.intro hC hpc))))
    have HB3 := Lib.hid (And.intro hb3 (show w.heap.size + 3 ≤ w2.heap.size from Nat.le_trans HQ.out.2.2.2.2.2.2.2 HB2.out.size))
    clear hu hor hb3 hu1 hC hpc hCs HP HRA
    go_upto_region 4 with (first
      | (with_reducible refine wpList_store_row rfl 67 (.tmp 6) (.tmp 19) rfl w3.heap.size C rfl rfl 67 ZH hx4 HCS.out.1 HCS.out.2.1 HCS.out.2.2 ?_)
      | fail)
    have e4 := setRow_heap _ _ _ C _ _ hx4
    have hb4' : Below w3.heap.size w3 ((w3.alloc (.cells ZH 67)).setRow w3.heap.size C) := (setRow_keptR _ _ _).out hb4 hb4.size (fun b hb e => by omega)
    clear hx4 hb4
    generalize (w3.alloc (.cells ZH 67)).setRow w3.heap.size C = w4 at *
    have HT4 := Lib.hid ((HT2.out.below HB3.out.1).below hb4')
    have HU4 := Lib.hid (And.intro (HU.out.1.below hb4') (And.intro e4 (show w.heap.size + 3 ≤ w3.heap.size from Nat.le_trans HB3.out.2 HB3.out.1.size)))
    have HAU := Lib.hid (HA.out.1.apart.new HB3.out.2 (m := (if pc = 0 then S.A ++ [m] else S.A).length) (HU.out.2.1.imp (fun h => ⟨h.2, by rw [if_neg h.1]⟩) id))
    have HAZ := Lib.hid HA.out.2.1.apart
    clear hb4' e4 HT2 HB2
    by_cases hp0 : pc = 0
    · have d0 : (pc != 0) = false := by simpa using hp0
      have hu4 := HU4.out.1
      have hau := HAU.out
      rw [if_pos hp0] at hu4 hau
      have h4 : w4.heap[w.heap.size]? = some (.cells (rfC S va vz) 73 (0, 0)) := by rw [← HQ.out.1]; exact HT4.out.blk
      have HTH := Lib.hid (there_of h4 (o := 2) (n := C.size) (by rw [HU.out.2.2.2.1, refX_size, rfC_size]; omega))
      obtain ⟨S1, hS1⟩ : ∃ S1, S1 = { S with lo := S.lo, A := S.A ++ [m] } := ⟨_, rfl⟩
      have h5 := ro_setH h4 u S.lo (S.A ++ [m])
      rw [← HU.out.2.2.2.1, ← hS1] at h5
      have hk5 := keptSetCells w.heap.size C.toList 2 w4
      have ht5 := HT4.out.set hk5 h5
      have hu5 := hu4.keptN hk5 (fun p n c e hn => by have := hau.ne (j := 0) (by omega) p n c e hn; omega)
      have hz5 := (HA.out.2.1.below HT4.out.bel).keptN hk5 (fun p n c e hn => by have := HAZ.out.ne (j := 0) (by omega) p n c e hn; omega)
      have hs5 : w.heap.size + 3 ≤ (w4.setCells w.heap.size 2 C.toList).heap.size := Nat.le_trans (Nat.le_trans HU4.out.2.2 (Nat.le_of_lt (Array.getElem?_eq_some_iff.1 HU4.out.2.1).1)) hk5.size
      have HPC := Lib.hid (show hasS S.mb m.frm = true ∧ putA S.A m = 0 from ⟨HHB.out.symm, by rw [← HU.out.2.2.2.2]; exact hp0⟩)
      have HNU := Lib.hid (show NewV w va u from .of (show w.heap.size ≤ w2.heap.size by have := HB3.out.2; omega) (HU.out.2.1.imp (fun h => h.2) id))
      generalize hw5 : w4.setCells w.heap.size 2 C.toList = w5 at *
      have HW5 := Lib.hid hw5
      have H5 := Lib.hid (And.intro h5 (And.intro ht5 (And.intro hu5 (And.intro hz5 (And.intro hs5 (And.intro hau hS1))))))
      have HC4 := Lib.hid HU4.out.2.1
      obtain rfl : pc = 0 := hp0
      clear hu4 hau h4 h5 hk5 ht5 hu5 hz5 hs5 hw5 HU4 HAU hS1
      go_upto_region 7 with (first
        | (with_reducible refine wpList_load_row rfl 67 (.tmp 6) rfl w3.heap.size rfl 67 C (0, 0) _ HC4.out Tryd.underlying67 rfl HCS.out.1 ?_)
        | (with_reducible refine wpList_store_mid rfl 67 (.tmp 26) (.tmp 25) rfl w.heap.size 2 C rfl rfl HTH.out HCS.out.1 HCS.out.2.2 ?_)
        | fail)
      (try simp only [Act.put])
      rw [HW5.out]
      clear HW5 HTH HC4
      have g0 : w5.cell? ⟨w.heap.size + 1, 0, none⟩ = some (.int .i64 m.frm) := (cell_of_row _ _ 0 _ _ _ H5.out.2.1.msg).trans HMC.out.1
      have g1 : w5.cell? ⟨w.heap.size + 1, 1, none⟩ = some (.int .u32 (m.seq : Int)) := (cell_of_row _ _ 1 _ _ _ H5.out.2.1.msg).trans HMC.out.2.1
      have g2 : w5.cell? ⟨w.heap.size + 1, 2, none⟩ = some (.int .u64 (m.stamp : Int)) := (cell_of_row _ _ 2 _ _ _ H5.out.2.1.msg).trans HMC.out.2.2
      have gm : w5.cell? ⟨w.heap.size, 0, none⟩ = some (.int .i64 S.me) := by rw [cell_of_row _ _ 0 _ _ _ H5.out.1, rf_me, H5.out.2.2.2.2.2.2]
      have gc : w5.cell? ⟨w.heap.size, 67, none⟩ = some (.int .u64 (S.c : Int)) := by rw [cell_of_row _ _ 67 _ _ _ H5.out.1, rf_c, H5.out.2.2.2.2.2.2]
      have fc := frozen_of_row _ _ 67 _ _ H5.out.1
      by_cases hme : m.frm = S.me
      · have d1 : (m.frm != S.me) = false := by simpa using hme
        have HTK := Lib.hid (show takeRO S m = { S with A := S.A ++ [m], c := if S.c < m.stamp then m.stamp else S.c } ∧ takeRC S m = 0 from ⟨by unfold takeRO; rw [if_pos HPC.out, if_neg (fun h => h hme)], by unfold takeRC; rw [if_pos HPC.out.1]; exact HPC.out.2⟩)
        obtain ⟨st, hst⟩ : ∃ st, st = m.stamp := ⟨_, rfl⟩
        obtain ⟨sc, hsc⟩ : ∃ sc, sc = S.c := ⟨_, rfl⟩
        have HST := Lib.hid (And.intro hst hsc)
        rw [← hst] at g2
        rw [← hsc] at gc
        clear hme hst hsc
        by_cases hlt : sc < st
        · have d2 : decide ((sc : Int) < (st : Int)) = true := by simp; omega
          have d2' : decide (sc < st) = true := by simpa using hlt
          have h6 := setCell_block H5.out.1 67 (.int .u64 (st : Int))
          rw [rf_setC] at h6
          have hk6 := kept_set w5 w.heap.size 67 (.int .u64 (st : Int))
          have ht6 := H5.out.2.1.set hk6 h6
          have hu6 := H5.out.2.2.1.keptN hk6 (fun p n c e hn => by have := H5.out.2.2.2.2.2.1.ne (j := 0) (by omega) p n c e hn; omega)
          have hz6 := H5.out.2.2.2.1.keptN hk6 (fun p n c e hn => by have := HAZ.out.ne (j := 0) (by omega) p n c e hn; omega)
          obtain ⟨X6, hX6⟩ : ∃ X6, X6 = rfC { S1 with c := st } u vz := ⟨_, rfl⟩
          rw [← hX6] at ht6
          generalize hw6 : w5.setCell ⟨w.heap.size, 67, none⟩ (.int .u64 (st : Int)) = w6 at *
          have HW6 := Lib.hid hw6
          have HT6 := Lib.hid ht6
          have HS6 := Lib.hid (show (Tryd.prog.info? 73).map (·.size) = some X6.size ∧ Z.size = X6.size ∧ X6.all (·.oneCell') = true from by rw [hX6]; exact ⟨rfSize, by rw [HQ.out.2.1, rfC_size], rfC_one _ _ _ HU.out.2.2.1 HQ.out.2.2.2.1⟩)
          have HPO := Lib.hid (show Below w.heap.size w (w6.setRow (w.heap.size + 1 + 1) X6) → TakeOk w va vz S m (.returned (.tuple #[.agg X6, .int .i64 0])) (w6.setRow (w.heap.size + 1 + 1) X6) from fun hbE => by
            have hkr := setRow_keptR w6 (w.heap.size + 1 + 1) X6
            refine ⟨⟨u, vz, by rw [HTK.out.1, HTK.out.2, hX6, H5.out.2.2.2.2.2.2, ← HST.out.1, ← HST.out.2, if_pos hlt], ?_, ?_, HNU.out, .inl rfl⟩, hbE⟩
            · rw [HTK.out.1]; exact hu6.keptN hkr (fun p n c e hn => by have := H5.out.2.2.2.2.2.1.ne (j := 2) (by omega) p n c e hn; omega)
            · rw [HTK.out.1]; exact hz6.keptN hkr (fun p n c e hn => by have := HAZ.out.ne (j := 2) (by omega) p n c e hn; omega))
          clear h6 hk6 ht6 hu6 hz6 hX6 hw6 hlt
          go_upto_region 11 with (fail)
          rw [HW6.out]
          clear HW6 g0 g1 g2 gm gc fc
          go_wp2_with (first
            | (with_reducible refine wpList_load_row rfl 73 (.tmp 2) rfl w.heap.size rfl 73 X6 (0, 0) _ HT6.out.blk Tryd.underlying73 rfl HS6.out.1 ?_)
            | (with_reducible refine wpList_store_row rfl 73 (.tmp 4) (.tmp 53) rfl (w.heap.size + 1 + 1) X6 rfl rfl 73 _ HT6.out.res HS6.out.1 HS6.out.2.1 HS6.out.2.2 ?_)
            | fail)
          have hbE := bsr' HT6.out.bel (g := w.heap.size + 1 + 1) (by omega) X6
          exact bodyPost_ret (results_cell_tmp Tryd.results56 _ _ (w.heap.size + 1 + 1) 73 X6 (0, 0) _ _ rfl rfl (setRow_heap _ _ _ _ _ _ HT6.out.res) Tryd.underlying73 rfl HS6.out.1) rfl (HPO.out hbE)
        · have d2 : decide ((sc : Int) < (st : Int)) = false := by simp; omega
          have d2' : decide (sc < st) = false := by simpa using hlt
          obtain ⟨X6, hX6⟩ : ∃ X6, X6 = rfC S1 u vz := ⟨_, rfl⟩
          have ht6 := H5.out.2.1
          rw [← hX6] at ht6
          have HT6 := Lib.hid ht6
          have HS6 := Lib.hid (show (Tryd.prog.info? 73).map (·.size) = some X6.size ∧ Z.size = X6.size ∧ X6.all (·.oneCell') = true from by rw [hX6]; exact ⟨rfSize, by rw [HQ.out.2.1, rfC_size], rfC_one _ _ _ HU.out.2.2.1 HQ.out.2.2.2.1⟩)
          have HPO := Lib.hid (show Below w.heap.size w (w5.setRow (w.heap.size + 1 + 1) X6) → TakeOk w va vz S m (.returned (.tuple #[.agg X6, .int .i64 0])) (w5.setRow (w.heap.size + 1 + 1) X6) from fun hbE => by
            have hkr := setRow_keptR w5 (w.heap.size + 1 + 1) X6
            refine ⟨⟨u, vz, by rw [HTK.out.1, HTK.out.2, hX6, H5.out.2.2.2.2.2.2, ← HST.out.1, ← HST.out.2, if_neg hlt], ?_, ?_, HNU.out, .inl rfl⟩, hbE⟩
            · rw [HTK.out.1]; exact H5.out.2.2.1.keptN hkr (fun p n c e hn => by have := H5.out.2.2.2.2.2.1.ne (j := 2) (by omega) p n c e hn; omega)
            · rw [HTK.out.1]; exact H5.out.2.2.2.1.keptN hkr (fun p n c e hn => by have := HAZ.out.ne (j := 2) (by omega) p n c e hn; omega))
          clear ht6 hX6 hlt
          go_upto_region 11 with (fail)
          clear g0 g1 g2 gm gc fc
          go_wp2_with (first
            | (with_reducible refine wpList_load_row rfl 73 (.tmp 2) rfl w.heap.size rfl 73 X6 (0, 0) _ HT6.out.blk Tryd.underlying73 rfl HS6.out.1 ?_)
            | (with_reducible refine wpList_store_row rfl 73 (.tmp 4) (.tmp 53) rfl (w.heap.size + 1 + 1) X6 rfl rfl 73 _ HT6.out.res HS6.out.1 HS6.out.2.1 HS6.out.2.2 ?_)
            | fail)
          have hbE := bsr' HT6.out.bel (g := w.heap.size + 1 + 1) (by omega) X6
          exact bodyPost_ret (results_cell_tmp Tryd.results56 _ _ (w.heap.size + 1 + 1) 73 X6 (0, 0) _ _ rfl rfl (setRow_heap _ _ _ _ _ _ HT6.out.res) Tryd.underlying73 rfl HS6.out.1) rfl (HPO.out hbE)
      · have d1 : (m.frm != S.me) = true := by simpa using hme
        have HTK := Lib.hid (show takeRO S m = tellRO S1 ⟨0, m.frm, m.seq, m.stamp⟩ ∧ takeRC S m = 0 from ⟨by unfold takeRO; rw [if_pos HPC.out, if_pos hme, H5.out.2.2.2.2.2.2], by unfold takeRC; rw [if_pos HPC.out.1]; exact HPC.out.2⟩)
        have hrz := ro_Z H5.out.1
        have htl := rTell_any vz S1.c S1.oth S1.T ⟨0, m.frm, m.seq, m.stamp⟩ w5 (by rw [H5.out.2.2.2.2.2.2]; exact H5.out.2.2.2.1) (by rw [H5.out.2.2.2.2.2.2]; exact HA.out.2.2.2.1)
        obtain ⟨LZ, hLZ⟩ : ∃ L, L = (hrC S1.c S1.oth vz).toList := ⟨_, rfl⟩
        have hLZa : hrC S1.c S1.oth vz = LZ.toArray := by rw [hLZ]
        have hLZs : (Tryd.prog.info? 71).map (·.size) = some LZ.length := by rw [hLZ, Array.length_toList]; exact hrSize
        rw [← hLZ] at hrz
        have HTL := Lib.hid (show Calls Tryd.prog 57 #[.agg LZ.toArray, .agg #[.int .i64 0, .int .i64 m.frm, .int .u32 (m.seq : Int), .int .u64 (m.stamp : Int)]] w5 _ from by rw [← hLZa]; exact htl)
        have HRZ := Lib.hid (And.intro hrz hLZs)
        clear hrz htl hLZ hLZa hLZs hme
        go_wp2_with (first
          | (with_reducible refine wpList_load_mid rfl 71 (.tmp 32) rfl w.heap.size 67 rfl LZ _ HRZ.out.1 Tryd.underlying71 rfl HRZ.out.2 ?_)
          | fail)
        refine HTL.out.mono ?_
        rintro e w6 ⟨hte, hb6⟩
        have htel : ∃ uz, e = .returned (.agg (hrC (tellRO S1 ⟨0, m.frm, m.seq, m.stamp⟩).c S1.oth uz)) ∧ ToldIn w6 uz (tellRO S1 ⟨0, m.frm, m.seq, m.stamp⟩).T ∧ ((uz = vz ∧ (tellRO S1 ⟨0, m.frm, m.seq, m.stamp⟩).T.length = S.T.length) ∨ ∀ p n c, uz = .slice (some p) n c → w5.heap.size ≤ p.block) ∧ tellRO S1 ⟨0, m.frm, m.seq, m.stamp⟩ = { S1 with c := (tellRO S1 ⟨0, m.frm, m.seq, m.stamp⟩).c, T := (tellRO S1 ⟨0, m.frm, m.seq, m.stamp⟩).T } := by
          unfold tellRO
          rcases hte with ⟨hn, he, ht⟩ | ⟨hy, uz, he, ht, hf⟩
          · rw [if_neg hn]
            exact ⟨vz, he, ht, .inl ⟨rfl, by rw [H5.out.2.2.2.2.2.2]⟩, rfl⟩
          · rw [if_pos hy]
            exact ⟨uz, he, ht, .inr hf, rfl⟩
        obtain ⟨uz, hre, hut, huf, hso⟩ := htel
        obtain ⟨S2, hS2⟩ : ∃ S2, S2 = tellRO S1 ⟨0, m.frm, m.seq, m.stamp⟩ := ⟨_, rfl⟩
        rw [← hS2] at hre hut huf hso
        obtain ⟨CZ, hCZ⟩ : ∃ C, C = hrC S2.c S1.oth uz := ⟨_, rfl⟩
        rw [← hCZ] at hre
        subst hre
        have huz1 : uz.oneCell' = true := by obtain ⟨_, _, rfl, _⟩ := hut; rfl
        have HT6 := Lib.hid (H5.out.2.1.below hb6)
        have h6 : w6.heap[w.heap.size]? = some (.cells (rfC S1 u vz) 73 (0, 0)) := HT6.out.blk
        have HTH := Lib.hid (there_of h6 (o := 67) (n := CZ.size) (by rw [hCZ, hrC_size, rfC_size]; omega))
        have h7 := ro_setZ h6 S2.c uz S2.T
        rw [← hso, ← hCZ] at h7
        have hk7 := keptSetCells w.heap.size CZ.toList 67 w6
        have ht7 := HT6.out.set hk7 h7
        have huA := (H5.out.2.2.1.below hb6).keptN hk7 (fun p n c e hn => by have := H5.out.2.2.2.2.2.1.ne (j := 0) (by omega) p n c e hn; omega)
        have haz := HAZ.out.new H5.out.2.2.2.2.1 (m := S2.T.length) huf
        have huZ := hut.keptN hk7 (fun p n c e hn => by have := haz.ne (j := 0) (by omega) p n c e hn; omega)
        obtain ⟨X6, hX6⟩ : ∃ X6, X6 = rfC S2 u uz := ⟨_, rfl⟩
        rw [← hX6] at ht7
        have HCZ := Lib.hid (show (Tryd.prog.info? 71).map (·.size) = some CZ.size ∧ CZ.all (·.oneCell') = true from by rw [hCZ]; exact ⟨hrSize, hrC_one _ _ _ huz1⟩)
        generalize hw7 : w6.setCells w.heap.size 67 CZ.toList = w7 at *
        have HW7 := Lib.hid hw7
        have HT7 := Lib.hid ht7
        have HS6 := Lib.hid (show (Tryd.prog.info? 73).map (·.size) = some X6.size ∧ Z.size = X6.size ∧ X6.all (·.oneCell') = true from by rw [hX6]; exact ⟨rfSize, by rw [HQ.out.2.1, rfC_size], rfC_one _ _ _ HU.out.2.2.1 huz1⟩)
        have hA2 : S2.A = S.A ++ [m] := by rw [hso, H5.out.2.2.2.2.2.2]
        have HPO := Lib.hid (show Below w.heap.size w (w7.setRow (w.heap.size + 1 + 1) X6) → TakeOk w va vz S m (.returned (.tuple #[.agg X6, .int .i64 0])) (w7.setRow (w.heap.size + 1 + 1) X6) from fun hbE => by
          have hkr := setRow_keptR w7 (w.heap.size + 1 + 1) X6
          refine ⟨⟨u, uz, by rw [HTK.out.1, HTK.out.2, hX6, hS2], ?_, ?_, HNU.out, .of (show w.heap.size ≤ w5.heap.size by have := H5.out.2.2.2.2.1; omega) (huf.imp (fun h => h.1) id)⟩, hbE⟩
          · rw [HTK.out.1, ← hS2, hA2]; exact huA.keptN hkr (fun p n c e hn => by have := H5.out.2.2.2.2.2.1.ne (j := 2) (by omega) p n c e hn; omega)
          · rw [HTK.out.1, ← hS2]; exact huZ.keptN hkr (fun p n c e hn => by have := haz.ne (j := 2) (by omega) p n c e hn; omega))
        clear hte hut huf hso hS2 hCZ huz1 h6 h7 hk7 ht7 huA haz huZ hX6 hw7 hA2 HTL HRZ hb6
        go_upto_region 11 with (first
          | (with_reducible refine wpList_store_mid rfl 71 (.tmp 42) (.tmp 41) rfl w.heap.size 67 CZ rfl rfl HTH.out HCZ.out.1 HCZ.out.2 ?_)
          | fail)
        (try simp only [Act.put])
        rw [HW7.out]
        clear HW7 HTH g0 g1 g2 gm gc fc
        go_wp2_with (first
          | (with_reducible refine wpList_load_row rfl 73 (.tmp 2) rfl w.heap.size rfl 73 X6 (0, 0) _ HT7.out.blk Tryd.underlying73 rfl HS6.out.1 ?_)
          | (with_reducible refine wpList_store_row rfl 73 (.tmp 4) (.tmp 53) rfl (w.heap.size + 1 + 1) X6 rfl rfl 73 _ HT7.out.res HS6.out.1 HS6.out.2.1 HS6.out.2.2 ?_)
          | fail)
        have hbE := bsr' HT7.out.bel (g := w.heap.size + 1 + 1) (by omega) X6
        exact bodyPost_ret (results_cell_tmp Tryd.results56 _ _ (w.heap.size + 1 + 1) 73 X6 (0, 0) _ _ rfl rfl (setRow_heap _ _ _ _ _ _ HT7.out.res) Tryd.underlying73 rfl HS6.out.1) rfl (HPO.out hbE)
    · have d0 : (pc != 0) = true := by simpa using hp0
      have HTK := Lib.hid (show takeRO S m = S ∧ takeRC S m = pc from ⟨by unfold takeRO; rw [if_neg (fun h => hp0 (HU.out.2.2.2.2.trans h.2))], by unfold takeRC; rw [if_pos HHB.out.symm]; exact HU.out.2.2.2.2.symm⟩)
      have HPO := Lib.hid (show Below w.heap.size w (w4.setRow (w.heap.size + 1 + 1) X) → TakeOk w va vz S m (.returned (.tuple #[.agg X, .int .i64 pc])) (w4.setRow (w.heap.size + 1 + 1) X) from fun hbE => ⟨⟨va, vz, by rw [HTK.out.1, HTK.out.2, HQ.out.1], by rw [HTK.out.1]; exact HA.out.1.below hbE, by rw [HTK.out.1]; exact HA.out.2.1.below hbE, .inl rfl, .inl rfl⟩, hbE⟩)
      clear hp0
      go_wp2_with (first
        | (with_reducible refine wpList_load_row rfl 73 (.tmp 2) rfl w.heap.size rfl 73 X (0, 0) _ HT4.out.blk Tryd.underlying73 rfl HXS.out.1 ?_)
        | (with_reducible refine wpList_store_row rfl 73 (.tmp 4) (.tmp 23) rfl (w.heap.size + 1 + 1) X rfl rfl 73 _ HT4.out.res HXS.out.1 HXS.out.2.1 HXS.out.2.2 ?_)
        | fail)
      have hbE := bsr' HT4.out.bel (g := w.heap.size + 1 + 1) (by omega) X
      exact bodyPost_ret (results_cell_tmp Tryd.results56 _ _ (w.heap.size + 1 + 1) 73 X (0, 0) _ _ rfl rfl (setRow_heap _ _ _ _ _ _ HT4.out.res) Tryd.underlying73 rfl HXS.out.1) rfl (HPO.out hbE)
end Go.Proofs.YtgjlcjbmcnofiaaDoor
