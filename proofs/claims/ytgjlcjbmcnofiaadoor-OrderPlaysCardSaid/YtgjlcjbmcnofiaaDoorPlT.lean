/-
  The law's play: a promise.
  Conditions: those that each theorem names.
-/
import Derived.Test.YtgjlcjbmcnofiaaDoorPlQ
import Derived.Test.YtgjlcjbmcnofiaaDoorOrdJM
namespace Go.Proofs.YtgjlcjbmcnofiaaDoor
set_option linter.unusedVariables false
set_option linter.unusedSimpArgs false
open Go.RowKit
set_option maxRecDepth 100000 in
set_option maxHeartbeats 8000000 in
theorem playP_any {w : World} {B D Z : Nat} {V VH : Nat → Value} {O : PO} {S : RO} {va vz : Value} (a : ActO) (h : PlayAt w B D Z V VH O S va vz) (hk : a.kind = 1) (hu : a.stamp < 18446744073709551616) (hl : S.T.length ≤ 500) :
    Calls Tryd.prog 25 #[.pointer (some ⟨B, 0, none⟩), .agg (rfC S va vz), .agg (actA a)] w fun e w' => ∃ uz V1 VH1, e = .returned (.tuple #[.agg (rfC (tellRO S ⟨1, a.p, a.seq, a.stamp⟩) va uz), .bool true]) ∧ OrSt w B D Z V VH { O with H := O.H.promise a.p a.stamp a.seq } w' V1 VH1 ∧ RowsIn w' va S.A ∧ ToldIn w' uz (tellRO S ⟨1, a.p, a.seq, a.stamp⟩).T ∧ (∀ p n c, va = .slice (some p) n c → 0 < S.A.length → ¬ orS B D Z V1 VH1 p.block) ∧ (∀ p n c, uz = .slice (some p) n c → 0 < (tellRO S ⟨1, a.p, a.seq, a.stamp⟩).T.length → ¬ orS B D Z V1 VH1 p.block) ∧ NewV w vz uz := by
  have h1 : va.oneCell' = true := by obtain ⟨ad, cap, rfl, _⟩ := h.rows; rfl
  have h2 : vz.oneCell' = true := by obtain ⟨ad, cap, rfl, _⟩ := h.told; rfl
  have hz := zeroR_run
  obtain ⟨ZR, hZR⟩ : ∃ Z, Z = zeroR := ⟨_, rfl⟩
  have hZs : ZR.size = 199 := by rw [hZR]; unfold zeroR; rw [rfC_size]
  rw [← hZR] at hz
  obtain ⟨X, hX⟩ : ∃ X, X = rfC S va vz := ⟨_, rfl⟩
  have hXs : (Tryd.prog.info? 73).map (·.size) = some X.size ∧ ZR.size = X.size ∧ X.all (·.oneCell') = true := by rw [hX]; exact ⟨rfSize, by rw [hZs, rfC_size], rfC_one _ _ _ h1 h2⟩
  obtain ⟨A, hA⟩ : ∃ A, A = actA a := ⟨_, rfl⟩
  have hA0 : A[0]? = some (.int .i64 1) := by rw [hA, ← hk]; rfl
  have hA1 : A[1]? = some (.int .i64 a.p) := by rw [hA]; rfl
  have hA8 : A[8]? = some (.int .u32 (a.seq : Int)) := by rw [hA]; rfl
  have hA9 : A[9]? = some (.int .u64 (a.stamp : Int)) := by rw [hA]; rfl
  obtain ⟨W, hW⟩ : ∃ W, W = ((w.alloc (.cells X 73)).alloc (.cells A 51)).alloc (.cells ZR 73) := ⟨_, rfl⟩
  have hR : RoAct w X A ZR W := by rw [hW]; exact RoAct.new w X A ZR
  have hHR := hzPromise_any Z O.H VH a.p a.stamp a.seq
  obtain ⟨LZ, hLZ⟩ : ∃ L, L = (hrC S.c S.oth vz).toList := ⟨_, rfl⟩
  have hLZa : hrC S.c S.oth vz = LZ.toArray := by rw [hLZ]
  have hLZs : (Tryd.prog.info? 71).map (·.size) = some LZ.length := by rw [hLZ, Array.length_toList]; exact hrSize
  have hTL : ∀ W2 : World, ToldIn W2 vz S.T → Calls Tryd.prog 57 #[.agg LZ.toArray, .agg #[.int .i64 1, .int .i64 a.p, .int .u32 (a.seq : Int), .int .u64 (a.stamp : Int)]] W2 fun e w' => TellEnd W2 vz S.c S.oth S.T ⟨1, a.p, a.seq, a.stamp⟩ e w' ∧ Below W2.heap.size W2 w' := fun W2 ht => by
    rw [← hLZa]
    exact rTell_any vz S.c S.oth S.T ⟨1, a.p, a.seq, a.stamp⟩ W2 ht hl
  have hRZ : ∀ W2 : World, W2.heap[w.heap.size]? = some (.cells X 73 (0, 0)) → W2.rangeAt w.heap.size 67 LZ := fun W2 hb => by
    rw [hLZ]
    rw [hX] at hb
    exact ro_Z hb
  obtain ⟨p, hp⟩ : ∃ p, p = a.p := ⟨_, rfl⟩
  obtain ⟨u, huu⟩ : ∃ u, u = a.stamp := ⟨_, rfl⟩
  obtain ⟨sq, hsq⟩ : ∃ q, q = a.seq := ⟨_, rfl⟩
  rw [← hX, ← hA]
  rw [← hp] at hA1 hHR hTL ⊢
  rw [← huu] at hA9 hHR hTL ⊢
  rw [← hsq] at hA8 hHR hTL ⊢
  have hat := h.at_.below hR.bel
  have c0 : W.cell? ⟨w.heap.size + 1, 0, none⟩ = some (.int .i64 1) := (cell_of_row _ _ 0 _ _ _ hR.act).trans hA0
  have b0 : ∀ y : Bel W, y.val.cell? ⟨B, 1, none⟩ = some (.pointer (some ⟨Z, 0, none⟩)) := Bel.cell hat.cZ hat.lt
  have b1 : ∀ y : Bel W, y.val.cell? ⟨w.heap.size + 1, 1, none⟩ = some (.int .i64 p) := Bel.cell ((cell_of_row _ _ 1 _ _ _ hR.act).trans hA1) (Array.getElem?_eq_some_iff.1 hR.act).1
  have b8 : ∀ y : Bel W, y.val.cell? ⟨w.heap.size + 1, 8, none⟩ = some (.int .u32 (sq : Int)) := Bel.cell ((cell_of_row _ _ 8 _ _ _ hR.act).trans hA8) (Array.getElem?_eq_some_iff.1 hR.act).1
  have b9 : ∀ y : Bel W, y.val.cell? ⟨w.heap.size + 1, 9, none⟩ = some (.int .u64 (u : Int)) := Bel.cell ((cell_of_row _ _ 9 _ _ _ hR.act).trans hA9) (Array.getElem?_eq_some_iff.1 hR.act).1
  have HR := Lib.hid hR
  have HP := Lib.hid h
  have HHR := Lib.hid hHR
  have HXS := Lib.hid hXs
  have HW := Lib.hid hW
  have HAT := Lib.hid hat
  have HX := Lib.hid (And.intro hX (And.intro hZs (And.intro h1 h2)))
  have HTL := Lib.hid hTL
  have HRZ := Lib.hid (And.intro hRZ hLZs)
  have HA := Lib.hid (And.intro hA1 (And.intro hA9 hA8))
  clear hZR hZs hX hXs hA hA0 hA1 hA8 hA9 hsq hW hR hk hp huu h1 h2 hHR h hu hl hat hTL hRZ hLZs hLZ hLZa
  go_enter Tryd.func25, Tryd.ntmps25
  go_upto_region 1 with (fail)
  rw [← HW.out]
  clear HW
  go_upto_region 7 with (fail)
  refine wp_region_bel_tail 10 (by kernel_rfl) (by kernel_rfl) ?_
  simp only [List.take_succ_cons, List.take_zero, List.drop_succ_cons, List.drop_zero]
  repeat (go_big_quiet_step ((fail)))
  refine wpQuiet_nil ?_
  intro w3 hw3
  have hb3 := bel_out hw3
  have HAT3 := Lib.hid (HAT.out.below hb3)
  clear b0 b1 b8 b9 c0
  go_wp2_with fail
  refine (HHR.out w3 HAT3.out.hz HP.out.ok.hz).mono ?_
  intro e w4 hto
  have he := hto.1
  subst he
  have hto := HAT3.out.stepHzEnd hto
  obtain ⟨V1, VH1, hst, hap⟩ := OrSt.next ⟨HAT3.out, Kept.of_below (bt HR.out.bel hb3), newV_refl w V, newV_refl w VH⟩ hto
  have hno : ∀ b, w.heap.size ≤ b → ¬ orS B D Z V VH b := fun b hb e => by have := HP.out.at_.sz e; omega
  have hlw := Nat.lt_of_lt_of_le (Array.getElem?_eq_some_iff.1 HR.out.res).1 hb3.size
  have hx2 := hto.1.keep ((HR.out.below hb3).blk) (hno _ (by omega))
  have ha2 := hto.1.keep ((HR.out.below hb3).act) (hno _ (by omega))
  have hr2 := hto.1.keep ((HR.out.below hb3).res) (hno _ (by omega))
  have hrw2 : RowsIn w4 va S.A := (HP.out.rows.below (HR.out.below hb3).bel).keptS hto.1 HP.out.apA
  have HRW := Lib.hid hrw2
  have HSZ := Lib.hid (show w.heap.size ≤ w3.heap.size ∧ w.heap.size + 1 + 1 < w4.heap.size from ⟨by omega, (Array.getElem?_eq_some_iff.1 hr2).1⟩)
  clear hrw2
  have htw2 : ToldIn w4 vz S.T := (HP.out.told.below (HR.out.below hb3).bel).keptS hto.1 HP.out.apT
  have HTL := Lib.hid (HTL.out w4 htw2)
  have HRZ2 := Lib.hid (HRZ.out.1 w4 hx2)
  have d1 : w4.cell? ⟨w.heap.size + 1, 1, none⟩ = some (.int .i64 p) := (cell_of_row _ _ 1 _ _ _ ha2).trans HA.out.1
  have d9 : w4.cell? ⟨w.heap.size + 1, 9, none⟩ = some (.int .u64 (u : Int)) := (cell_of_row _ _ 9 _ _ _ ha2).trans HA.out.2.1
  have d8 : w4.cell? ⟨w.heap.size + 1, 8, none⟩ = some (.int .u32 (sq : Int)) := (cell_of_row _ _ 8 _ _ _ ha2).trans HA.out.2.2
  have hor0 := hap w.heap.size (by omega) (hno _ (by omega))
  have hor2 := hap (w.heap.size + 1 + 1) hlw (hno _ (by omega))
  have HOR := Lib.hid (And.intro hor0 hor2)
  have HS := Lib.hid (And.intro hst (And.intro hx2 (And.intro hr2 hap)))
  clear hor0 hor2
  clear hno hlw hx2 ha2 hr2 htw2 hst hap hto hw3 hb3
  go_upto_region 8 with (fail)
  go_wp2_with (first
    | (with_reducible refine wpList_load_mid rfl 71 (.tmp 51) rfl w.heap.size 67 rfl LZ _ HRZ2.out Tryd.underlying71 rfl HRZ.out.2 ?_)
    | fail)
  refine HTL.out.mono ?_
  rintro e w5 ⟨hte, hb5⟩
  have htel : ∃ uz, e = .returned (.agg (hrC (tellRO S ⟨1, p, sq, u⟩).c S.oth uz)) ∧ ToldIn w5 uz (tellRO S ⟨1, p, sq, u⟩).T ∧ NewV w4 vz uz ∧ tellRO S ⟨1, p, sq, u⟩ = { S with c := (tellRO S ⟨1, p, sq, u⟩).c, T := (tellRO S ⟨1, p, sq, u⟩).T } := by
    unfold tellRO
    rcases hte with ⟨hn, he, ht⟩ | ⟨hy, uz, he, ht, hf⟩
    · rw [if_neg hn]
      exact ⟨vz, he, ht, .inl rfl, rfl⟩
    · rw [if_pos hy]
      exact ⟨uz, he, ht, .inr hf, rfl⟩
  obtain ⟨uz, hre, hut, huf, hso⟩ := htel
  obtain ⟨S2, hS2⟩ : ∃ S2, S2 = tellRO S ⟨1, p, sq, u⟩ := ⟨_, rfl⟩
  rw [← hS2] at hre hut hso
  obtain ⟨CZ, hCZ⟩ : ∃ C, C = hrC S2.c S.oth uz := ⟨_, rfl⟩
  rw [← hCZ] at hre
  subst hre
  have huz1 : uz.oneCell' = true := by obtain ⟨_, _, rfl, _⟩ := hut; rfl
  have h6 : w5.heap[w.heap.size]? = some (.cells (rfC S va vz) 73 (0, 0)) := by
    rw [← HX.out.1]
    exact (hb5.block _ (Array.getElem?_eq_some_iff.1 HS.out.2.1).1).trans HS.out.2.1
  have hr5 := (hb5.block _ (Array.getElem?_eq_some_iff.1 HS.out.2.2.1).1).trans HS.out.2.2.1
  have hTH := there_of h6 (o := 67) (n := CZ.size) (by rw [hCZ, hrC_size, rfC_size]; omega)
  have h7 := ro_setZ h6 S2.c uz S2.T
  rw [← hso, ← hCZ] at h7
  have hk7 := keptSetCells w.heap.size CZ.toList 67 w5
  have hCZs : (Tryd.prog.info? 71).map (·.size) = some CZ.size ∧ CZ.all (·.oneCell') = true := by rw [hCZ]; exact ⟨hrSize, hrC_one _ _ _ huz1⟩
  have HTH := Lib.hid hTH
  have HCZ := Lib.hid hCZs
  have H7 := Lib.hid (And.intro h7 (And.intro hk7 (And.intro hr5 (And.intro hb5 (And.intro hut (And.intro huf (And.intro huz1 (And.intro hS2 h6))))))))
  clear hte hut huf hso hS2 hCZ huz1 h6 hr5 hTH h7 hk7 hCZs hb5 HTL
  go_upto_region 23 with (first
    | (with_reducible refine wpList_store_mid rfl 71 (.tmp 61) (.tmp 60) rfl w.heap.size 67 CZ rfl rfl HTH.out HCZ.out.1 HCZ.out.2 ?_)
    | fail)
  (try simp only [Act.put])
  obtain ⟨g1, g2, g3, g4, g5, g6, g7, g8, g9⟩ := H7.out
  obtain ⟨X6, hX6⟩ : ∃ X6, X6 = rfC S2 va uz := ⟨_, rfl⟩
  rw [← hX6] at g1
  have hst6 := (HS.out.1.below g4).aside g2 (fun b hb => by subst hb; exact ⟨Nat.le_refl _, HOR.out.1⟩) (calm_ref g9 (by decide))
  have hr6 := g2.keep g3 (by omega)
  obtain ⟨w6, hw6⟩ : ∃ w6, w6 = w5.setCells w.heap.size 67 CZ.toList := ⟨_, rfl⟩
  rw [← hw6] at g1 hst6 hr6 ⊢
  have HX6S := Lib.hid (show (Tryd.prog.info? 73).map (·.size) = some X6.size ∧ ZR.size = X6.size ∧ X6.all (·.oneCell') = true from by rw [hX6]; exact ⟨rfSize, by rw [HX.out.2.1, rfC_size], rfC_one _ _ _ HX.out.2.2.1 g7⟩)
  have hst7 := hst6.aside (setRow_keptR w6 (w.heap.size + 1 + 1) X6) (fun b hb => by subst hb; exact ⟨by omega, HOR.out.2⟩) (calm_ref hr6 (by decide))
  have hr7 := setRow_heap _ _ _ X6 _ _ hr6
  have hks := setRow_keptR w6 (w.heap.size + 1 + 1) X6
  have hT := HP.out.told.newApart g5 g6
  have hA := HP.out.rows.newApart HRW.out (.inl rfl : NewV w4 va va)
  have q1 := ((HRW.out.below g4).keptN g2 (fun p n c e hn => by have := HSZ.out.2; rcases hA p n c e hn with ⟨_, _, g⟩ | g <;> omega))
  have q2 := (g5.keptN g2 (fun p n c e hn => by have := HSZ.out.2; rcases hT p n c e hn with ⟨_, _, g⟩ | g <;> omega))
  rw [← hw6] at q1 q2
  have r1 := q1.keptN hks (fun p n c e hn => by have := HSZ.out.2; rcases hA p n c e hn with ⟨_, _, g⟩ | g <;> omega)
  have r2 := q2.keptN hks (fun p n c e hn => by have := HSZ.out.2; rcases hT p n c e hn with ⟨_, _, g⟩ | g <;> omega)
  have s1 : ∀ p n c, va = .slice (some p) n c → 0 < S.A.length → ¬ orS B D Z V1 VH1 p.block := fun p n c e hn => by
    rcases hA p n c e hn with ⟨_, hl0, g⟩ | g
    · exact HS.out.2.2.2 _ (Nat.lt_of_lt_of_le g HSZ.out.1) (HP.out.apA p n c e hl0)
    · exact fun ho => by have := HS.out.1.at_.sz ho; omega
  have s2 : ∀ p n c, uz = .slice (some p) n c → 0 < S2.T.length → ¬ orS B D Z V1 VH1 p.block := fun p n c e hn => by
    rcases hT p n c e hn with ⟨e0, hl0, g⟩ | g
    · exact HS.out.2.2.2 _ (Nat.lt_of_lt_of_le g HSZ.out.1) (HP.out.apT p n c (by rw [← e0]; exact e) hl0)
    · exact fun ho => by have := HS.out.1.at_.sz ho; omega
  have hnv : NewV w vz uz := NewV.of (by have := HSZ.out.2; omega) g6
  have HEND := Lib.hid (And.intro r1 (And.intro r2 (And.intro s1 (And.intro s2 hnv))))
  clear hks hT hA q1 q2 r1 r2 s1 s2 hnv
  have H8 := Lib.hid (And.intro g1 (And.intro hr6 (And.intro hst7 (And.intro hr7 (And.intro hX6 g8)))))
  clear g1 g2 g3 g4 g5 g6 g7 g8 g9 hst6 hr6 hst7 hr7 hX6 hw6 HTH HCZ
  refine wp_region_lit ?_
  refine wpList_load_row rfl 73 (.tmp 4) rfl w.heap.size rfl 73 X6 (0, 0) _ H8.out.1 Tryd.underlying73 rfl HX6S.out.1 ?_
  (try simp only [Act.put, List.setIfInBounds_toArray, List.set_cons_zero, List.set_cons_succ])
  refine wpList_store_row rfl 73 (.tmp 6) (.tmp 131) rfl (w.heap.size + 1 + 1) X6 rfl rfl 73 _ H8.out.2.1 HX6S.out.1 HX6S.out.2.1 HX6S.out.2.2 ?_
  simp only [Act.put]
  refine wpList_step (fun K hK => ?_)
  go_simp
  refine hK _ _ ?_
  clear hK K
  (try simp only [Act.put, List.setIfInBounds_toArray, List.set_cons_zero, List.set_cons_succ])
  refine wpList_nil ?_
  go_wp2_with fail
  exact bodyPost_ret (results_cell_tmp Tryd.results25 _ _ (w.heap.size + 1 + 1) 73 X6 (0, 0) _ _ rfl rfl H8.out.2.2.2.1 Tryd.underlying73 rfl HX6S.out.1) rfl ⟨uz, V1, VH1, by rw [H8.out.2.2.2.2.1, H8.out.2.2.2.2.2]; rfl, H8.out.2.2.1, HEND.out.1, by rw [← H8.out.2.2.2.2.2]; exact HEND.out.2.1, HEND.out.2.2.1, by rw [← H8.out.2.2.2.2.2]; exact HEND.out.2.2.2.1, HEND.out.2.2.2.2⟩
end Go.Proofs.YtgjlcjbmcnofiaaDoor
namespace Go.Proofs.YtgjlcjbmcnofiaaDoor
set_option linter.unusedVariables false
set_option linter.unusedSimpArgs false
open Go.RowKit
theorem MsgOk.keptS {S : Nat → Prop} {w w' : World} {m : Msg} (h : MsgOk w m) (hk : Kept S w w') (hd : ∀ p, m.da = some p → 0 < m.ds.length → ¬ S p.block) : MsgOk w' m := h.kept hk hd
/-- the reference's message is one that it holds -/
theorem best_mem {S : RO} {al sf : Nat} {c : Nat × Msg} (h : nextR S al sf = some c) : c.2 ∈ S.A := getA_mem (headR_some S 64 c (nextR_head h))
theorem next_same {S : RO} {O : PO} (h : RefO S O) {mv : Msg} {B : Nat} {w : World} (hg : Got B w O.ripe mv) : sameM mv (bestM (nextR S (alO S O) (sfO S O))) = true := by
  rw [core_same, decide_eq_true_iff]
  have hn := h.next.1
  cases h1 : O.ripe with
  | none =>
    rw [h1] at hn
    cases h2 : nextR S (alO S O) (sfO S O) with
    | none => rw [hg.1 h1]; rfl
    | some c => rw [h2] at hn; cases hn
  | some m =>
    rw [h1] at hn
    cases h2 : nextR S (alO S O) (sfO S O) with
    | none => rw [h2] at hn; cases hn
    | some c =>
      rw [h2] at hn
      have hc : core c.2 = core m := by simpa using hn
      rw [hg.2.1 m h1]
      exact hc.symm
theorem next_is {S : RO} {O : PO} (h : RefO S O) : (nextR S (alO S O) (sfO S O)).isSome = O.ripe.isSome := by
  have hn := congrArg Option.isSome h.next.1
  simpa using hn
set_option maxRecDepth 100000 in
set_option maxHeartbeats 8000000 in
theorem playX_any {w : World} {B D Z : Nat} {V VH : Nat → Value} {O : PO} {S : RO} {va vz : Value} (a : ActO) (h : PlayAt w B D Z V VH O S va vz) (hk : a.kind = 3) (hlt : S.T.length ≤ 1000) (hl : S.A.length ≤ 1000) (hf : ∀ m ∈ S.A, procB m.frm = true) (hdk : DrOk S) :
    Calls Tryd.prog 25 #[.pointer (some ⟨B, 0, none⟩), .agg (rfC S va vz), .agg (actA a)] w fun e w' => e = .returned (.tuple #[.agg (rfC (nextRO S (alO S O) (sfO S O)) va vz), .bool true]) ∧ ∃ V1 VH1, OrSt w B D Z V VH O.next w' V1 VH1 := by
  have h1 : va.oneCell' = true := by obtain ⟨ad, cap, rfl, _⟩ := h.rows; rfl
  have h2 : vz.oneCell' = true := by obtain ⟨ad, cap, rfl, _⟩ := h.told; rfl
  have hz := zeroR_run
  obtain ⟨ZR, hZR⟩ : ∃ Z, Z = zeroR := ⟨_, rfl⟩
  have hZs : ZR.size = 199 := by rw [hZR]; unfold zeroR; rw [rfC_size]
  rw [← hZR] at hz
  obtain ⟨zc, hzc⟩ : ∃ z, z = msgA zeroM := ⟨_, rfl⟩
  have hzm : ∀ W : World, (zeroValue 42).run Tryd.prog W = .ok (.agg zc) W := fun W => by rw [hzc]; kernel_rfl
  obtain ⟨X, hX⟩ : ∃ X, X = rfC S va vz := ⟨_, rfl⟩
  obtain ⟨X2, hX2⟩ : ∃ X, X = rfC (nextRO S (alO S O) (sfO S O)) va vz := ⟨_, rfl⟩
  obtain ⟨bm, hbm⟩ : ∃ m, m = bestM (nextR S (alO S O) (sfO S O)) := ⟨_, rfl⟩
  have hXs : (Tryd.prog.info? 73).map (·.size) = some X.size ∧ ZR.size = X.size ∧ X.all (·.oneCell') = true := by rw [hX]; exact ⟨rfSize, by rw [hZs, rfC_size], rfC_one _ _ _ h1 h2⟩
  have hX2s : (Tryd.prog.info? 73).map (·.size) = some X2.size ∧ ZR.size = X2.size ∧ X2.all (·.oneCell') = true := by rw [hX2]; exact ⟨rfSize, by rw [hZs, rfC_size], rfC_one _ _ _ h1 h2⟩
  obtain ⟨A, hA⟩ : ∃ A, A = actA a := ⟨_, rfl⟩
  have hA0 : A[0]? = some (.int .i64 3) := by rw [hA, ← hk]; rfl
  obtain ⟨W, hW⟩ : ∃ W, W = ((w.alloc (.cells X 73)).alloc (.cells A 51)).alloc (.cells ZR 73) := ⟨_, rfl⟩
  have hR : RoAct w X A ZR W := by rw [hW]; exact RoAct.new w X A ZR
  have hNx := orNext_any (h.at_.below hR.bel) h.ok (h.tab.1.below hR.bel h.tab.1.lt)
  have hmb : S.mb < 18446744073709551616 := by rw [h.ref.mb]; exact h.ok.mb
  obtain ⟨b, hb⟩ : ∃ b, b = O.ripe.isSome := ⟨_, rfl⟩
  have hRN : ∀ W2 : World, RowsIn W2 va S.A → ToldIn W2 vz S.T → Calls Tryd.prog 58 #[.agg X] W2 fun e w' => e = .returned (.tuple #[.agg X2, .agg (msgA bm), .bool b]) ∧ Below W2.heap.size W2 w' := fun W2 hr ht => by
    have := rNext_any S va vz O.H.hd O.H.rc W2 hr ht hlt h.ref.z.tops.1 h.ref.z.tops.2 hl hf hmb (fun p hp => by have := hdk.dn p hp; omega)
    unfold NextRE at this
    rw [hX, hX2, hbm, hb, ← next_is h.ref]
    exact this
  have hbk : ∀ W2 : World, Kept (orS B D Z V VH) w W2 → MsgOk W2 bm := fun W2 hk2 => by
    rw [hbm]
    cases hn : nextR S (alO S O) (sfO S O) with
    | none => exact zero_ok W2
    | some c => exact (h.msg _ (best_mem hn)).1.keptS hk2 (h.msg _ (best_mem hn)).2
  have hsm : ∀ (mv : Msg) (B' : Nat) (W' : World), Got B' W' O.ripe mv → sameM mv bm = true := fun mv B' W' hg => by rw [hbm]; exact next_same h.ref hg
  rw [← hX, ← hX2, ← hA]
  obtain ⟨cm, hcm⟩ : ∃ c, c = msgA bm := ⟨_, rfl⟩
  rw [← hcm] at hRN
  have HCM := Lib.hid (show cm = msgA bm ∧ (Tryd.prog.info? 42).map (·.size) = some cm.size ∧ zc.size = cm.size ∧ cm.all (·.oneCell') = true from by rw [hcm, hzc]; exact ⟨rfl, szM, rfl, enM_all bm⟩)
  have c0 : W.cell? ⟨w.heap.size + 1, 0, none⟩ = some (.int .i64 3) := (cell_of_row _ _ 0 _ _ _ hR.act).trans hA0
  have HR := Lib.hid hR
  have HP := Lib.hid h
  have HNX := Lib.hid hNx
  have HRN := Lib.hid hRN
  have HBK := Lib.hid hbk
  have HSM := Lib.hid hsm
  have HBB := Lib.hid hb
  have HZC := Lib.hid hzc
  have HXS := Lib.hid hXs
  have HX2S := Lib.hid hX2s
  have HW := Lib.hid hW
  clear hZR hZs hX hX2 hXs hX2s hA hA0 hW hR hk h1 h2 hNx hRN h hl hlt hf hdk hmb hbk hsm hb hzc hcm hbm
  go_enter Tryd.func25, Tryd.ntmps25
  go_upto_region 1 with (fail)
  rw [← HW.out]
  clear HW
  go_upto_region 13 with (fail)
  refine wp_region_lit ?_
  refine wpList_step (fun K hK => ?_)
  go_simp
  refine hK _ _ ?_
  clear hK K
  (try simp only [Act.put, List.setIfInBounds_toArray, List.set_cons_zero, List.set_cons_succ])
  refine wpList_step (fun K hK => ?_)
  go_simp
  refine HNX.out.mono ?_
  rintro e w2 ⟨hg2, hto⟩
  obtain ⟨mv, rfl, hgot⟩ := got_of hg2
  rw [← HBB.out]
  obtain ⟨cx, hcx⟩ : ∃ c, c = msgA mv := ⟨_, rfl⟩
  rw [← hcx]
  have HCX := Lib.hid (show cx = msgA mv ∧ (Tryd.prog.info? 42).map (·.size) = some cx.size ∧ zc.size = cx.size ∧ cx.all (·.oneCell') = true from by rw [hcx, HZC.out]; exact ⟨rfl, szM, rfl, enM_all mv⟩)
  obtain ⟨V1, VH1, hst, hap⟩ := OrSt.next ⟨HP.out.at_.below HR.out.bel, Kept.of_below HR.out.bel, newV_refl w V, newV_refl w VH⟩ hto
  have hno : ∀ b, w.heap.size ≤ b → ¬ orS B D Z V VH b := fun b hb e => by have := HP.out.at_.sz e; omega
  have hlw := (Array.getElem?_eq_some_iff.1 HR.out.res).1
  have hx2 := hto.1.keep HR.out.blk (hno _ (by omega))
  have hr2 := hto.1.keep HR.out.res (hno _ (by omega))
  have hkw : Kept (orS B D Z V VH) w w2 := (Kept.of_below HR.out.bel).trans hto.1
  have hrw2 : RowsIn w2 va S.A := HP.out.rows.keptS hkw HP.out.apA
  have htw2 : ToldIn w2 vz S.T := HP.out.told.keptS hkw HP.out.apT
  have hbk2 := HBK.out w2 hkw
  have hor : ¬ orS B D Z V1 VH1 (w.heap.size + 1 + 1) := hap _ hlw (hno _ (by omega))
  have HS := Lib.hid (And.intro hst (And.intro hx2 (And.intro hr2 (And.intro hor (And.intro hrw2 (And.intro htw2 (And.intro hgot (And.intro hbk2 hlw))))))))
  have HSM := Lib.hid (HSM.out mv _ _ hgot)
  clear hst hap hno hlw hx2 hr2 hkw hrw2 htw2 hbk2 hto hor c0 HNX hgot HBK hg2 hcx
  refine hK _ _ ?_
  clear hK K
  (try simp only [Act.put, List.setIfInBounds_toArray, List.set_cons_zero, List.set_cons_succ])
  iterate 4
    refine wpList_step (fun K hK => ?_)
    go_simp
    refine hK _ _ ?_
    clear hK K
    (try simp only [Act.put, List.setIfInBounds_toArray, List.set_cons_zero, List.set_cons_succ])
  obtain ⟨MB, hMB⟩ : ∃ z, z = w2.heap.size := ⟨_, rfl⟩
  have hz1 := heap_alloc_new w2 (.cells zc 42)
  rw [← hMB] at hz1 ⊢
  have HMB := Lib.hid hMB
  clear hMB
  refine wpList_store_row rfl 42 (.tmp 11) (.tmp 87) rfl MB cx rfl rfl 42 _ hz1 HCX.out.2.1 HCX.out.2.2.1 HCX.out.2.2.2 ?_
  simp only [Act.put]
  obtain ⟨w3, hw3⟩ : ∃ z, z = (w2.alloc (.cells zc 42)).setRow MB cx := ⟨_, rfl⟩
  have hb3 : Below w2.heap.size w2 w3 := by rw [hw3]; exact (kept_setRowT (w2.alloc (.cells zc 42)) MB cx).out (ba (br w2) _) (ba (br w2) _).size (fun k hk' e => by have := HMB.out; omega)
  have hm3 : w3.heap[MB]? = some (.cells cx 42 (0, 0)) := by rw [hw3]; exact setRow_heap _ _ _ _ _ _ hz1
  rw [← hw3]
  have HC3 := Lib.hid (And.intro hb3 hm3)
  have HRN := Lib.hid (HRN.out w3 (HS.out.2.2.2.2.1.below hb3) (HS.out.2.2.2.2.2.1.below hb3))
  clear hb3 hm3 hz1 hw3
  refine wpList_step (fun K hK => ?_)
  go_simp
  refine hK _ _ ?_
  clear hK K
  (try simp only [Act.put, List.setIfInBounds_toArray, List.set_cons_zero, List.set_cons_succ])
  refine wpList_nil ?_
  go_upto_region 14 with (fail)
  refine wp_region_lit ?_
  have hx3 := (HC3.out.1.block _ (Array.getElem?_eq_some_iff.1 HS.out.2.1).1).trans HS.out.2.1
  refine wpList_load_row rfl 73 (.tmp 4) rfl w.heap.size rfl 73 X (0, 0) _ hx3 Tryd.underlying73 rfl HXS.out.1 ?_
  (try simp only [Act.put, List.setIfInBounds_toArray, List.set_cons_zero, List.set_cons_succ])
  clear hx3
  refine wpList_step (fun K hK => ?_)
  go_simp
  refine HRN.out.mono ?_
  rintro e w4 ⟨rfl, hb4⟩
  refine hK _ _ ?_
  clear hK K
  (try simp only [Act.put, List.setIfInBounds_toArray, List.set_cons_zero, List.set_cons_succ])
  iterate 6
    refine wpList_step (fun K hK => ?_)
    go_simp
    refine hK _ _ ?_
    clear hK K
    (try simp only [Act.put, List.setIfInBounds_toArray, List.set_cons_zero, List.set_cons_succ])
  obtain ⟨wa, hwa⟩ : ∃ z, z = (w4.alloc (.cells ZR 73)).alloc (.cells zc 42) := ⟨_, rfl⟩
  have hp1 : wa.heap[w4.heap.size]? = some (.cells ZR 73 (0, 0)) := by
    rw [hwa]
    exact ((ba (br (w4.alloc (.cells ZR 73))) _).block _ (by simp)).trans (heap_alloc_new w4 _)
  have hp2 : wa.heap[w4.heap.size + 1]? = some (.cells zc 42 (0, 0)) := by
    rw [hwa]
    have := heap_alloc_new (w4.alloc (.cells ZR 73)) (.cells zc 42)
    simpa using this
  have hba : Below w4.heap.size w4 wa := by rw [hwa]; exact ba (ba (br w4) _) _
  rw [← hwa]
  clear hwa
  obtain ⟨N, hN⟩ : ∃ z, z = w4.heap.size := ⟨_, rfl⟩
  rw [← hN] at hp1 hp2 ⊢
  have HN := Lib.hid hN
  clear hN
  refine wpList_store_row rfl 73 (.tmp 13) (.tmp 92) rfl N X2 rfl rfl 73 _ hp1 HX2S.out.1 HX2S.out.2.1 HX2S.out.2.2 ?_
  simp only [Act.put]
  refine wpList_store_row rfl 42 (.tmp 14) (.tmp 93) rfl (N + 1) cm rfl rfl 42 _ ((setRow_keptR wa N X2).keep hp2 (by omega)) HCM.out.2.1 HCM.out.2.2.1 HCM.out.2.2.2 ?_
  simp only [Act.put]
  obtain ⟨w5, hw5⟩ : ∃ z, z = (wa.setRow N X2).setRow (N + 1) cm := ⟨_, rfl⟩
  have hq1 : w5.heap[N]? = some (.cells X2 73 (0, 0)) := by rw [hw5]; exact (setRow_keptR _ (N + 1) cm).keep (setRow_heap _ _ _ _ _ _ hp1) (by omega)
  have hq2 : w5.heap[N + 1]? = some (.cells cm 42 (0, 0)) := by rw [hw5]; exact setRow_heap _ _ _ _ _ _ ((setRow_keptR wa N X2).keep hp2 (by omega))
  have hb5 : Below w4.heap.size w4 w5 := by
    rw [hw5]
    have hN := HN.out
    exact (setRow_keptR _ (N + 1) cm).out ((setRow_keptR wa N X2).out hba hba.size (fun b hb e => by omega)) (by rw [size_setRow]; exact hba.size) (fun b hb e => by omega)
  rw [← hw5]
  clear hw5 hp1 hp2 hba
  refine wpList_step (fun K hK => ?_)
  go_simp
  refine hK _ _ ?_
  clear hK K
  (try simp only [Act.put, List.setIfInBounds_toArray, List.set_cons_zero, List.set_cons_succ])
  refine wpList_nil ?_
  have hb35 : Below w3.heap.size w3 w5 := bt hb4 hb5
  have hb25 : Below w2.heap.size w2 w5 := bt HC3.out.1 hb35
  have hm5 : w5.heap[MB]? = some (.cells cx 42 (0, 0)) := (hb35.block _ (Array.getElem?_eq_some_iff.1 HC3.out.2).1).trans HC3.out.2
  have hr5 := (hb25.block _ (Array.getElem?_eq_some_iff.1 HS.out.2.2.1).1).trans HS.out.2.2.1
  have hst5 := HS.out.1.below hb25
  have hNR : w.heap.size + 1 + 1 < MB ∧ MB < N := ⟨by rw [HMB.out]; exact (Array.getElem?_eq_some_iff.1 HS.out.2.2.1).1, by have := (Array.getElem?_eq_some_iff.1 HC3.out.2).1; have := hb4.size; rw [HN.out]; omega⟩
  have hgot5 := HS.out.2.2.2.2.2.2.1.below hb25
  have hbk5 := HS.out.2.2.2.2.2.2.2.1.below hb25
  have H5 := Lib.hid (And.intro hq1 (And.intro hq2 (And.intro hm5 (And.intro hr5 (And.intro hst5 (And.intro hNR (And.intro hgot5.2.2.1 hbk5)))))))
  have HOR := Lib.hid HS.out.2.2.2.1
  clear hb4 hb5 hb35 hb25 hq1 hq2 hm5 hr5 hst5 hNR hgot5 hbk5 HN HMB HC3 HRN HS
  go_upto_region 15 with (fail)
  have HSS := Lib.hid (show ∀ w', Kept (fun k => k = w.heap.size + 1 + 1) w5 w' → w'.rangeAt N 0 X2.toList ∧ w'.rangeAt MB 0 cx.toList ∧ w'.rangeAt (N + 1) 0 cm.toList from fun w' hk => ⟨rangeAt_of (hk.keep H5.out.1 (by have := H5.out.2.2.2.2.2.1; omega)) (fun j hj => by rw [Nat.zero_add]), rangeAt_of (hk.keep H5.out.2.2.1 (by have := H5.out.2.2.2.2.2.1; omega)) (fun j hj => by rw [Nat.zero_add]), rangeAt_of (hk.keep H5.out.2.1 (by have := H5.out.2.2.2.2.2.1; omega)) (fun j hj => by rw [Nat.zero_add])⟩)
  have HSZ := Lib.hid (show (Tryd.prog.info? 73).map (·.size) = some X2.toList.length ∧ (Tryd.prog.info? 42).map (·.size) = some cx.toList.length ∧ (Tryd.prog.info? 42).map (·.size) = some cm.toList.length from ⟨by rw [HX2S.out.1]; simp, by rw [HCX.out.2.1]; simp, by rw [HCM.out.2.1]; simp⟩)
  have hk0 : Kept (fun k => k = w.heap.size + 1 + 1) w5 w5.drew := Kept.of_below (br w5).drew
  refine wp_region_mask (fun w' => w'.rangeAt N 0 X2.toList ∧ w'.rangeAt MB 0 cx.toList ∧ w'.rangeAt (N + 1) 0 cm.toList) 10 8 [true, true, true, false, false, false, false, false, false, false, false] #[true, true, true, false, false, false, false, false, false, false, false] (by kernel_rfl) (by kernel_rfl) (by kernel_rfl) (HSS.out _ hk0) ?_
  have H6 := Lib.hid (show Below w5.heap.size w5 w5.drew from (br w5).drew)
  clear hk0
  generalize w5.drew = w6 at *
  refine wpMask_take _ (yieldsIf_load_mid (by rfl) 73 (.tmp 13) rfl N 0 rfl X2.toList _ (fun w' hS => hS.1) Tryd.underlying73 rfl HSZ.out.1) ?_
  simp only [Act.put, List.getElem_toArray, List.getElem_cons_succ, List.getElem_cons_zero, List.setIfInBounds_toArray, List.set_cons_zero, List.set_cons_succ]
  refine wpMask_take _ (yieldsIf_load_mid (by rfl) 42 (.tmp 11) rfl MB 0 rfl cx.toList _ (fun w' hS => hS.2.1) Tryd.underlying42 rfl HSZ.out.2.1) ?_
  simp only [Act.put, List.getElem_toArray, List.getElem_cons_succ, List.getElem_cons_zero, List.setIfInBounds_toArray, List.set_cons_zero, List.set_cons_succ]
  refine wpMask_take _ (yieldsIf_load_mid (by rfl) 42 (.tmp 14) rfl (N + 1) 0 rfl cm.toList _ (fun w' hS => hS.2.2) Tryd.underlying42 rfl HSZ.out.2.2) ?_
  simp only [Act.put, List.getElem_toArray, List.getElem_cons_succ, List.getElem_cons_zero, List.setIfInBounds_toArray, List.set_cons_zero, List.set_cons_succ]
  simp only [Array.toArray_toList]
  iterate 8 refine wpMask_skip ?_
  refine wpMask_nil ?_
  have HSame := Lib.hid (show Calls Tryd.prog 37 #[.agg cx, .agg cm] w6 _ from by rw [HCX.out.1, HCM.out.1]; exact Same_any mv bm w6 (H5.out.2.2.2.2.2.2.1.below H6.out) (H5.out.2.2.2.2.2.2.2.below H6.out))
  refine wpAnyS_ready (rs := [3]) (by kernel_rfl) (by simp) ?_
  refine AllReadyS.cons rfl (fun K hK => ?_) AllReadyS.nil
  go_simp
  refine HSame.out.mono ?_
  rintro e w7 ⟨rfl, hb7⟩
  rw [HSM.out]
  have HB7 := Lib.hid (bt H6.out hb7)
  refine hK.out _ _ (fun _ => HSS.out _ (Kept.of_below HB7.out)) ?_
  clear hK K hb7 HSame
  simp only [Act.put, List.getElem_toArray, List.getElem_cons_succ, List.getElem_cons_zero, List.setIfInBounds_toArray, List.set_cons_zero, List.set_cons_succ]
  have hbb : (b == b) = true := by simp
  refine wpAnyS_take (i := 4) (.bool true) rfl (by kernel_rfl) (Or.inl ⟨by rfl, fun w' hS => by clear hS; go_simp; try with_reducible rfl⟩) (HSS.out _ (Kept.of_below HB7.out)) ?_
  simp only [Act.put, List.getElem_toArray, List.getElem_cons_succ, List.getElem_cons_zero, List.setIfInBounds_toArray, List.set_cons_zero, List.set_cons_succ]
  iterate 1
    refine wpAnyS_take (i := 5) _ rfl (by kernel_rfl) (Or.inl ⟨by rfl, fun w' hS => by clear hS; go_simp; try with_reducible rfl⟩) (HSS.out _ (Kept.of_below HB7.out)) ?_
    simp only [Act.put, List.getElem_toArray, List.getElem_cons_succ, List.getElem_cons_zero, List.setIfInBounds_toArray, List.set_cons_zero, List.set_cons_succ]
    refine wpAnyS_take (i := 6) _ rfl (by kernel_rfl) (Or.inl ⟨by rfl, fun w' hS => by clear hS; go_simp; try with_reducible rfl⟩) (HSS.out _ (Kept.of_below HB7.out)) ?_
    simp only [Act.put, List.getElem_toArray, List.getElem_cons_succ, List.getElem_cons_zero, List.setIfInBounds_toArray, List.set_cons_zero, List.set_cons_succ]
    refine wpAnyS_take (i := 7) (.bool true) rfl (by kernel_rfl) (Or.inl ⟨by rfl, fun w' hS => by clear hS; go_simp; try with_reducible rfl⟩) (HSS.out _ (Kept.of_below HB7.out)) ?_
    simp only [Act.put, List.getElem_toArray, List.getElem_cons_succ, List.getElem_cons_zero, List.setIfInBounds_toArray, List.set_cons_zero, List.set_cons_succ]
    refine wpAnyS_take (i := 8) (.bool true) rfl (by kernel_rfl) (Or.inl ⟨by rfl, fun w' hS => by clear hS; go_simp; try with_reducible rfl⟩) (HSS.out _ (Kept.of_below HB7.out)) ?_
    simp only [Act.put, List.getElem_toArray, List.getElem_cons_succ, List.getElem_cons_zero, List.setIfInBounds_toArray, List.set_cons_zero, List.set_cons_succ]
  refine wpAnyS_ready (rs := [9]) (by kernel_rfl) (by simp) ?_
  refine AllReadyS.cons rfl (fun K hK => ?_) AllReadyS.nil
  rw [if_pos (by rfl)]
  have hr7 := (HB7.out.block _ (Array.getElem?_eq_some_iff.1 H5.out.2.2.2.1).1).trans H5.out.2.2.2.1
  refine wp_store_row 73 (.tmp 6) (.tmp 95) rfl (w.heap.size + 1 + 1) X2 rfl rfl 73 _ hr7 HX2S.out.1 HX2S.out.2.1 HX2S.out.2.2 ?_
  have hk8 := setRow_keptR w7 (w.heap.size + 1 + 1) X2
  have hst8 := (H5.out.2.2.2.2.1.below HB7.out).aside hk8 (fun b hb => by subst hb; exact ⟨by omega, HOR.out⟩) (calm_ref hr7 (by decide))
  have hr8 := setRow_heap _ _ _ X2 _ _ hr7
  refine hK.out _ _ (fun _ => HSS.out _ (Kept.trans (Kept.of_below HB7.out) hk8)) ?_
  clear hK K
  simp only [Act.put, List.getElem_toArray, List.getElem_cons_succ, List.getElem_cons_zero, List.setIfInBounds_toArray, List.set_cons_zero, List.set_cons_succ]
  have H8 := Lib.hid (And.intro hst8 hr8)
  clear hr7 hk8 hst8 hr8 HSS
  generalize w7.setRow (w.heap.size + 1 + 1) X2 = w8 at *
  refine wpAnyS_ready (rs := [10]) (by kernel_rfl) (by simp) ?_
  refine AllReadyS.cons rfl (fun K hK => ?_) AllReadyS.nil
  go_simp
  refine hK.out _ _ (fun h => absurd h (by decide)) ?_
  clear hK K
  simp only [Act.put, List.getElem_toArray, List.getElem_cons_succ, List.getElem_cons_zero, List.setIfInBounds_toArray, List.set_cons_zero, List.set_cons_succ]
  refine wpAnyS_done (by kernel_rfl) ?_ _
  go_wp2_with fail
  exact bodyPost_ret (results_cell_tmp Tryd.results25 _ _ (w.heap.size + 1 + 1) 73 X2 (0, 0) _ _ rfl rfl H8.out.2 Tryd.underlying73 rfl HX2S.out.1) rfl ⟨rfl, V1, VH1, H8.out.1⟩
end Go.Proofs.YtgjlcjbmcnofiaaDoor
namespace Go.Proofs.YtgjlcjbmcnofiaaDoor
set_option linter.unusedVariables false
set_option linter.unusedSimpArgs false
open Go.RowKit
theorem DrnR.mem {al sf : Nat} {S S' : RO} {L : List Msg} (h : DrnR al sf S L S') : ∀ m ∈ L, m ∈ S.A := by
  induction h with
  | nil => intro m hm; cases hm
  | snoc h hn ih =>
    intro m hm
    rcases List.mem_append.1 hm with hm | hm
    · exact ih m hm
    · rw [List.mem_singleton] at hm
      rw [hm, ← h.same.1]
      exact best_mem hn
/-- what a row of messages that both hand out leaves -/
structure DrBoth (w : World) (B D Z : Nat) (V VH : Nat → Value) (O : PO) (S S' : RO) (w' : World) : Prop where
  ex : ∃ L K O' V1 VH1, DrnR (alO S O) (sfO S O) S L S' ∧ nextR S' (alO S O) (sfO S O) = none ∧ Drn O K O' ∧ O'.ripe = none ∧ OrSt w B D Z V VH O' w' V1 VH1
set_option maxRecDepth 100000 in
set_option maxHeartbeats 8000000 in
theorem playD_any {w : World} {B D Z : Nat} {V VH : Nat → Value} {O : PO} {S : RO} {va vz : Value} (a : ActO) (h : PlayAt w B D Z V VH O S va vz) (hk : a.kind = 4) (hlt : S.T.length ≤ 1000) (hl : S.A.length ≤ 1000) (hf : ∀ m ∈ S.A, procB m.frm = true) (hdk : DrOk S) :
    Calls Tryd.prog 25 #[.pointer (some ⟨B, 0, none⟩), .agg (rfC S va vz), .agg (actA a)] w fun e w' => ∃ S', e = .returned (.tuple #[.agg (rfC S' va vz), .bool true]) ∧ DrBoth w B D Z V VH O S S' w' := by
  have h1 : va.oneCell' = true := by obtain ⟨ad, cap, rfl, _⟩ := h.rows; rfl
  have h2 : vz.oneCell' = true := by obtain ⟨ad, cap, rfl, _⟩ := h.told; rfl
  have hz := zeroR_run
  obtain ⟨ZR, hZR⟩ : ∃ Z, Z = zeroR := ⟨_, rfl⟩
  have hZs : ZR.size = 199 := by rw [hZR]; unfold zeroR; rw [rfC_size]
  rw [← hZR] at hz
  obtain ⟨X, hX⟩ : ∃ X, X = rfC S va vz := ⟨_, rfl⟩
  have hXs : (Tryd.prog.info? 73).map (·.size) = some X.size ∧ ZR.size = X.size ∧ X.all (·.oneCell') = true := by rw [hX]; exact ⟨rfSize, by rw [hZs, rfC_size], rfC_one _ _ _ h1 h2⟩
  have hX2s : ∀ S', (Tryd.prog.info? 73).map (·.size) = some (rfC S' va vz).size ∧ ZR.size = (rfC S' va vz).size ∧ (rfC S' va vz).all (·.oneCell') = true := fun S' => ⟨rfSize, by rw [hZs, rfC_size], rfC_one _ _ _ h1 h2⟩
  obtain ⟨A, hA⟩ : ∃ A, A = actA a := ⟨_, rfl⟩
  have hA0 : A[0]? = some (.int .i64 4) := by rw [hA, ← hk]; rfl
  obtain ⟨W, hW⟩ : ∃ W, W = ((w.alloc (.cells X 73)).alloc (.cells A 51)).alloc (.cells ZR 73) := ⟨_, rfl⟩
  have hR : RoAct w X A ZR W := by rw [hW]; exact RoAct.new w X A ZR
  have hstW : OrSt w B D Z V VH O W V VH := ⟨h.at_.below hR.bel, Kept.of_below hR.bel, newV_refl w V, newV_refl w VH⟩
  have hDr := orDrain_any hstW.at_ h.ok (hstW.tab h.tab)
  have hmb : S.mb < 18446744073709551616 := by rw [h.ref.mb]; exact h.ok.mb
  have hRD : ∀ W2 : World, RowsIn W2 va S.A → ToldIn W2 vz S.T → Calls Tryd.prog 59 #[.agg X] W2 (DrainRE W2 va vz S (alO S O) (sfO S O)) := fun W2 hr ht => by
    have := rDrain_any S va vz O.H.hd O.H.rc W2 hr ht hlt h.ref.z.tops.1 h.ref.z.tops.2 hl hf hmb hdk
    rw [hX]
    exact this
  have hbk : ∀ W2 : World, Kept (orS B D Z V VH) w W2 → ∀ m ∈ S.A, MsgOk W2 m := fun W2 hk2 m hm => (h.msg _ hm).1.keptS hk2 (h.msg _ hm).2
  rw [← hX, ← hA]
  have c0 : W.cell? ⟨w.heap.size + 1, 0, none⟩ = some (.int .i64 4) := (cell_of_row _ _ 0 _ _ _ hR.act).trans hA0
  have HR := Lib.hid hR
  have HP := Lib.hid h
  have HDR := Lib.hid hDr
  have HRD := Lib.hid hRD
  have HBK := Lib.hid hbk
  have HXS := Lib.hid hXs
  have HX2S := Lib.hid hX2s
  have HST := Lib.hid hstW
  have HW := Lib.hid hW
  have HL := Lib.hid (And.intro hl hdk)
  clear hZR hZs hX hXs hX2s hA hA0 hW hR hk h1 h2 hDr hRD h hl hlt hf hdk hmb hbk hstW
  go_enter Tryd.func25, Tryd.ntmps25
  go_upto_region 1 with (fail)
  rw [← HW.out]
  clear HW
  go_upto_region 17 with (fail)
  go_wp2_with fail
  refine HDR.out.mono ?_
  rintro e w2 ⟨K, K', O1, v1, V1, VH1, hdn, hrp, rfl, how, hcr, hou, hst0, hva⟩
  obtain ⟨au, cu, rfl⟩ := ownForm how
  have hst : OrSt w B D Z V VH O1 w2 V1 VH1 := ⟨hst0.at_, HST.out.kept.trans hst0.kept, newV_trans HST.out.n1 hst0.n1 HST.out.kept.size, newV_trans HST.out.n2 hst0.n2 HST.out.kept.size⟩
  have hno : ∀ b, w.heap.size ≤ b → ¬ orS B D Z V VH b := fun b hb e => by have := HP.out.at_.sz e; omega
  have hlw := (Array.getElem?_eq_some_iff.1 HR.out.res).1
  have hor : ¬ orS B D Z V1 VH1 (w.heap.size + 1 + 1) := fun e => by
    rcases orS_new hst0.n1 hst0.n2 e with e | e
    · exact hno _ (by omega) e
    · omega
  have hx2 := hst0.kept.keep HR.out.blk (hno _ (by omega))
  have hr2 := hst0.kept.keep HR.out.res (hno _ (by omega))
  have hrw2 : RowsIn w2 va S.A := HP.out.rows.keptS hst.kept HP.out.apA
  have htw2 : ToldIn w2 vz S.T := HP.out.told.keptS hst.kept HP.out.apT
  have hbk2 := HBK.out w2 hst.kept
  have hms2 : MsgsAt w2 (.slice au K'.length cu) K' := (RowsAt.of_own how).rowsIn.msgsAt (own_len how) (fun m hm => (hou m hm).1)
  have HRD := Lib.hid (HRD.out w2 hrw2 htw2)
  have HS := Lib.hid (And.intro hst (And.intro hx2 (And.intro hr2 (And.intro hor (And.intro hms2 (And.intro hbk2 (And.intro hdn (And.intro hrp hcr))))))))
  have hlx : w.heap.size + 1 + 1 < w2.heap.size := (Array.getElem?_eq_some_iff.1 hr2).1
  have HLX := Lib.hid hlx
  clear hst hst0 hno hlw hx2 hr2 hrw2 htw2 hbk2 hor c0 HDR HBK how hcr hou hva hms2 hdn hrp hlx
  go_upto_region 18 with (fail)
  refine wp_region_lit ?_
  refine wpList_load_row rfl 73 (.tmp 4) rfl w.heap.size rfl 73 X (0, 0) _ HS.out.2.1 Tryd.underlying73 rfl HXS.out.1 ?_
  (try simp only [Act.put, List.setIfInBounds_toArray, List.set_cons_zero, List.set_cons_succ])
  refine wpList_step (fun K hK => ?_)
  go_simp
  refine HRD.out.mono ?_
  rintro e w3 ⟨L, S', v3, hdr, hnr, rfl, how3, hb3⟩
  obtain ⟨a3, c3, rfl⟩ := ownForm how3
  obtain ⟨X2, hX2⟩ : ∃ X, X = rfC S' va vz := ⟨_, rfl⟩
  rw [← hX2]
  have HX2S := Lib.hid (show (Tryd.prog.info? 73).map (·.size) = some X2.size ∧ ZR.size = X2.size ∧ X2.all (·.oneCell') = true from by rw [hX2]; exact HX2S.out S')
  have HX2 := Lib.hid hX2
  have hms3 : MsgsAt w3 (.slice a3 L.length c3) L := (RowsAt.of_own how3).rowsIn.msgsAt (own_len how3) (fun m hm => (HS.out.2.2.2.2.2.1 m (hdr.mem m hm)).below hb3)
  have H3 := Lib.hid (And.intro hdr (And.intro hnr (And.intro hms3 hb3)))
  clear hdr hnr how3 hms3 hX2 hb3
  refine hK _ _ ?_
  clear hK K
  (try simp only [Act.put, List.setIfInBounds_toArray, List.set_cons_zero, List.set_cons_succ])
  iterate 4
    refine wpList_step (fun K hK => ?_)
    go_simp
    refine hK _ _ ?_
    clear hK K
    (try simp only [Act.put, List.setIfInBounds_toArray, List.set_cons_zero, List.set_cons_succ])
  have hp1 := heap_alloc_new w3 (.cells ZR 73)
  have hba := ba (br w3) (.cells ZR 73)
  obtain ⟨N, hN⟩ : ∃ z, z = w3.heap.size := ⟨_, rfl⟩
  rw [← hN] at hp1 ⊢
  refine wpList_store_row rfl 73 (.tmp 17) (.tmp 111) rfl N X2 rfl rfl 73 _ hp1 HX2S.out.1 HX2S.out.2.1 HX2S.out.2.2 ?_
  simp only [Act.put]
  have hq4 := setRow_heap _ _ _ X2 _ _ hp1
  have hb4 : Below w3.heap.size w3 ((w3.alloc (.cells ZR 73)).setRow N X2) := (setRow_keptR _ _ X2).out hba hba.size (fun b hb e => by omega)
  obtain ⟨w4, hw4⟩ : ∃ z, z = (w3.alloc (.cells ZR 73)).setRow N X2 := ⟨_, rfl⟩
  rw [← hw4] at hq4 hb4 ⊢
  have HNN := Lib.hid hN
  clear hw4 hp1 hba hN
  refine wpList_step (fun K hK => ?_)
  go_simp
  refine hK _ _ ?_
  clear hK K
  (try simp only [Act.put, List.setIfInBounds_toArray, List.set_cons_zero, List.set_cons_succ])
  refine wpList_nil ?_
  have hb24 : Below w2.heap.size w2 w4 := bt H3.out.2.2.2 hb4
  have hst4 := HS.out.1.below hb24
  have hr4 := (hb24.block _ HLX.out).trans HS.out.2.2.1
  have hms4 := H3.out.2.2.1.below hb4
  have hmk4 := HS.out.2.2.2.2.1.below hb24
  have hNl : w.heap.size + 1 + 1 < N := by have := H3.out.2.2.2.size; have := HLX.out; have := HNN.out; omega
  have hNs : N < w4.heap.size := (Array.getElem?_eq_some_iff.1 hq4).1
  have H4 := Lib.hid (And.intro hq4 (And.intro hst4 (And.intro hr4 (And.intro hms4 (And.intro hmk4 (And.intro hNl hNs))))))
  clear hb24 hst4 hr4 hms4 hmk4 hq4 hb4 hNl hNs HNN HLX
  go_upto_region 19 with (fail)
  refine wp_region_bel_tail 4 (by kernel_rfl) (by kernel_rfl) ?_
  simp only [List.take_succ_cons, List.take_zero, List.drop_succ_cons, List.drop_zero]
  have RM := Lib.hid (show ∀ w' : World, (∃ x : Bel w4, w' = x.val) → w'.rangeAt N 0 X2.toList from fun w' ⟨x, hx⟩ => by rw [hx]; exact rangeAt_of ((x.prop.block _ H4.out.2.2.2.2.2.2).trans H4.out.1) (fun j hj => by rw [Nat.zero_add]))
  have HAL := Lib.hid (show ∀ z : Bel w4, Calls Tryd.prog 11 #[.slice au K'.length cu, .slice a3 L.length c3] z.val fun e w' => e = .returned (.bool true) ∧ Below z.val.heap.size z.val w' from fun z => by
    have := All_any _ _ K' L z.val (H4.out.2.2.2.2.1.below z.prop) (H4.out.2.2.2.1.below z.prop)
    rw [allM_core (HS.out.2.2.2.2.2.2.2.2.trans (HP.out.ref.drain H3.out.1 H3.out.2.1 HS.out.2.2.2.2.2.2.1 HS.out.2.2.2.2.2.2.2.1).1.symm)] at this
    exact this)
  repeat (first
    | (refine wpQuiet_load_mid rfl 73 (.tmp 17) rfl N 0 rfl X2.toList _ RM.out Tryd.underlying73 rfl (by rw [HX2S.out.1]; simp) ?_; go_simp)
    | go_big_quiet_step ((go_at_call 11; exact bel_call (HAL.out _))))
  refine wpQuiet_nil ?_
  intro x5
  have hb5 := x5.prop
  generalize x5.val = w5 at *
  have hst5 := H4.out.2.1.below hb5
  have hr5 := (hb5.block _ (Array.getElem?_eq_some_iff.1 H4.out.2.2.1).1).trans H4.out.2.2.1
  have hk6 := setRow_keptR w5 (w.heap.size + 1 + 1) X2
  have hst6 := hst5.aside hk6 (fun b hb => by subst hb; exact ⟨by omega, HS.out.2.2.2.1⟩) (calm_ref hr5 (by decide))
  have hr6 := setRow_heap _ _ _ X2 _ _ hr5
  have H6 := Lib.hid (And.intro hr5 (And.intro hst6 hr6))
  clear hb5 hst5 hr5 hk6 hst6 hr6 HAL RM
  (try simp only [Act.put, Array.toArray_toList, List.setIfInBounds_toArray, List.set_cons_zero, List.set_cons_succ])
  refine wpList_store_row rfl 73 (.tmp 6) (.tmp 113) rfl (w.heap.size + 1 + 1) X2 rfl rfl 73 _ H6.out.1 HX2S.out.1 HX2S.out.2.1 HX2S.out.2.2 ?_
  simp only [Act.put]
  obtain ⟨w6, hw6⟩ : ∃ z, z = w5.setRow (w.heap.size + 1 + 1) X2 := ⟨_, rfl⟩
  have h6 := H6.out
  rw [← hw6] at h6 ⊢
  have H6 := Lib.hid h6
  clear hw6 h6
  go_wp2_with fail
  exact bodyPost_ret (results_cell_tmp Tryd.results25 _ _ (w.heap.size + 1 + 1) 73 X2 (0, 0) _ _ rfl rfl H6.out.2.2 Tryd.underlying73 rfl HX2S.out.1) rfl ⟨S', by rw [HX2.out]; rfl, L, K, O1, V1, VH1, H3.out.1, H3.out.2.1, HS.out.2.2.2.2.2.2.1, HS.out.2.2.2.2.2.2.2.1, H6.out.2.1⟩
end Go.Proofs.YtgjlcjbmcnofiaaDoor
namespace Go.Proofs.YtgjlcjbmcnofiaaDoor
set_option linter.unusedVariables false
set_option linter.unusedSimpArgs false
open Go.RowKit
set_option maxRecDepth 100000 in
set_option maxHeartbeats 8000000 in
theorem playR_any {w : World} {B D Z : Nat} {V VH : Nat → Value} {O : PO} {S : RO} {va vz : Value} (a : ActO) (h : PlayAt w B D Z V VH O S va vz) (hk : a.kind = 2) (hu : a.stamp < 18446744073709551616) (hl : S.T.length ≤ 500) :
    Calls Tryd.prog 25 #[.pointer (some ⟨B, 0, none⟩), .agg (rfC S va vz), .agg (actA a)] w fun e w' => ∃ uz V1 VH1, e = .returned (.tuple #[.agg (rfC (tellRO S ⟨2, a.p, 0, a.stamp⟩) va uz), .bool true]) ∧ OrSt w B D Z V VH { O with H := O.H.reached a.p a.stamp } w' V1 VH1 ∧ RowsIn w' va S.A ∧ ToldIn w' uz (tellRO S ⟨2, a.p, 0, a.stamp⟩).T ∧ (∀ p n c, va = .slice (some p) n c → 0 < S.A.length → ¬ orS B D Z V1 VH1 p.block) ∧ (∀ p n c, uz = .slice (some p) n c → 0 < (tellRO S ⟨2, a.p, 0, a.stamp⟩).T.length → ¬ orS B D Z V1 VH1 p.block) ∧ NewV w vz uz := by
  have h1 : va.oneCell' = true := by obtain ⟨ad, cap, rfl, _⟩ := h.rows; rfl
  have h2 : vz.oneCell' = true := by obtain ⟨ad, cap, rfl, _⟩ := h.told; rfl
  have hz := zeroR_run
  obtain ⟨ZR, hZR⟩ : ∃ Z, Z = zeroR := ⟨_, rfl⟩
  have hZs : ZR.size = 199 := by rw [hZR]; unfold zeroR; rw [rfC_size]
  rw [← hZR] at hz
  obtain ⟨X, hX⟩ : ∃ X, X = rfC S va vz := ⟨_, rfl⟩
  have hXs : (Tryd.prog.info? 73).map (·.size) = some X.size ∧ ZR.size = X.size ∧ X.all (·.oneCell') = true := by rw [hX]; exact ⟨rfSize, by rw [hZs, rfC_size], rfC_one _ _ _ h1 h2⟩
  obtain ⟨A, hA⟩ : ∃ A, A = actA a := ⟨_, rfl⟩
  have hA0 : A[0]? = some (.int .i64 2) := by rw [hA, ← hk]; rfl
  have hA1 : A[1]? = some (.int .i64 a.p) := by rw [hA]; rfl
  have hA9 : A[9]? = some (.int .u64 (a.stamp : Int)) := by rw [hA]; rfl
  obtain ⟨W, hW⟩ : ∃ W, W = ((w.alloc (.cells X 73)).alloc (.cells A 51)).alloc (.cells ZR 73) := ⟨_, rfl⟩
  have hR : RoAct w X A ZR W := by rw [hW]; exact RoAct.new w X A ZR
  have hHR := hzReached_any Z O.H VH a.p a.stamp
  obtain ⟨LZ, hLZ⟩ : ∃ L, L = (hrC S.c S.oth vz).toList := ⟨_, rfl⟩
  have hLZa : hrC S.c S.oth vz = LZ.toArray := by rw [hLZ]
  have hLZs : (Tryd.prog.info? 71).map (·.size) = some LZ.length := by rw [hLZ, Array.length_toList]; exact hrSize
  have hTL : ∀ W2 : World, ToldIn W2 vz S.T → Calls Tryd.prog 57 #[.agg LZ.toArray, .agg #[.int .i64 2, .int .i64 a.p, .int .u32 0, .int .u64 (a.stamp : Int)]] W2 fun e w' => TellEnd W2 vz S.c S.oth S.T ⟨2, a.p, 0, a.stamp⟩ e w' ∧ Below W2.heap.size W2 w' := fun W2 ht => by
    rw [← hLZa]
    exact rTell_any vz S.c S.oth S.T ⟨2, a.p, 0, a.stamp⟩ W2 ht hl
  have hRZ : ∀ W2 : World, W2.heap[w.heap.size]? = some (.cells X 73 (0, 0)) → W2.rangeAt w.heap.size 67 LZ := fun W2 hb => by
    rw [hLZ]
    rw [hX] at hb
    exact ro_Z hb
  obtain ⟨p, hp⟩ : ∃ p, p = a.p := ⟨_, rfl⟩
  obtain ⟨u, huu⟩ : ∃ u, u = a.stamp := ⟨_, rfl⟩
  rw [← hX, ← hA]
  rw [← hp] at hA1 hHR hTL ⊢
  rw [← huu] at hA9 hHR hTL ⊢
  have hat := h.at_.below hR.bel
  have c0 : W.cell? ⟨w.heap.size + 1, 0, none⟩ = some (.int .i64 2) := (cell_of_row _ _ 0 _ _ _ hR.act).trans hA0
  have b0 : ∀ y : Bel W, y.val.cell? ⟨B, 1, none⟩ = some (.pointer (some ⟨Z, 0, none⟩)) := Bel.cell hat.cZ hat.lt
  have b1 : ∀ y : Bel W, y.val.cell? ⟨w.heap.size + 1, 1, none⟩ = some (.int .i64 p) := Bel.cell ((cell_of_row _ _ 1 _ _ _ hR.act).trans hA1) (Array.getElem?_eq_some_iff.1 hR.act).1
  have b9 : ∀ y : Bel W, y.val.cell? ⟨w.heap.size + 1, 9, none⟩ = some (.int .u64 (u : Int)) := Bel.cell ((cell_of_row _ _ 9 _ _ _ hR.act).trans hA9) (Array.getElem?_eq_some_iff.1 hR.act).1
  have HR := Lib.hid hR
  have HP := Lib.hid h
  have HHR := Lib.hid hHR
  have HXS := Lib.hid hXs
  have HW := Lib.hid hW
  have HAT := Lib.hid hat
  have HX := Lib.hid (And.intro hX (And.intro hZs (And.intro h1 h2)))
  have HTL := Lib.hid hTL
  have HRZ := Lib.hid (And.intro hRZ hLZs)
  have HA := Lib.hid (And.intro hA1 hA9)
  clear hZR hZs hX hXs hA hA0 hA1 hA9 hW hR hk hp huu h1 h2 hHR h hu hl hat hTL hRZ hLZs hLZ hLZa
  go_enter Tryd.func25, Tryd.ntmps25
  go_upto_region 1 with (fail)
  rw [← HW.out]
  clear HW
  go_upto_region 10 with (fail)
  refine wp_region_bel_tail 8 (by kernel_rfl) (by kernel_rfl) ?_
  simp only [List.take_succ_cons, List.take_zero, List.drop_succ_cons, List.drop_zero]
  repeat (go_big_quiet_step ((fail)))
  refine wpQuiet_nil ?_
  intro w3 hw3
  have hb3 := bel_out hw3
  have HAT3 := Lib.hid (HAT.out.below hb3)
  clear b0 b1 b9 c0
  go_wp2_with fail
  refine (HHR.out w3 HAT3.out.hz HP.out.ok.hz.o).mono ?_
  intro e w4 hto
  have he := hto.1
  subst he
  have hto := HAT3.out.stepHzEnd hto
  obtain ⟨V1, VH1, hst, hap⟩ := OrSt.next ⟨HAT3.out, Kept.of_below (bt HR.out.bel hb3), newV_refl w V, newV_refl w VH⟩ hto
  have hno : ∀ b, w.heap.size ≤ b → ¬ orS B D Z V VH b := fun b hb e => by have := HP.out.at_.sz e; omega
  have hlw := Nat.lt_of_lt_of_le (Array.getElem?_eq_some_iff.1 HR.out.res).1 hb3.size
  have hx2 := hto.1.keep ((HR.out.below hb3).blk) (hno _ (by omega))
  have ha2 := hto.1.keep ((HR.out.below hb3).act) (hno _ (by omega))
  have hr2 := hto.1.keep ((HR.out.below hb3).res) (hno _ (by omega))
  have hrw2 : RowsIn w4 va S.A := (HP.out.rows.below (HR.out.below hb3).bel).keptS hto.1 HP.out.apA
  have HRW := Lib.hid hrw2
  have HSZ := Lib.hid (show w.heap.size ≤ w3.heap.size ∧ w.heap.size + 1 + 1 < w4.heap.size from ⟨by omega, (Array.getElem?_eq_some_iff.1 hr2).1⟩)
  clear hrw2
  have htw2 : ToldIn w4 vz S.T := (HP.out.told.below (HR.out.below hb3).bel).keptS hto.1 HP.out.apT
  have HTL := Lib.hid (HTL.out w4 htw2)
  have HRZ2 := Lib.hid (HRZ.out.1 w4 hx2)
  have d1 : w4.cell? ⟨w.heap.size + 1, 1, none⟩ = some (.int .i64 p) := (cell_of_row _ _ 1 _ _ _ ha2).trans HA.out.1
  have d9 : w4.cell? ⟨w.heap.size + 1, 9, none⟩ = some (.int .u64 (u : Int)) := (cell_of_row _ _ 9 _ _ _ ha2).trans HA.out.2
  have hor0 := hap w.heap.size (by omega) (hno _ (by omega))
  have hor2 := hap (w.heap.size + 1 + 1) hlw (hno _ (by omega))
  have HOR := Lib.hid (And.intro hor0 hor2)
  have HS := Lib.hid (And.intro hst (And.intro hx2 (And.intro hr2 hap)))
  clear hor0 hor2
  clear hno hlw hx2 ha2 hr2 htw2 hst hap hto hw3 hb3
  go_upto_region 11 with (fail)
  go_wp2_with (first
    | (with_reducible refine wpList_load_mid rfl 71 (.tmp 73) rfl w.heap.size 67 rfl LZ _ HRZ2.out Tryd.underlying71 rfl HRZ.out.2 ?_)
    | fail)
  refine HTL.out.mono ?_
  rintro e w5 ⟨hte, hb5⟩
  have htel : ∃ uz, e = .returned (.agg (hrC (tellRO S ⟨2, p, 0, u⟩).c S.oth uz)) ∧ ToldIn w5 uz (tellRO S ⟨2, p, 0, u⟩).T ∧ NewV w4 vz uz ∧ tellRO S ⟨2, p, 0, u⟩ = { S with c := (tellRO S ⟨2, p, 0, u⟩).c, T := (tellRO S ⟨2, p, 0, u⟩).T } := by
    unfold tellRO
    rcases hte with ⟨hn, he, ht⟩ | ⟨hy, uz, he, ht, hf⟩
    · rw [if_neg hn]
      exact ⟨vz, he, ht, .inl rfl, rfl⟩
    · rw [if_pos hy]
      exact ⟨uz, he, ht, .inr hf, rfl⟩
  obtain ⟨uz, hre, hut, huf, hso⟩ := htel
  obtain ⟨S2, hS2⟩ : ∃ S2, S2 = tellRO S ⟨2, p, 0, u⟩ := ⟨_, rfl⟩
  rw [← hS2] at hre hut hso
  obtain ⟨CZ, hCZ⟩ : ∃ C, C = hrC S2.c S.oth uz := ⟨_, rfl⟩
  rw [← hCZ] at hre
  subst hre
  have huz1 : uz.oneCell' = true := by obtain ⟨_, _, rfl, _⟩ := hut; rfl
  have h6 : w5.heap[w.heap.size]? = some (.cells (rfC S va vz) 73 (0, 0)) := by
    rw [← HX.out.1]
    exact (hb5.block _ (Array.getElem?_eq_some_iff.1 HS.out.2.1).1).trans HS.out.2.1
  have hr5 := (hb5.block _ (Array.getElem?_eq_some_iff.1 HS.out.2.2.1).1).trans HS.out.2.2.1
  have hTH := there_of h6 (o := 67) (n := CZ.size) (by rw [hCZ, hrC_size, rfC_size]; omega)
  have h7 := ro_setZ h6 S2.c uz S2.T
  rw [← hso, ← hCZ] at h7
  have hk7 := keptSetCells w.heap.size CZ.toList 67 w5
  have hCZs : (Tryd.prog.info? 71).map (·.size) = some CZ.size ∧ CZ.all (·.oneCell') = true := by rw [hCZ]; exact ⟨hrSize, hrC_one _ _ _ huz1⟩
  have HTH := Lib.hid hTH
  have HCZ := Lib.hid hCZs
  have H7 := Lib.hid (And.intro h7 (And.intro hk7 (And.intro hr5 (And.intro hb5 (And.intro hut (And.intro huf (And.intro huz1 (And.intro hS2 h6))))))))
  clear hte hut huf hso hS2 hCZ huz1 h6 hr5 hTH h7 hk7 hCZs hb5 HTL
  go_upto_region 23 with (first
    | (with_reducible refine wpList_store_mid rfl 71 (.tmp 81) (.tmp 80) rfl w.heap.size 67 CZ rfl rfl HTH.out HCZ.out.1 HCZ.out.2 ?_)
    | fail)
  (try simp only [Act.put])
  obtain ⟨g1, g2, g3, g4, g5, g6, g7, g8, g9⟩ := H7.out
  obtain ⟨X6, hX6⟩ : ∃ X6, X6 = rfC S2 va uz := ⟨_, rfl⟩
  rw [← hX6] at g1
  have hst6 := (HS.out.1.below g4).aside g2 (fun b hb => by subst hb; exact ⟨Nat.le_refl _, HOR.out.1⟩) (calm_ref g9 (by decide))
  have hr6 := g2.keep g3 (by omega)
  obtain ⟨w6, hw6⟩ : ∃ w6, w6 = w5.setCells w.heap.size 67 CZ.toList := ⟨_, rfl⟩
  rw [← hw6] at g1 hst6 hr6 ⊢
  have HX6S := Lib.hid (show (Tryd.prog.info? 73).map (·.size) = some X6.size ∧ ZR.size = X6.size ∧ X6.all (·.oneCell') = true from by rw [hX6]; exact ⟨rfSize, by rw [HX.out.2.1, rfC_size], rfC_one _ _ _ HX.out.2.2.1 g7⟩)
  have hst7 := hst6.aside (setRow_keptR w6 (w.heap.size + 1 + 1) X6) (fun b hb => by subst hb; exact ⟨by omega, HOR.out.2⟩) (calm_ref hr6 (by decide))
  have hr7 := setRow_heap _ _ _ X6 _ _ hr6
  have hks := setRow_keptR w6 (w.heap.size + 1 + 1) X6
  have hT := HP.out.told.newApart g5 g6
  have hA := HP.out.rows.newApart HRW.out (.inl rfl : NewV w4 va va)
  have q1 := ((HRW.out.below g4).keptN g2 (fun p n c e hn => by have := HSZ.out.2; rcases hA p n c e hn with ⟨_, _, g⟩ | g <;> omega))
  have q2 := (g5.keptN g2 (fun p n c e hn => by have := HSZ.out.2; rcases hT p n c e hn with ⟨_, _, g⟩ | g <;> omega))
  rw [← hw6] at q1 q2
  have r1 := q1.keptN hks (fun p n c e hn => by have := HSZ.out.2; rcases hA p n c e hn with ⟨_, _, g⟩ | g <;> omega)
  have r2 := q2.keptN hks (fun p n c e hn => by have := HSZ.out.2; rcases hT p n c e hn with ⟨_, _, g⟩ | g <;> omega)
  have s1 : ∀ p n c, va = .slice (some p) n c → 0 < S.A.length → ¬ orS B D Z V1 VH1 p.block := fun p n c e hn => by
    rcases hA p n c e hn with ⟨_, hl0, g⟩ | g
    · exact HS.out.2.2.2 _ (Nat.lt_of_lt_of_le g HSZ.out.1) (HP.out.apA p n c e hl0)
    · exact fun ho => by have := HS.out.1.at_.sz ho; omega
  have s2 : ∀ p n c, uz = .slice (some p) n c → 0 < S2.T.length → ¬ orS B D Z V1 VH1 p.block := fun p n c e hn => by
    rcases hT p n c e hn with ⟨e0, hl0, g⟩ | g
    · exact HS.out.2.2.2 _ (Nat.lt_of_lt_of_le g HSZ.out.1) (HP.out.apT p n c (by rw [← e0]; exact e) hl0)
    · exact fun ho => by have := HS.out.1.at_.sz ho; omega
  have hnv : NewV w vz uz := NewV.of (by have := HSZ.out.2; omega) g6
  have HEND := Lib.hid (And.intro r1 (And.intro r2 (And.intro s1 (And.intro s2 hnv))))
  clear hks hT hA q1 q2 r1 r2 s1 s2 hnv
  have H8 := Lib.hid (And.intro g1 (And.intro hr6 (And.intro hst7 (And.intro hr7 (And.intro hX6 g8)))))
  clear g1 g2 g3 g4 g5 g6 g7 g8 g9 hst6 hr6 hst7 hr7 hX6 hw6 HTH HCZ
  refine wp_region_lit ?_
  refine wpList_load_row rfl 73 (.tmp 4) rfl w.heap.size rfl 73 X6 (0, 0) _ H8.out.1 Tryd.underlying73 rfl HX6S.out.1 ?_
  (try simp only [Act.put, List.setIfInBounds_toArray, List.set_cons_zero, List.set_cons_succ])
  refine wpList_store_row rfl 73 (.tmp 6) (.tmp 131) rfl (w.heap.size + 1 + 1) X6 rfl rfl 73 _ H8.out.2.1 HX6S.out.1 HX6S.out.2.1 HX6S.out.2.2 ?_
  simp only [Act.put]
  refine wpList_step (fun K hK => ?_)
  go_simp
  refine hK _ _ ?_
  clear hK K
  (try simp only [Act.put, List.setIfInBounds_toArray, List.set_cons_zero, List.set_cons_succ])
  refine wpList_nil ?_
  go_wp2_with fail
  exact bodyPost_ret (results_cell_tmp Tryd.results25 _ _ (w.heap.size + 1 + 1) 73 X6 (0, 0) _ _ rfl rfl H8.out.2.2.2.1 Tryd.underlying73 rfl HX6S.out.1) rfl ⟨uz, V1, VH1, by rw [H8.out.2.2.2.2.1, H8.out.2.2.2.2.2]; rfl, H8.out.2.2.1, HEND.out.1, by rw [← H8.out.2.2.2.2.2]; exact HEND.out.2.1, HEND.out.2.2.1, by rw [← H8.out.2.2.2.2.2]; exact HEND.out.2.2.2.1, HEND.out.2.2.2.2⟩
end Go.Proofs.YtgjlcjbmcnofiaaDoor
