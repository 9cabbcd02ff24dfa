/-
  The judge: whether a stay delivered a message; what a closed stay wants of another.
  Conditions: those that each theorem names.
-/
import Derived.Test.YtogagkgkmoppmaaGreatDoorJuP
namespace Go.Proofs.YtogagkgkmoppmaaGreatDoor
set_option linter.unusedVariables false
set_option linter.unusedSimpArgs false
open Go.RowKit GM
set_option maxRecDepth 100000 in
set_option maxHeartbeats 8000000 in
theorem has_any {g o : Nat} {l : List Ev} (y : JX) (x : Msg) (w : World) (hst : w.heap[y.b]? = some (.cells (jsC g o y) 56 (0, 0))) (hrd : RdG w l y.ga y.s.gots) (hx : MsgR w x) :
    Calls Tryz.prog 58 #[ptrV y.b, .agg (msgA x)] w fun e w' => e = .returned (.bool (hasJ l y.s x)) ∧ Below w.heap.size w w' := by
  obtain ⟨w1, hw1⟩ : ∃ w1, w1 = w.alloc (.cells (msgA x) 31) := ⟨_, rfl⟩
  obtain ⟨X, hX⟩ : ∃ X, X = w.heap.size := ⟨_, rfl⟩
  have hb1 : Below w.heap.size w w1 := by rw [hw1]; exact ba (br w) _
  have hx1 : w1.heap[X]? = some (.cells (msgA x) 31 (0, 0)) := by rw [hw1, hX]; exact heap_alloc_new w _
  have hst1 := (hb1.block _ (Array.getElem?_eq_some_iff.1 hst).1).trans hst
  have HC := Lib.hid (contGot_any l x y.s.gots y.ga y.gc X w1 hx1 (hx.below hb1) (hrd.below hb1))
  have HB := Lib.hid hb1
  obtain ⟨yb, hyb⟩ : ∃ z, z = y.b := ⟨_, rfl⟩
  obtain ⟨bb, hbb⟩ : ∃ b, b = hasJ l y.s x := ⟨_, rfl⟩
  have HBB := Lib.hid hbb
  have c4 : w1.cell? ⟨yb, 4, none⟩ = some (.slice y.ga y.s.gots.length y.gc) := by rw [hyb]; exact cell_of_row _ _ 4 _ _ _ hst1
  rw [show y.s.gots.any (fun p => sameM (gotM l p) x) = bb from hbb.symm] at HC
  unfold ptrV
  rw [← hyb, ← hbb]
  obtain ⟨cx, hcx⟩ : ∃ c, c = msgA x := ⟨_, rfl⟩
  have z1 : cx.all (·.oneCell') = true := by rw [hcx]; simp [msgA, Value.oneCell']
  have z2 : cx.size = 6 := by rw [hcx]; rfl
  rw [← hcx] at hw1 ⊢
  clear hst hrd hx hb1 hx1 hst1 hyb hbb hcx
  generalize y.s.gots.length = q at *
  generalize y.ga = ga at *
  generalize y.gc = gc at *
  go_enter Tryz.func58, Tryz.ntmps58
  go_upto_region 1 with (fail)
  rw [← hw1, ← hX]
  clear hw1 hX z1 z2
  go_wp2_with fail
  refine HC.out.mono ?_
  rintro e w2 ⟨rfl, hb2⟩
  have HE := Lib.hid (bt HB.out hb2)
  clear hb2 HC c4
  go_wp2_with fail
  go_ret
  exact ⟨rfl, HE.out⟩
def zGotT : Array Value := #[.int .i64 0, .int .i64 0, .int .u32 0, .int .u64 0, .int .i64 0, .slice none 0 0, .string ⟨#[]⟩, .bool false]
theorem safe_at {l : List Ev} {t : J} {a c : JS} {e : Nat} {p : Nat × Bool} (hp : a.gots[e]? = some p) : t.safe l a c (e + 1) = (t.safe l a c e).br 6 ((decide ((gotM l p).service = 2) && hasB (memJ l a p) c.proc) && !hasJ l c (gotM l p)) := by
  show (t.safe l a c e).safe1 l a c e = _
  unfold J.safe1
  rw [hp]
set_option maxRecDepth 100000 in
set_option maxHeartbeats 16000000 in
theorem safe_any {wB w : World} {g o N : Nat} {l : List Ev} {nm : Nat → List NameK} {R : List Pc} {M : JM} {t : J} (h : JB wB g o l R N M t w) (hT : Tr wB g o l nm) (hN : N ≤ 5000) (a c : JX) (ha : a ∈ M.stays) (hc : c ∈ M.stays) (hgt : ∀ p ∈ a.s.gots, p.2 = true → a.s.tr.isSome = true) :
    Calls Tryz.prog 27 #[.pointer (some ⟨M.h.T, 0, none⟩), ptrV a.b, ptrV c.b] w fun e w' => e = .returned (.tuple #[]) ∧ JB wB g o l R N M (t.safe l a.s c.s a.s.gots.length) w' := by
  obtain ⟨q, hq⟩ : ∃ q, q = a.s.gots.length := ⟨_, rfl⟩
  have hst := h.st ha
  have c4 : w.cell? ⟨a.b, 4, none⟩ = some (.slice a.ga q a.gc) := by rw [hq]; exact cell_of_row _ _ 4 _ _ _ hst
  have hq9 : q ≤ 5000 := by rw [hq]; exact Nat.le_trans (h.xok ha).gl hN
  have H0 := Lib.hid (show JB wB g o l R N M (t.safe l a.s c.s 0) w from h)
  have HH := Lib.hid (And.intro hT (And.intro hN (And.intro ha (And.intro hc (And.intro hgt hq)))))
  obtain ⟨TT, hTT⟩ : ∃ T, T = M.h.T := ⟨_, rfl⟩
  obtain ⟨ab, hab⟩ : ∃ b, b = a.b := ⟨_, rfl⟩
  obtain ⟨cb, hcb⟩ : ∃ b, b = c.b := ⟨_, rfl⟩
  have HB := Lib.hid (And.intro hTT (And.intro hab hcb))
  unfold ptrV
  rw [← hTT, ← hab, ← hcb, ← hq]
  rw [← hab] at c4
  clear h hT hN ha hc hgt hst hTT hab hcb hq
  go_enter Tryz.func27, Tryz.ntmps27
  go_wp2_with fail
  clear c4
  go_loopw [14] (fun i wr => ∃ e : Nat, e ≤ q ∧ i = .int .i64 (e : Int) ∧ Hid (JB wB g o l R N M (t.safe l a.s c.s e) wr)) (fun i _ => q - (intOf i).toNat)
  case atStart => exact ⟨0, by omega, rfl, H0⟩
  case round =>
    obtain ⟨e, he, rfl, HW⟩ := hrel
    by_cases heq : e < q
    · have hr1 : decide ((e : Int) < (q : Int)) = true := by rw [decide_eq_true_eq]; omega
      have hr2 : decide (e < q) = true := by rw [decide_eq_true_eq]; omega
      have hr3 : (e : Int) < (q : Int) := by omega
      have hJ := HW.out
      have hel : e < a.s.gots.length := by rw [← HH.out.2.2.2.2.2]; exact heq
      have hrd := hJ.gots HH.out.1 (by have := HH.out.2.1; omega) HH.out.2.2.1
      obtain ⟨hmr, g2, o2, hga, hg2, hrg⟩ := hrd.at_ e hel
      obtain ⟨p, hp⟩ : ∃ p, p = a.s.gots[e] := ⟨_, rfl⟩
      have hpe : a.s.gots[e]? = some p := by rw [hp]; exact List.getElem?_eq_getElem hel
      rw [← hp] at hmr hrg
      clear hp
      obtain ⟨cg, hcg⟩ : ∃ c, c = (gotC l p).toArray := ⟨_, rfl⟩
      have y1 : cg.size = 8 := by rw [hcg]; rfl
      have p1 : cg.all (·.oneCell') = true := by rw [hcg]; simp [gotC, msgA, Value.oneCell']
      have hc1 : cg.toList.toArray = cg := by simp
      replace hrg : wr.rangeAt g2 (o2 + e * 8) cg.toList := by rw [hcg]; exact hrg
      obtain ⟨X, hX⟩ : ∃ X, X = wr.heap.size := ⟨_, rfl⟩
      have hz := heap_alloc_new wr (.cells zGotT 58)
      have hbz := ba (br wr) (.cells zGotT 58)
      rw [← hX] at hz
      obtain ⟨w3, hw3⟩ : ∃ w3, w3 = (wr.alloc (.cells zGotT 58)).setRow X cg := ⟨_, rfl⟩
      have hb3 : Below wr.heap.size wr w3 := by rw [hw3]; exact (kept_setRow' (wr.alloc (.cells zGotT 58)) X cg).out hbz hbz.size (fun k hk' e => by omega)
      have hx3 : w3.heap[X]? = some (.cells cg 58 (0, 0)) := by rw [hw3]; exact setRow_heap _ _ _ _ _ _ hz
      have hJ3 := hJ.below hb3
      obtain ⟨x, hx⟩ : ∃ x, x = gotM l p := ⟨_, rfl⟩
      have hcell : ∀ i v, (gotC l p)[i]? = some v → w3.cell? ⟨X, i, none⟩ = some v := fun i v h => (cell_of_row _ _ i _ _ _ hx3).trans (by rw [hcg]; simpa using h)
      have x4 : w3.cell? ⟨X, 1 + 3, none⟩ = some (.int .i64 x.service) := by rw [hx]; exact hcell 4 _ rfl
      have x4' : w3.cell? ⟨X, 4, none⟩ = some (.int .i64 x.service) := x4
      have x7 : w3.cell? ⟨X, 7, none⟩ = some (.bool p.2) := hcell 7 _ rfl
      have hsa := hJ3.st HH.out.2.2.1
      have hsc := hJ3.st HH.out.2.2.2.1
      have HHAS := Lib.hid (has_any c x w3 hsc (hJ3.gots HH.out.1 (by have := HH.out.2.1; omega) HH.out.2.2.2.1) (by rw [hx]; exact hmr.below hb3))
      unfold ptrV at HHAS
      have HAT := Lib.hid (show t.safe l a.s c.s (e + 1) = (t.safe l a.s c.s e).br 6 ((decide (x.service = 2) && hasB (memJ l a.s p) c.s.proc) && !hasJ l c.s x) from by rw [hx]; exact safe_at hpe)
      rw [← HB.out.2.1] at hsa
      rw [← HB.out.2.2] at hsc HHAS
      have a3 : w3.cell? ⟨ab, 3, none⟩ = some (.int .u64 (a.s.mem : Int)) := cell_of_row _ _ 3 _ _ _ hsa
      have a5 : w3.cell? ⟨ab, 5, none⟩ = some (evP g o a.s.tr) := cell_of_row _ _ 5 _ _ _ hsa
      have s0 : w3.cell? ⟨cb, 0, none⟩ = some (.int .i64 c.s.proc) := cell_of_row _ _ 0 _ _ _ hsc
      have HBR := Lib.hid (show ∀ W, Below w3.heap.size w3 W → ∀ b, Calls Tryz.prog 22 #[.pointer (some ⟨TT, 0, none⟩), .int .i64 6, .bool b] W fun e' w' => e' = .returned (.tuple #[]) ∧ JB wB g o l R N M ((t.safe l a.s c.s e).br 6 b) w' from fun W hW b => by
        rw [HB.out.1]
        exact (hJ3.below hW).br1 6 b)
      have HMM := Lib.hid (show ∃ mm, memJ l a.s p = mm ∧ (p.2 = false → mm = a.s.mem) ∧ (p.2 = true → ∃ f xf, a.s.tr = some f ∧ w3.cell? ⟨g, o + f * 19 + 6, none⟩ = some (.int .u64 (mm : Int))) from by
        refine ⟨_, rfl, fun h => by unfold memJ; rw [h]; rfl, fun h => ?_⟩
        have hs := HH.out.2.2.2.2.1 p (List.mem_of_getElem? hpe) h
        obtain ⟨f, hf⟩ := Option.isSome_iff_exists.1 hs
        have hfl := (hJ3.xok HH.out.2.2.1).tr f hf
        refine ⟨f, l[f], hf, ?_⟩
        have hcl := (HH.out.1.below hJ3.bel).cell (List.getElem?_eq_getElem hfl) 6 (v := .int .u64 (l[f].mem : Int)) rfl ⟨w3, br w3⟩
        unfold memJ
        rw [h, hf]
        simp only [if_true, evM, List.getElem?_eq_getElem hfl]
        exact hcl)
      have HZ := Lib.hid (And.intro hz hX)
      have HG := Lib.hid (And.intro hrg (And.intro y1 (And.intro p1 (And.intro hx3 (And.intro heq (And.intro hcg hx))))))
      rw [hga]
      clear hmr hg2 hrg hcg y1 p1 hX hz hbz hb3 hx3 hcell hJ hJ3 hrd hpe hel HW heq hx hsa hsc H0
      unfold zGotT at hw3 HZ
      go_upto_region 3 with (first
        | (with_reducible refine wpList_load_mid rfl 58 (.tmp 16) rfl g2 (o2 + e * 8) rfl cg.toList _ HG.out.1 Tryz.underlying58 rfl (by rw [Array.length_toList, HG.out.2.1]; kernel_rfl) ?_)
        | (refine wpList_store_row rfl 58 (.tmp 7) (.tmp 17) rfl X cg (by rw [HZ.out.2]; rfl) (by rw [← hc1]; rfl) 58 _ HZ.out.1 (by rw [HG.out.2.1]; kernel_rfl) (by rw [HG.out.2.1]; rfl) HG.out.2.2.1 ?_)
        | fail)
      rw [← hw3, ← HZ.out.2]
      clear hw3 hc1 HZ
      simp only [Act.put]
      obtain ⟨mm, hmm, hm0, hm1⟩ := HMM.out
      rw [hmm] at HAT
      cases hp2 : p.2
      · rw [hp2] at x7
        rw [← hm0 hp2] at a3
        clear hm0 hm1 hmm hp2 HMM
        by_cases hsv : x.service = 2
        · have dsv : (x.service == 2) = true := by simpa using hsv
          rw [decide_eq_true hsv] at HAT
          clear hsv
          cases hhb : hasB mm c.s.proc
          · rw [hhb] at HAT
            have HSH := Lib.hid (show ∀ W : World, Calls Tryz.prog 50 #[.int .u64 (mm : Int), .int .i64 c.s.proc] W fun e w' => e = .returned (.bool false) ∧ W = w' from fun W => by rw [← hhb]; exact setHas_any _ _ _)
            have HC := Lib.hid (HBR.out w3 (br _) false)
            clear hhb HHAS HBR
            go_wp2_with fail
            refine HSH.out w3 |>.mono ?_
            rintro e' w4 ⟨rfl, rfl⟩
            clear HSH
            go_wp2_with fail
            refine HC.out.mono ?_
            rintro e' w5 ⟨rfl, hE⟩
            have HE := Lib.hid (show JB wB g o l R N M (t.safe l a.s c.s (e + 1)) w5 from by rw [HAT.out]; exact hE)
            clear hE HC a3 a5 s0 x4 x4' x7
            go_wp2_with fail
            exact ⟨⟨e + 1, by have := HG.out.2.2.2.2.1; omega, by go_num, HE⟩, by have := HG.out.2.2.2.2.1; simp [intOf]; omega⟩
          · rw [hhb] at HAT
            have HSH := Lib.hid (show ∀ W : World, Calls Tryz.prog 50 #[.int .u64 (mm : Int), .int .i64 c.s.proc] W fun e w' => e = .returned (.bool true) ∧ W = w' from fun W => by rw [← hhb]; exact setHas_any _ _ _)
            have hcc : ∀ j u, (msgA x).toList[j]? = some u → w3.cell? ⟨X, 1 + j, none⟩ = some u := range_of HG.out.2.2.2.1 _ (fun j u hu => by
              have hj : j < 6 := (List.getElem?_eq_some_iff.1 hu).1
              rw [HG.out.2.2.2.2.2.1, ← hu, HG.out.2.2.2.2.2.2]
              unfold gotC gotM
              rcases (by omega : j = 0 ∨ j = 1 ∨ j = 2 ∨ j = 3 ∨ j = 4 ∨ j = 5) with rfl | rfl | rfl | rfl | rfl | rfl <;> rfl)
            have m0 : w3.cell? ⟨X, 1, none⟩ = some (.int .i64 x.frm) := hcc 0 _ rfl
            have m1 : w3.cell? ⟨X, 1 + 1, none⟩ = some (.int .u32 (x.seq : Int)) := hcc 1 _ rfl
            have m2 : w3.cell? ⟨X, 1 + 2, none⟩ = some (.int .u64 (x.stamp : Int)) := hcc 2 _ rfl
            have m4 : w3.cell? ⟨X, 1 + 4, none⟩ = some (.slice x.da x.ds.length x.dc) := hcc 4 _ rfl
            have m5 : w3.cell? ⟨X, 1 + 5, none⟩ = some (.string x.pay) := hcc 5 _ rfl
            unfold msgA at HHAS
            clear hhb hcc
            generalize hasJ l c.s x = hj at *
            go_wp2_with fail
            refine HSH.out w3 |>.mono ?_
            rintro e' w4 ⟨rfl, rfl⟩
            clear HSH
            go_wp2_with fail
            refine HHAS.out.mono ?_
            rintro e' w4 ⟨rfl, hb4⟩
            have HC := Lib.hid (HBR.out w4 hb4 (!hj))
            clear hb4 HHAS HBR
            go_wp2_with fail
            refine HC.out.mono ?_
            rintro e' w5 ⟨rfl, hE⟩
            have HE := Lib.hid (show JB wB g o l R N M (t.safe l a.s c.s (e + 1)) w5 from by rw [HAT.out]; exact hE)
            clear hE HC a3 a5 s0 x4 x4' x7
            go_wp2_with fail
            exact ⟨⟨e + 1, by have := HG.out.2.2.2.2.1; omega, by go_num, HE⟩, by have := HG.out.2.2.2.2.1; simp [intOf]; omega⟩
        · have dsv : (x.service == 2) = false := by simpa using hsv
          rw [decide_eq_false hsv] at HAT
          have HC := Lib.hid (HBR.out w3 (br _) false)
          clear hsv HHAS HBR
          go_wp2_with fail
          refine HC.out.mono ?_
          rintro e' w5 ⟨rfl, hE⟩
          have HE := Lib.hid (show JB wB g o l R N M (t.safe l a.s c.s (e + 1)) w5 from by rw [HAT.out]; exact hE)
          clear hE HC a3 a5 s0 x4 x4' x7
          go_wp2_with fail
          exact ⟨⟨e + 1, by have := HG.out.2.2.2.2.1; omega, by go_num, HE⟩, by have := HG.out.2.2.2.2.1; simp [intOf]; omega⟩
      · rw [hp2] at x7
        obtain ⟨f, xf, hf, hcf⟩ := hm1 hp2
        rw [hf] at a5
        have a5' : w3.cell? ⟨ab, 5, none⟩ = some (.pointer (some ⟨g, o + f * 19, none⟩)) := a5
        clear hm0 hm1 hmm hp2 HMM hf a5
        have a5 := a5'
        by_cases hsv : x.service = 2
        · have dsv : (x.service == 2) = true := by simpa using hsv
          rw [decide_eq_true hsv] at HAT
          clear hsv
          cases hhb : hasB mm c.s.proc
          · rw [hhb] at HAT
            have HSH := Lib.hid (show ∀ W : World, Calls Tryz.prog 50 #[.int .u64 (mm : Int), .int .i64 c.s.proc] W fun e w' => e = .returned (.bool false) ∧ W = w' from fun W => by rw [← hhb]; exact setHas_any _ _ _)
            have HC := Lib.hid (HBR.out w3 (br _) false)
            clear hhb HHAS HBR
            go_wp2_with fail
            refine HSH.out w3 |>.mono ?_
            rintro e' w4 ⟨rfl, rfl⟩
            clear HSH
            go_wp2_with fail
            refine HC.out.mono ?_
            rintro e' w5 ⟨rfl, hE⟩
            have HE := Lib.hid (show JB wB g o l R N M (t.safe l a.s c.s (e + 1)) w5 from by rw [HAT.out]; exact hE)
            clear hE HC a3 a5 s0 x4 x4' x7
            go_wp2_with fail
            exact ⟨⟨e + 1, by have := HG.out.2.2.2.2.1; omega, by go_num, HE⟩, by have := HG.out.2.2.2.2.1; simp [intOf]; omega⟩
          · rw [hhb] at HAT
            have HSH := Lib.hid (show ∀ W : World, Calls Tryz.prog 50 #[.int .u64 (mm : Int), .int .i64 c.s.proc] W fun e w' => e = .returned (.bool true) ∧ W = w' from fun W => by rw [← hhb]; exact setHas_any _ _ _)
            have hcc : ∀ j u, (msgA x).toList[j]? = some u → w3.cell? ⟨X, 1 + j, none⟩ = some u := range_of HG.out.2.2.2.1 _ (fun j u hu => by
              have hj : j < 6 := (List.getElem?_eq_some_iff.1 hu).1
              rw [HG.out.2.2.2.2.2.1, ← hu, HG.out.2.2.2.2.2.2]
              unfold gotC gotM
              rcases (by omega : j = 0 ∨ j = 1 ∨ j = 2 ∨ j = 3 ∨ j = 4 ∨ j = 5) with rfl | rfl | rfl | rfl | rfl | rfl <;> rfl)
            have m0 : w3.cell? ⟨X, 1, none⟩ = some (.int .i64 x.frm) := hcc 0 _ rfl
            have m1 : w3.cell? ⟨X, 1 + 1, none⟩ = some (.int .u32 (x.seq : Int)) := hcc 1 _ rfl
            have m2 : w3.cell? ⟨X, 1 + 2, none⟩ = some (.int .u64 (x.stamp : Int)) := hcc 2 _ rfl
            have m4 : w3.cell? ⟨X, 1 + 4, none⟩ = some (.slice x.da x.ds.length x.dc) := hcc 4 _ rfl
            have m5 : w3.cell? ⟨X, 1 + 5, none⟩ = some (.string x.pay) := hcc 5 _ rfl
            unfold msgA at HHAS
            clear hhb hcc
            generalize hasJ l c.s x = hj at *
            go_wp2_with fail
            refine HSH.out w3 |>.mono ?_
            rintro e' w4 ⟨rfl, rfl⟩
            clear HSH
            go_wp2_with fail
            refine HHAS.out.mono ?_
            rintro e' w4 ⟨rfl, hb4⟩
            have HC := Lib.hid (HBR.out w4 hb4 (!hj))
            clear hb4 HHAS HBR
            go_wp2_with fail
            refine HC.out.mono ?_
            rintro e' w5 ⟨rfl, hE⟩
            have HE := Lib.hid (show JB wB g o l R N M (t.safe l a.s c.s (e + 1)) w5 from by rw [HAT.out]; exact hE)
            clear hE HC a3 a5 s0 x4 x4' x7
            go_wp2_with fail
            exact ⟨⟨e + 1, by have := HG.out.2.2.2.2.1; omega, by go_num, HE⟩, by have := HG.out.2.2.2.2.1; simp [intOf]; omega⟩
        · have dsv : (x.service == 2) = false := by simpa using hsv
          rw [decide_eq_false hsv] at HAT
          have HC := Lib.hid (HBR.out w3 (br _) false)
          clear hsv HHAS HBR
          go_wp2_with fail
          refine HC.out.mono ?_
          rintro e' w5 ⟨rfl, hE⟩
          have HE := Lib.hid (show JB wB g o l R N M (t.safe l a.s c.s (e + 1)) w5 from by rw [HAT.out]; exact hE)
          clear hE HC a3 a5 s0 x4 x4' x7
          go_wp2_with fail
          exact ⟨⟨e + 1, by have := HG.out.2.2.2.2.1; omega, by go_num, HE⟩, by have := HG.out.2.2.2.2.1; simp [intOf]; omega⟩
    · have hr1 : decide ((e : Int) < (q : Int)) = false := by simpa using heq
      have hr2 : decide (e < q) = false := by simpa using heq
      have HE := Lib.hid (show JB wB g o l R N M (t.safe l a.s c.s q) wr from by rw [show q = e by omega]; exact HW.out)
      clear HW H0
      go_wp2_with fail
      go_end0
      exact ⟨rfl, HE.out⟩
end Go.Proofs.YtogagkgkmoppmaaGreatDoor
