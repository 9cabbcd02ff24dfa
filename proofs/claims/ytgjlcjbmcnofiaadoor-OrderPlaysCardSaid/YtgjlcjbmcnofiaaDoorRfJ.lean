/-
  The reference's order: Next, as far as the head.
  Conditions: those that each theorem names.
-/
import Derived.Test.YtgjlcjbmcnofiaaDoorRfI
namespace Go.Proofs.YtgjlcjbmcnofiaaDoor
set_option linter.unusedVariables false
set_option linter.unusedSimpArgs false
open Go.RowKit
def headStepR (S : RO) (b : Option (Nat × Msg)) (p : Nat) : Option (Nat × Msg) := match getA S.A S.lo (p : Int) (S.dn p + 1) with
  | none => b
  | some m => if hasS S.mb (p : Int) = true then (match b with
    | none => some (p, m)
    | some c => if ltB m.stamp m.frm c.2.stamp c.2.frm = true then some (p, m) else b) else b
def stepG (ib : Bool) (p : Nat) (gv : Option Msg) (b : Option (Nat × Msg)) : Option (Nat × Msg) := match gv with
  | none => b
  | some m => if ib = true then (match b with
    | none => some (p, m)
    | some c => if ltB m.stamp m.frm c.2.stamp c.2.frm = true then some (p, m) else b) else b
theorem headStepR_eq (S : RO) (b : Option (Nat × Msg)) (p : Nat) : headStepR S b p = stepG (hasS S.mb (p : Int)) p (getA S.A S.lo (p : Int) (S.dn p + 1)) b := rfl
def lessG (gm : Msg) (b : Option (Nat × Msg)) : Bool := match b with
  | none => true
  | some c => ltB gm.stamp gm.frm c.2.stamp c.2.frm
theorem stepG_eq (ib : Bool) (p : Nat) (gv : Option Msg) (b : Option (Nat × Msg)) : stepG ib p gv b = if (gv.isSome && (ib && lessG (gv.getD zeroM) b)) = true then some (p, gv.getD zeroM) else b := by
  unfold stepG lessG
  cases gv with
  | none => simp
  | some m =>
    cases ib
    · simp
    · cases b with
      | none => simp
      | some c => simp
def headR (S : RO) (k : Nat) : Option (Nat × Msg) := (List.range k).foldl (headStepR S) none
theorem headR_succ (S : RO) (k : Nat) : headR S (k + 1) = headStepR S (headR S k) k := by
  unfold headR
  rw [List.range_succ, List.foldl_append]
  rfl
def bestI (b : Option (Nat × Msg)) : Int := match b with
  | none => -1
  | some c => (c.1 : Int)
def bestM (b : Option (Nat × Msg)) : Msg := match b with
  | none => zeroM
  | some c => c.2
theorem getR_eq (o : Option Msg) : getR o = .tuple #[.agg (msgA (o.getD zeroM)), .bool o.isSome] := by cases o <;> rfl
theorem headR_lt (S : RO) : ∀ (k : Nat) (c : Nat × Msg), headR S k = some c → c.1 < k
  | 0, c, h => by cases h
  | k + 1, c, h => by
    rw [headR_succ, headStepR_eq, stepG_eq] at h
    split at h
    · injection h with h
      rw [← h]
      exact Nat.lt_succ_self _
    · exact Nat.lt_succ_of_lt (headR_lt S k c h)
def nextR (S : RO) (al sf : Nat) : Option (Nat × Msg) := match headR S 64 with
  | none => none
  | some c => if al < c.2.stamp ∨ (c.2.service = 2 ∧ sf < c.2.stamp) then none else some c
theorem nextR_head {S : RO} {al sf : Nat} {c : Nat × Msg} (h : nextR S al sf = some c) : headR S 64 = some c := by
  unfold nextR at h
  cases hh : headR S 64 with
  | none => rw [hh] at h; cases h
  | some d =>
    rw [hh] at h
    simp only at h
    split at h
    · cases h
    · exact h
def nextRO (S : RO) (al sf : Nat) : RO := match nextR S al sf with
  | none => S
  | some c => { S with dn := upd S.dn c.1 (S.dn c.1 + 1), ls := c.2.stamp, lf := c.2.frm }
theorem results_cell2_tmp {P : Program} {fn : Func} {p q t : Tmp} {ty tz : TypeId} (h : fn.results = #[.cell p ty, .cell q tz, .tmp t]) (tmps : Array Value) (w : World) (g k : Nat) (tt tu : TypeId) (cs ds : Array Value) (fr fs : Nat × Nat) (d e : TypeDesc) (x : Value)
    (hp : tmps.getD p undef = .pointer (some ⟨g, 0, none⟩)) (hq : tmps.getD q undef = .pointer (some ⟨k, 0, none⟩)) (ht : tmps.getD t undef = x) (hg : w.heap[g]? = some (.cells cs tt fr)) (hk : w.heap[k]? = some (.cells ds tu fs))
    (hu : P.underlying ty = some d) (hv : P.underlying tz = some e) (hd : (match d with | .struct _ | .array _ _ => true | _ => false) = true) (he : (match e with | .struct _ | .array _ _ => true | _ => false) = true) (hi : (P.info? ty).map (·.size) = some cs.size) (hj : (P.info? tz).map (·.size) = some ds.size) :
    (results fn tmps).run P w = .ok (.tuple #[.agg cs, .agg ds, x]) w := by
  have hp' : tmps[p]?.getD undef = .pointer (some ⟨g, 0, none⟩) := by simpa using hp
  have hq' : tmps[q]?.getD undef = .pointer (some ⟨k, 0, none⟩) := by simpa using hq
  have ht' : tmps[t]?.getD undef = x := by simpa using ht
  simp [results, h, hp', hq', ht', asAddr, run_loadVar_row w g tt ty cs fr d hg hu hd hi, run_loadVar_row w k tu tz ds fs e hk hv he hj]
theorem bldM : Tryd.prog.built 42 [] = some (msgA zeroM) := by kernel_rfl
/-- what Next boxes: the order, the two results, the head -/
structure NxtSt (w : World) (X Z : Array Value) (b : Option (Nat × Msg)) (wr : World) : Prop where
  blk : wr.heap[w.heap.size]? = some (.cells X 73 (0, 0))
  r1 : wr.heap[w.heap.size + 1]? = some (.cells Z 73 (0, 0))
  r2 : wr.heap[w.heap.size + 1 + 1]? = some (.cells (msgA zeroM) 42 (0, 0))
  hd : wr.heap[w.heap.size + 1 + 1 + 1]? = some (.cells (msgA (bestM b)) 42 (0, 0))
  bel : Below w.heap.size w wr
theorem NxtSt.below {w wr w' : World} {X Z : Array Value} {b : Option (Nat × Msg)} (h : NxtSt w X Z b wr) (hb : Below wr.heap.size wr w') : NxtSt w X Z b w' :=
  ⟨(hb.block _ (Array.getElem?_eq_some_iff.1 h.blk).1).trans h.blk, (hb.block _ (Array.getElem?_eq_some_iff.1 h.r1).1).trans h.r1, (hb.block _ (Array.getElem?_eq_some_iff.1 h.r2).1).trans h.r2, (hb.block _ (Array.getElem?_eq_some_iff.1 h.hd).1).trans h.hd, bt h.bel hb⟩
theorem NxtSt.setHd {w wr : World} {X Z : Array Value} {b : Option (Nat × Msg)} (h : NxtSt w X Z b wr) (b' : Option (Nat × Msg)) (C : Array Value) (hC : C = msgA (bestM b')) : NxtSt w X Z b' (wr.setRow (w.heap.size + 1 + 1 + 1) C) := by
  have hk := setRow_keptR wr (w.heap.size + 1 + 1 + 1) C
  exact ⟨hk.keep h.blk (by omega), hk.keep h.r1 (by omega), hk.keep h.r2 (by omega), by rw [← hC]; exact setRow_heap _ _ _ _ _ _ h.hd, hk.out h.bel h.bel.size (fun b hb e => by omega)⟩
def NextRE (w : World) (va vz : Value) (S : RO) (al sf : Nat) (e : Ending) (w' : World) : Prop := e = .returned (.tuple #[.agg (rfC (nextRO S al sf) va vz), .agg (msgA (bestM (nextR S al sf))), .bool (nextR S al sf).isSome]) ∧ Below w.heap.size w w'
set_option maxRecDepth 100000 in
set_option maxHeartbeats 16000000 in
theorem rNext_any (S : RO) (va vz : Value) (f g : Nat → Nat) (w : World) (ha : RowsIn w va S.A) (ht : ToldIn w vz S.T) (hlt : S.T.length ≤ 1000) (hfh : ∀ p : Nat, p < 64 → S.oth p = true → TopTo S.T (goodR S.T (p : Int)) S.T.length (f p)) (hgh : ∀ p : Nat, p < 64 → S.oth p = true → TopTo S.T (rchR S.T (p : Int)) S.T.length (g p)) (hl : S.A.length ≤ 1000) (hf : ∀ m ∈ S.A, procB m.frm = true) (hmb : S.mb < 18446744073709551616) (hdn : ∀ p, p < 64 → S.dn p + 1 < 4294967296) :
    Calls Tryd.prog 58 #[.agg (rfC S va vz)] w (NextRE w va vz S (lowR f S.oth 64 S.c) (lowR g S.oth 64 (lowR f S.oth 64 S.c))) := by
  have hz := zeroR_run
  obtain ⟨Z, hZ⟩ : ∃ Z, Z = zeroR := ⟨_, rfl⟩
  have hZs : Z.size = 199 := by rw [hZ]; unfold zeroR; rw [rfC_size]
  rw [← hZ] at hz
  have h1 : va.oneCell' = true := by obtain ⟨ad, cap, rfl, _⟩ := ha; rfl
  obtain ⟨X, hX⟩ : ∃ X, X = rfC S va vz := ⟨_, rfl⟩
  obtain ⟨zc, hzc⟩ : ∃ z, z = msgA zeroM := ⟨_, rfl⟩
  have hxs : (Tryd.prog.info? 73).map (·.size) = some X.toList.length := by rw [hX, Array.length_toList]; exact rfSize
  have HMEM := Lib.hid (show ∀ (W : World) (p : Nat), Calls Tryd.prog 81 #[.agg X, .int .i64 (p : Int)] W (fun e w' => e = .returned (.bool (hasS S.mb (p : Int))) ∧ Below W.heap.size W w') from fun W p => by rw [hX]; exact member_any S va vz (p : Int) W hmb)
  obtain ⟨L, hL⟩ : ∃ L, L = (refX va S.lo).toList := ⟨_, rfl⟩
  have hLa : refX va S.lo = L.toArray := by rw [hL]
  have hLs : (Tryd.prog.info? 67).map (·.size) = some L.length := by rw [hL, Array.length_toList]; exact sizeX
  have HGET := Lib.hid (show ∀ (W : World) (p : Nat) (sq : Nat), Below w.heap.size w W → Calls Tryd.prog 83 #[.agg L.toArray, .int .i64 (p : Int), .int .u32 (sq : Int)] W (fun e w' => e = .returned (getR (getA S.A S.lo (p : Int) sq)) ∧ Below W.heap.size W w') from fun W p sq hW => by rw [← hLa]; exact rGet_any va S.lo S.A (p : Int) sq W (ha.below hW) hl hf)
  have HLS := Lib.hid (show ∀ (W : World), W.heap[w.heap.size]? = some (.cells X 73 (0, 0)) → W.rangeAt w.heap.size 2 L ∧ (∀ p : Nat, p < 64 → W.cell? ⟨w.heap.size, 133 + p, none⟩ = some (.int .u32 (S.dn p : Int))) from fun W hW => by
    rw [hX] at hW
    exact ⟨by rw [hL]; exact ro_H hW, fun p hp => by rw [cell_of_row _ _ (133 + p) _ _ _ hW, rf_dn _ _ _ hp]⟩)
  have HXS := Lib.hid (And.intro hxs hLs)
  have HDN := Lib.hid hdn
  obtain ⟨LZ, hLZ⟩ : ∃ L, L = (hrC S.c S.oth vz).toList := ⟨_, rfl⟩
  have hLZa : hrC S.c S.oth vz = LZ.toArray := by rw [hLZ]
  have hLZs : (Tryd.prog.info? 71).map (·.size) = some LZ.length := by rw [hLZ, Array.length_toList]; exact hrSize
  obtain ⟨al, hal⟩ : ∃ a, a = lowR f S.oth 64 S.c := ⟨_, rfl⟩
  obtain ⟨sf, hsf⟩ : ∃ a, a = lowR g S.oth 64 al := ⟨_, rfl⟩
  have HALL := Lib.hid (show ∀ (W : World), Below w.heap.size w W → Calls Tryd.prog 84 #[.agg LZ.toArray] W (fun e w' => e = .returned (.int .u64 (al : Int)) ∧ Below W.heap.size W w') from fun W hW => by rw [← hLZa, hal]; exact rAll_any vz S.c S.oth S.T f W (ht.below hW) hlt hfh)
  have HSAFE := Lib.hid (show ∀ (W : World), Below w.heap.size w W → Calls Tryd.prog 85 #[.agg LZ.toArray] W (fun e w' => e = .returned (.int .u64 (sf : Int)) ∧ Below W.heap.size W w') from fun W hW => by rw [← hLZa, hsf, hal]; exact rSafe_any vz S.c S.oth S.T f g W (ht.below hW) hlt hfh hgh)
  have HZR := Lib.hid (And.intro hLZs (show ∀ (W : World), W.heap[w.heap.size]? = some (.cells X 73 (0, 0)) → W.rangeAt w.heap.size 67 LZ from fun W hW => by rw [hX] at hW; rw [hLZ]; exact ro_Z hW))
  have h2 : vz.oneCell' = true := by obtain ⟨ad, cap, rfl, _⟩ := ht; rfl
  have HXX := Lib.hid (And.intro hX (And.intro hZs (And.intro h1 h2)))
  rw [show lowR f S.oth 64 S.c = al from hal.symm, show lowR g S.oth 64 al = sf from hsf.symm]
  clear hLZ hLZa hLZs hal hsf ht hlt hfh hgh h2
  rw [← hX]
  obtain ⟨w1, hw1⟩ : ∃ W, W = w.alloc (.cells X 73) := ⟨_, rfl⟩
  obtain ⟨w2, hw2⟩ : ∃ W, W = w1.alloc (.cells Z 73) := ⟨_, rfl⟩
  obtain ⟨w3, hw3⟩ : ∃ W, W = w2.alloc (.cells zc 42) := ⟨_, rfl⟩
  obtain ⟨w4, hw4⟩ : ∃ W, W = w3.alloc (.cells zc 42) := ⟨_, rfl⟩
  have s1 : w1.heap.size = w.heap.size + 1 := by rw [hw1]; simp
  have s2 : w2.heap.size = w.heap.size + 1 + 1 := by rw [hw2]; simp [s1]
  have s3 : w3.heap.size = w.heap.size + 1 + 1 + 1 := by rw [hw3]; simp [s2]
  have HS0 := Lib.hid (show NxtSt w X Z none w4 from by
    have x1 := heap_alloc_new w (.cells X 73)
    have x2 := heap_alloc_new w1 (.cells Z 73)
    have x3 := heap_alloc_new w2 (.cells zc 42)
    have x4 := heap_alloc_new w3 (.cells zc 42)
    have b1 := ba (br w) (.cells X 73)
    have b2 := ba (br w1) (.cells Z 73)
    have b3 := ba (br w2) (.cells zc 42)
    have b4 := ba (br w3) (.cells zc 42)
    rw [← hw1] at x1 b1
    rw [← hw2] at x2 b2
    rw [← hw3] at x3 b3
    rw [← hw4] at x4 b4
    rw [s1] at x2
    rw [s2] at x3
    rw [s3] at x4
    have b34 := bt b3 b4
    have b24 := bt b2 b34
    exact ⟨(b24.block _ (Array.getElem?_eq_some_iff.1 x1).1).trans x1, (b34.block _ (Array.getElem?_eq_some_iff.1 x2).1).trans x2, by rw [← hzc]; exact (b4.block _ (Array.getElem?_eq_some_iff.1 x3).1).trans x3, by rw [x4, hzc]; rfl, bt b1 b24⟩)
  have HW := Lib.hid (And.intro hw1 (And.intro hw2 (And.intro hw3 (And.intro hw4 (And.intro s1 (And.intro s2 s3))))))
  have hzm : ∀ W : World, (zeroValue 42).run Tryd.prog W = .ok (.agg zc) W := fun W => by rw [hzc]; kernel_rfl
  have HZC := Lib.hid hzc
  clear hzc hZ hZs hX hxs hL hLa hLs hw1 hw2 hw3 hw4 s1 s2 s3 ha hl hf hmb hdn h1
  go_enter Tryd.func58, Tryd.ntmps58
  go_upto_region 1 with (fail)
  rw [← HW.out.1, ← HW.out.2.1, ← HW.out.2.2.1]
  go_upto_region 3 with (fail)
  rw [← HW.out.2.2.2.1, HW.out.2.2.2.2.2.2]
  clear HW hz
  go_wp2_with fail
  go_loopw [5, 7] (fun b i wr => ∃ k : Nat, k ≤ 64 ∧ i = .int .i64 (k : Int) ∧ b = .int .i64 (bestI (headR S k)) ∧ Hid (NxtSt w X Z (headR S k) wr)) (fun _ i _ => 64 - (intOf i).toNat)
  case atStart => exact ⟨0, by omega, rfl, rfl, HS0⟩
  case round =>
    obtain ⟨k, hk, rfl, rfl, HN⟩ := hrel
    clear HS0
    by_cases hlt : k < 64
    · have hbool : decide ((k : Int) < 64) = true := by simp; omega
      have hi0 : (k : Int) < 64 := by omega
      have HLT := Lib.hid hlt
      obtain ⟨gv, hgv⟩ : ∃ g, g = getA S.A S.lo (k : Int) (S.dn k + 1) := ⟨_, rfl⟩
      have HGV := Lib.hid hgv
      obtain ⟨dk, hdk⟩ : ∃ z, z = S.dn k := ⟨_, rfl⟩
      have hA : IntKind.u32.wrap ((dk : Int) + 1) = ((dk + 1 : Nat) : Int) := by have := HDN.out k hlt; rw [← hdk] at this; simp [IntKind.wrap, IntKind.signed, IntKind.bits]; omega
      have hG := HGET.out
      have HG := Lib.hid (show ∀ W, Below wr.drew.heap.size wr.drew W → Calls Tryd.prog 83 #[.agg L.toArray, .int .i64 (k : Int), .int .u32 ((dk + 1 : Nat) : Int)] W (fun e w' => e = .returned (getR gv) ∧ Below W.heap.size W w') from fun W hW => by
        rw [hgv, ← hdk]
        exact hG W k (dk + 1) (bt HN.out.bel.drew hW))
      have HS := Lib.hid (show ∀ W, Below wr.drew.heap.size wr.drew W → W.rangeAt w.heap.size 2 L ∧ W.cell? ⟨w.heap.size, 133 + k, none⟩ = some (.int .u32 (dk : Int)) from fun W hW => by
        have h := HLS.out W (HN.out.below (bt (br wr).drew hW)).blk
        exact ⟨h.1, by rw [hdk]; exact h.2 k HLT.out⟩)
      clear hgv hdk hG hlt hk
      generalize ((dk + 1 : Nat) : Int) = dk1 at *
      obtain ⟨gm, hgm⟩ : ∃ m, m = gv.getD zeroM := ⟨_, rfl⟩
      obtain ⟨go, hgo⟩ : ∃ b, b = gv.isSome := ⟨_, rfl⟩
      have HGM := Lib.hid (And.intro hgm hgo)
      have hgr : getR gv = .tuple #[.agg (msgA gm), .bool go] := by rw [getR_eq, ← hgm, ← hgo]
      rw [hgr] at HG
      clear hgm hgo hgr
      go_upto_region 6 with (fail)
      go_cut [8, 9] (fun s8 s9 wx => s9 = .bool go ∧ ∃ NV, s8 = .pointer (some ⟨NV, 0, none⟩) ∧ NxtSt w X Z (headR S k) wx ∧ wx.heap[NV]? = some (.cells (msgA gm) 42 (0, 0)) ∧ w.heap.size + 1 + 1 + 1 < NV)
      case first =>
        have hS0 := HS.out wr.drew (br _)
        have HND := Lib.hid (show NxtSt w X Z (headR S k) wr.drew ∧ w.heap.size + 1 + 1 + 1 < wr.drew.heap.size from ⟨HN.out.below (br wr).drew, (Array.getElem?_eq_some_iff.1 HN.out.hd).1⟩)
        refine wp_region_mask (fun w' => w'.rangeAt w.heap.size 2 L ∧ w'.cell? ⟨w.heap.size, 133 + k, none⟩ = some (.int .u32 (dk : Int))) 14 7 [true, true, true, true, true, true, true, true, false, false, false, false, false, false, false] #[true, true, true, true, true, true, true, true, false, false, false, false, false, false, false] (by kernel_rfl) (by kernel_rfl) (by kernel_rfl) hS0 ?_
        generalize wr.drew = W5 at *
        have HEND := Lib.hid (show ∀ (W7 : World) (NV : Nat) (C : Array Value), Below W5.heap.size W5 W7 → W5.heap.size ≤ NV → W7.heap[NV]? = some (.cells zc 42 (0, 0)) → C = msgA gm → (NxtSt w X Z (headR S k) (W7.setRow NV C) ∧ (W7.setRow NV C).heap[NV]? = some (.cells (msgA gm) 42 (0, 0)) ∧ w.heap.size + 1 + 1 + 1 < NV) ∧ ((W7.setRow NV C).rangeAt w.heap.size 2 L ∧ (W7.setRow NV C).cell? ⟨w.heap.size, 133 + k, none⟩ = some (.int .u32 (dk : Int))) from fun W7 NV C hb hn hx hC => by
          have hbb : Below W5.heap.size W5 (W7.setRow NV C) := (setRow_keptR W7 NV C).out hb hb.size (fun b hb e => by omega)
          refine ⟨⟨HND.out.1.below hbb, ?_, by have := HND.out.2; omega⟩, HS.out _ hbb⟩
          rw [← hC]
          exact setRow_heap _ _ _ _ _ _ hx)
        clear hS0 HN
        refine wpMask_take _ (Or.inl ⟨by rfl, fun w' hS => by (try dsimp only at hS); clear hS; go_simp; try with_reducible rfl⟩) ?_
        simp only [Act.put, List.getElem_toArray, List.getElem_cons_succ, List.getElem_cons_zero, List.setIfInBounds_toArray, List.set_cons_zero, List.set_cons_succ]
        refine wpMask_take _ (yieldsIf_load_mid (by rfl) 67 (.tmp 15) rfl w.heap.size 2 rfl L _ (fun w' hS => hS.1) Tryd.underlying67 rfl HXS.out.2) ?_
        simp only [Act.put, List.getElem_toArray, List.getElem_cons_succ, List.getElem_cons_zero, List.setIfInBounds_toArray, List.set_cons_zero, List.set_cons_succ]
        iterate 4
          refine wpMask_take _ (Or.inl ⟨by rfl, fun w' hS => by (try dsimp only at hS); clear hS; go_simp; try with_reducible rfl⟩) ?_
          simp only [Act.put, List.getElem_toArray, List.getElem_cons_succ, List.getElem_cons_zero, List.setIfInBounds_toArray, List.set_cons_zero, List.set_cons_succ]
        refine wpMask_take _ (Or.inl ⟨by rfl, fun w' hS => by (try dsimp only at hS); have hS2 := hS.2; clear hS; go_simp; try with_reducible rfl⟩) ?_
        simp only [Act.put, List.getElem_toArray, List.getElem_cons_succ, List.getElem_cons_zero, List.setIfInBounds_toArray, List.set_cons_zero, List.set_cons_succ]
        refine wpMask_take _ (Or.inl ⟨by rfl, fun w' hS => by (try dsimp only at hS); clear hS; go_simp; try with_reducible rfl⟩) ?_
        simp only [Act.put, List.getElem_toArray, List.getElem_cons_succ, List.getElem_cons_zero, List.setIfInBounds_toArray, List.set_cons_zero, List.set_cons_succ]
        iterate 7 refine wpMask_skip ?_
        refine wpMask_nil ?_
        refine wpAnyS_ready (rs := [8, 12]) (by kernel_rfl) (by simp) ?_
        refine AllReadyS.cons rfl (fun K hK => ?_) (AllReadyS.cons rfl (fun K hK => ?_) AllReadyS.nil)
        · -- the call first
          go_simp
          refine (HG.out W5 (br W5)).mono ?_
          rintro e w6 ⟨rfl, hb6⟩
          have HB6 := Lib.hid hb6
          refine hK.out _ _ (fun _ => HS.out _ hb6) ?_
          clear hK K
          simp only [Act.put, List.getElem_toArray, List.getElem_cons_succ, List.getElem_cons_zero, List.setIfInBounds_toArray, List.set_cons_zero, List.set_cons_succ]
          refine wpAnyS_take (i := 9) _ rfl (by kernel_rfl) (Or.inl ⟨by rfl, fun w' hS => by (try dsimp only at hS); clear hS; go_simp; try with_reducible rfl⟩) (HS.out _ HB6.out) ?_
          simp only [Act.put, List.getElem_toArray, List.getElem_cons_succ, List.getElem_cons_zero, List.setIfInBounds_toArray, List.set_cons_zero, List.set_cons_succ]
          refine wpAnyS_take (i := 10) _ rfl (by kernel_rfl) (Or.inl ⟨by rfl, fun w' hS => by (try dsimp only at hS); clear hS; go_simp; try with_reducible rfl⟩) (HS.out _ HB6.out) ?_
          simp only [Act.put, List.getElem_toArray, List.getElem_cons_succ, List.getElem_cons_zero, List.setIfInBounds_toArray, List.set_cons_zero, List.set_cons_succ]
          refine wpAnyS_take (i := 11) _ rfl (by kernel_rfl) (Or.inl ⟨by rfl, fun w' hS => by (try dsimp only at hS); clear hS; go_simp; try with_reducible rfl⟩) (HS.out _ HB6.out) ?_
          simp only [Act.put, List.getElem_toArray, List.getElem_cons_succ, List.getElem_cons_zero, List.setIfInBounds_toArray, List.set_cons_zero, List.set_cons_succ]
          refine wpAnyS_ready (rs := [12]) (by kernel_rfl) (by simp) ?_
          refine AllReadyS.cons rfl (fun K hK => ?_) AllReadyS.nil
          go_simp
          have hbv := ba HB6.out (.cells zc 42)
          have hxv := heap_alloc_new w6 (.cells zc 42)
          refine hK.out _ _ (fun _ => HS.out _ hbv) ?_
          clear hK K
          simp only [Act.put, List.getElem_toArray, List.getElem_cons_succ, List.getElem_cons_zero, List.setIfInBounds_toArray, List.set_cons_zero, List.set_cons_succ]
          have hnv : W5.heap.size ≤ w6.heap.size := HB6.out.size
          generalize w6.alloc (.cells zc 42) = W7 at *
          generalize w6.heap.size = NV at *
          obtain ⟨C, hC⟩ : ∃ C, C = msgA gm := ⟨_, rfl⟩
          rw [← hC]
          have hCs : (Tryd.prog.info? 42).map (·.size) = some C.size ∧ zc.size = C.size ∧ C.all (·.oneCell') = true := by rw [hC, HZC.out]; exact ⟨by kernel_rfl, rfl, all_oneCell_toArray (msgA_one gm)⟩
          have hE := HEND.out W7 NV C hbv hnv hxv hC
          have HE := Lib.hid hE
          clear hE hC
          refine wpAnyS_ready (rs := [13]) (by kernel_rfl) (by simp) ?_
          refine AllReadyS.cons rfl (fun K hK => ?_) AllReadyS.nil
          rw [if_pos (by rfl)]
          refine wp_store_row 42 (.tmp 8) (.tmp 24) rfl NV C rfl rfl 42 _ hxv hCs.1 hCs.2.1 hCs.2.2 ?_
          refine hK.out _ _ (fun _ => HE.out.2) ?_
          clear hK K
          simp only [Act.put, List.getElem_toArray, List.getElem_cons_succ, List.getElem_cons_zero, List.setIfInBounds_toArray, List.set_cons_zero, List.set_cons_succ]
          refine wpAnyS_ready (rs := [14]) (by kernel_rfl) (by simp) ?_
          refine AllReadyS.cons rfl (fun K hK => ?_) AllReadyS.nil
          go_simp
          refine hK.out _ _ (fun h => absurd h (by omega)) ?_
          clear hK K
          simp only [Act.put, List.getElem_toArray, List.getElem_cons_succ, List.getElem_cons_zero, List.setIfInBounds_toArray, List.set_cons_zero, List.set_cons_succ]
          refine wpAnyS_done (by kernel_rfl) ?_ _
          clear hbv hnv hxv hCs
          go_wp2_with fail
          go_meet
          exact ⟨rfl, _, rfl, HE.out.1⟩
        · -- the variable first
          go_simp
          have hbz := ba (br W5) (.cells zc 42)
          have hxz := heap_alloc_new W5 (.cells zc 42)
          refine hK.out _ _ (fun _ => HS.out _ hbz) ?_
          clear hK K
          simp only [Act.put, List.getElem_toArray, List.getElem_cons_succ, List.getElem_cons_zero, List.setIfInBounds_toArray, List.set_cons_zero, List.set_cons_succ]
          have hnv : W5.heap.size ≤ W5.heap.size := Nat.le_refl _
          generalize W5.alloc (.cells zc 42) = WZ at *
          refine wpAnyS_ready (rs := [8]) (by kernel_rfl) (by simp) ?_
          refine AllReadyS.cons rfl (fun K hK => ?_) AllReadyS.nil
          go_simp
          refine (HG.out WZ hbz).mono ?_
          rintro e W7 ⟨rfl, hb6⟩
          have hbv := bt hbz hb6
          have hxv := (hb6.block _ (Array.getElem?_eq_some_iff.1 hxz).1).trans hxz
          refine hK.out _ _ (fun _ => HS.out _ hbv) ?_
          clear hK K
          simp only [Act.put, List.getElem_toArray, List.getElem_cons_succ, List.getElem_cons_zero, List.setIfInBounds_toArray, List.set_cons_zero, List.set_cons_succ]
          refine wpAnyS_take (i := 9) _ rfl (by kernel_rfl) (Or.inl ⟨by rfl, fun w' hS => by (try dsimp only at hS); clear hS; go_simp; try with_reducible rfl⟩) (HS.out _ hbv) ?_
          simp only [Act.put, List.getElem_toArray, List.getElem_cons_succ, List.getElem_cons_zero, List.setIfInBounds_toArray, List.set_cons_zero, List.set_cons_succ]
          refine wpAnyS_take (i := 10) _ rfl (by kernel_rfl) (Or.inl ⟨by rfl, fun w' hS => by (try dsimp only at hS); clear hS; go_simp; try with_reducible rfl⟩) (HS.out _ hbv) ?_
          simp only [Act.put, List.getElem_toArray, List.getElem_cons_succ, List.getElem_cons_zero, List.setIfInBounds_toArray, List.set_cons_zero, List.set_cons_succ]
          refine wpAnyS_take (i := 11) _ rfl (by kernel_rfl) (Or.inl ⟨by rfl, fun w' hS => by (try dsimp only at hS); clear hS; go_simp; try with_reducible rfl⟩) (HS.out _ hbv) ?_
          simp only [Act.put, List.getElem_toArray, List.getElem_cons_succ, List.getElem_cons_zero, List.setIfInBounds_toArray, List.set_cons_zero, List.set_cons_succ]
          clear hbz hxz hb6
          obtain ⟨NV, hNV⟩ : ∃ z, z = W5.heap.size := ⟨_, rfl⟩
          rw [← hNV] at hxv ⊢
          rw [show W5.heap.size ≤ W5.heap.size ↔ W5.heap.size ≤ NV from by rw [hNV]] at hnv
          clear hNV
          obtain ⟨C, hC⟩ : ∃ C, C = msgA gm := ⟨_, rfl⟩
          rw [← hC]
          have hCs : (Tryd.prog.info? 42).map (·.size) = some C.size ∧ zc.size = C.size ∧ C.all (·.oneCell') = true := by rw [hC, HZC.out]; exact ⟨by kernel_rfl, rfl, all_oneCell_toArray (msgA_one gm)⟩
          have hE := HEND.out W7 NV C hbv hnv hxv hC
          have HE := Lib.hid hE
          clear hE hC
          refine wpAnyS_ready (rs := [13]) (by kernel_rfl) (by simp) ?_
          refine AllReadyS.cons rfl (fun K hK => ?_) AllReadyS.nil
          rw [if_pos (by rfl)]
          refine wp_store_row 42 (.tmp 8) (.tmp 24) rfl NV C rfl rfl 42 _ hxv hCs.1 hCs.2.1 hCs.2.2 ?_
          refine hK.out _ _ (fun _ => HE.out.2) ?_
          clear hK K
          simp only [Act.put, List.getElem_toArray, List.getElem_cons_succ, List.getElem_cons_zero, List.setIfInBounds_toArray, List.set_cons_zero, List.set_cons_succ]
          refine wpAnyS_ready (rs := [14]) (by kernel_rfl) (by simp) ?_
          refine AllReadyS.cons rfl (fun K hK => ?_) AllReadyS.nil
          go_simp
          refine hK.out _ _ (fun h => absurd h (by omega)) ?_
          clear hK K
          simp only [Act.put, List.getElem_toArray, List.getElem_cons_succ, List.getElem_cons_zero, List.setIfInBounds_toArray, List.set_cons_zero, List.set_cons_succ]
          refine wpAnyS_done (by kernel_rfl) ?_ _
          clear hbv hnv hxv hCs
          go_wp2_with fail
          go_meet
          exact ⟨rfl, _, rfl, HE.out.1⟩
      case rest =>
        obtain ⟨rfl, NV, rfl, hN2, hv2, hlt2⟩ := hcut
        have HN2 := Lib.hid (And.intro hN2 (And.intro hv2 hlt2))
        have HSTP := Lib.hid (show headR S (k + 1) = stepG (hasS S.mb (k : Int)) k gv (headR S k) from by rw [headR_succ, headStepR_eq, HGV.out])
        have R1 := Lib.hid (Bel.range (w := wc) (b := w.heap.size) (o := 0) (cs := X.toList) (fun j u hu => (cell_of_row _ _ _ _ _ _ hN2.blk).trans (by simpa using hu)) (Array.getElem?_eq_some_iff.1 hN2.blk).1)
        have R2 := Lib.hid (Bel.range (w := wc) (b := NV) (o := 0) (cs := (msgA gm).toList) (fun j u hu => (cell_of_row _ _ _ _ _ _ hv2).trans (by simpa using hu)) (Array.getElem?_eq_some_iff.1 hv2).1)
        have R3 := Lib.hid (Bel.range (w := wc) (b := w.heap.size + 1 + 1 + 1) (o := 0) (cs := (msgA (bestM (headR S k))).toList) (fun j u hu => (cell_of_row _ _ _ _ _ _ hN2.hd).trans (by simpa using hu)) (Array.getElem?_eq_some_iff.1 hN2.hd).1)
        clear hN2 hv2 hlt2 HN HS HG
        obtain ⟨hb, hhb⟩ : ∃ b, b = headR S k := ⟨_, rfl⟩
        rw [← hhb] at HN2 HSTP R3 ⊢
        obtain ⟨ib, hib⟩ : ∃ b, b = hasS S.mb (k : Int) := ⟨_, rfl⟩
        have HMM := Lib.hid (show ∀ y : Bel wc, Calls Tryd.prog 81 #[.agg X, .int .i64 (k : Int)] y.val (fun e w' => e = .returned (.bool ib) ∧ Below y.val.heap.size y.val w') from fun y => by rw [hib]; exact HMEM.out y.val k)
        rw [← hib] at HSTP
        have HIB := Lib.hid hib
        clear hhb hib
        go_upto_region 7 with (fail)
        obtain ⟨tk, htk⟩ : ∃ tk : Bool, tk = (go && (ib && lessG gm hb)) := ⟨_, rfl⟩
        have HTK := Lib.hid htk
        clear htk
        go_cut [42] (fun s42 wx => s42 = .bool tk ∧ Below wc.heap.size wc wx)
        case first =>
          --{
          cases go
          · refine wp_region_bel (by kernel_rfl) (by kernel_rfl) ?_
            repeat (go_big_quiet_step ((fail)))
            refine wpQuiet_nil ?_
            intro w5 hw5
            have HB5 := Lib.hid (bel_out hw5)
            clear hw5
            go_wp2_with fail
            go_meet
            exact ⟨by rw [HTK.out]; rfl, HB5.out⟩
          · have hxs := HXS.out.1
            have HXL := Lib.hid hxs
            clear hxs
            have HO1 := Lib.hid (show ∀ y : Bel wc, Calls Tryd.prog 39 #[.agg (msgA gm)] y.val _ from fun y => rOf_any gm y.val)
            cases ib
            · refine wp_region_bel (by kernel_rfl) (by kernel_rfl) ?_
              iterate 2 (go_big_quiet_step ((fail)))
              refine wpQuiet_load_want (by rfl) 73 (.tmp 1) rfl w.heap.size 0 rfl X.toList _ R1.out Tryd.underlying73 rfl HXL.out ?_
              go_simp
              repeat (go_big_quiet_step ((go_at_call 81; with_reducible exact bel_call (HMM.out _))))
              refine wpQuiet_nil ?_
              intro x5
              have HB5 := Lib.hid x5.prop
              generalize x5.val = w5 at *
              go_wp2_with fail
              go_meet
              exact ⟨by rw [HTK.out]; rfl, HB5.out⟩
            · cases hb with
              | none =>
                rw [show bestI (none : Option (Nat × Msg)) = -1 from rfl]
                refine wp_region_bel (by kernel_rfl) (by kernel_rfl) ?_
                iterate 2 (go_big_quiet_step ((fail)))
                refine wpQuiet_load_want (by rfl) 73 (.tmp 1) rfl w.heap.size 0 rfl X.toList _ R1.out Tryd.underlying73 rfl HXL.out ?_
                go_simp
                repeat (go_big_quiet_step ((go_at_call 81; with_reducible exact bel_call (HMM.out _))))
                refine wpQuiet_nil ?_
                intro x5
                have HB5 := Lib.hid x5.prop
                generalize x5.val = w5 at *
                go_wp2_with fail
                go_meet
                exact ⟨by rw [HTK.out]; rfl, HB5.out⟩
              | some c =>
                have HO2 := Lib.hid (show ∀ y : Bel wc, Calls Tryd.prog 39 #[.agg (msgA c.2)] y.val _ from fun y => rOf_any c.2 y.val)
                have HLE := Lib.hid (show ∀ y : Bel wc, Calls Tryd.prog 38 #[.agg #[.int .u64 (gm.stamp : Int), .int .i64 gm.frm], .agg #[.int .u64 (c.2.stamp : Int), .int .i64 c.2.frm]] y.val _ from fun y => rLess_any _ _ _ _ y.val)
                have db : decide ((c.1 : Int) < 0) = false := by simp
                have hbi : bestI (some c) = (c.1 : Int) := rfl
                have hbm : bestM (some c) = c.2 := rfl
                have HTK2 := Lib.hid (show tk = ltB gm.stamp gm.frm c.2.stamp c.2.frm from HTK.out)
                rw [hbm] at R3
                rw [hbi]
                clear hbi hbm HTK
                generalize ltB gm.stamp gm.frm c.2.stamp c.2.frm = lv at *
                refine wp_region_bel (by kernel_rfl) (by kernel_rfl) ?_
                iterate 2 (go_big_quiet_step ((fail)))
                refine wpQuiet_load_want (by rfl) 73 (.tmp 1) rfl w.heap.size 0 rfl X.toList _ R1.out Tryd.underlying73 rfl HXL.out ?_
                go_simp
                iterate 7 (go_big_quiet_step ((go_at_call 81; with_reducible exact bel_call (HMM.out _))))
                refine wpQuiet_load_want (by rfl) 42 (.tmp 8) rfl NV 0 rfl (msgA gm).toList _ R2.out Tryd.underlying42 rfl (by kernel_rfl) ?_
                go_simp
                go_big_quiet_step ((go_at_call 39; with_reducible exact bel_call (HO1.out _)))
                refine wpQuiet_load_want (by rfl) 42 (.tmp 6) rfl (w.heap.size + 1 + 1 + 1) 0 rfl (msgA c.2).toList _ R3.out Tryd.underlying42 rfl (by kernel_rfl) ?_
                go_simp
                go_big_quiet_step ((go_at_call 39; with_reducible exact bel_call (HO2.out _)))
                repeat (go_big_quiet_step ((go_at_call 38; with_reducible exact bel_call (HLE.out _))))
                refine wpQuiet_nil ?_
                intro x5
                have HB5 := Lib.hid x5.prop
                generalize x5.val = w5 at *
                go_wp2_with fail
                go_meet
                exact ⟨by rw [HTK2.out], HB5.out⟩
          --}
        case rest =>
          obtain ⟨rfl, hbx⟩ := hcut
          have hn5 := HN2.out.1.below hbx
          have hv5 := (hbx.block _ (Array.getElem?_eq_some_iff.1 HN2.out.2.1).1).trans HN2.out.2.1
          cases tk
          · have HE := Lib.hid (show headR S (k + 1) = hb from by rw [HSTP.out, stepG_eq, ← HGM.out.1, ← HGM.out.2, ← HTK.out]; rfl)
            have HN5 := Lib.hid hn5
            clear hbx hn5 hv5 R1 R2 R3 HMM
            go_wp2_with fail
            exact ⟨⟨k + 1, HLT.out, by go_num, by rw [HE.out], by rw [HE.out]; exact HN5⟩, by have := HLT.out; simp [intOf]; omega⟩
          · have HE := Lib.hid (show headR S (k + 1) = some (k, gm) from by rw [HSTP.out, stepG_eq, ← HGM.out.1, ← HGM.out.2, ← HTK.out]; rfl)
            obtain ⟨C, hC⟩ : ∃ C, C = msgA gm := ⟨_, rfl⟩
            rw [← hC] at hv5
            have HCS := Lib.hid (show (Tryd.prog.info? 42).map (·.size) = some C.size ∧ (msgA (bestM hb)).size = C.size ∧ C.all (·.oneCell') = true from by rw [hC]; exact ⟨by kernel_rfl, rfl, all_oneCell_toArray (msgA_one gm)⟩)
            have HN5 := Lib.hid (And.intro hn5.hd (And.intro hv5 (hn5.setHd (some (k, gm)) C hC)))
            clear hbx hn5 hv5 R1 R2 R3 HMM hC
            go_wp2_with (first
              | (with_reducible refine wpList_load_row rfl 42 (.tmp 8) rfl NV rfl 42 C (0, 0) _ HN5.out.2.1 Tryd.underlying42 rfl HCS.out.1 ?_)
              | (with_reducible refine wpList_store_row rfl 42 (.tmp 6) (.tmp 44) rfl (w.heap.size + 1 + 1 + 1) C rfl rfl 42 _ HN5.out.1 HCS.out.1 HCS.out.2.1 HCS.out.2.2 ?_)
              | fail)
            have HN6 := Lib.hid HN5.out.2.2
            exact ⟨⟨k + 1, HLT.out, by go_num, by rw [HE.out]; rfl, by rw [HE.out]; exact HN6.out⟩, by have := HLT.out; simp [intOf]; omega⟩
    · have hbool : decide ((k : Int) < 64) = false := by simp; omega
      obtain rfl : k = 64 := by omega
      clear hlt hk
      have HHL := Lib.hid (headR_lt S 64)
      obtain ⟨hb, hhb⟩ : ∃ b, b = headR S 64 := ⟨_, rfl⟩
      rw [← hhb] at HN HHL ⊢
      have HHB := Lib.hid hhb
      clear hhb
      obtain ⟨bk, hbk⟩ : ∃ b : Bool, b = (nextR S al sf).isNone := ⟨_, rfl⟩
      have HBK := Lib.hid hbk
      clear hbk
      go_upto_region 10 with (fail)
      go_cut [67] (fun s67 wx => s67 = .bool bk ∧ Below wr.heap.size wr wx)
      case first =>
        cases hb with
        | none =>
          have HBT := Lib.hid (show bk = true from by rw [HBK.out]; unfold nextR; rw [← HHB.out]; rfl)
          rw [show bestI (none : Option (Nat × Msg)) = -1 from rfl]
          refine wp_region_bel (by kernel_rfl) (by kernel_rfl) ?_
          repeat (go_big_quiet_step ((fail)))
          refine wpQuiet_nil ?_
          intro w5 hw5
          have HB5 := Lib.hid (bel_out hw5)
          clear hw5
          go_wp2_with fail
          go_meet
          exact ⟨by rw [HBT.out], HB5.out⟩
        | some c =>
          have db : decide ((c.1 : Int) < 0) = false := by simp
          rw [show bestI (some c) = (c.1 : Int) from rfl]
          have hn := HN.out.hd
          rw [show bestM (some c) = c.2 from rfl] at hn
          have y2 : ∀ y : Bel wr, y.val.cell? ⟨w.heap.size + 1 + 1 + 1, 2, none⟩ = some (.int .u64 (c.2.stamp : Int)) := Bel.cell (cell_of_row _ _ 2 _ _ _ hn) (Array.getElem?_eq_some_iff.1 hn).1
          have y3 : ∀ y : Bel wr, y.val.cell? ⟨w.heap.size + 1 + 1 + 1, 3, none⟩ = some (.int .i64 c.2.service) := Bel.cell (cell_of_row _ _ 3 _ _ _ hn) (Array.getElem?_eq_some_iff.1 hn).1
          have RZ := Lib.hid (show ∀ w', (∃ y : Bel wr, w' = y.val) → w'.rangeAt w.heap.size 67 LZ from fun w' hw' => HZR.out.2 w' (HN.out.below (bel_out hw')).blk)
          have HA1 := Lib.hid (show ∀ y : Bel wr, Calls Tryd.prog 84 #[.agg LZ.toArray] y.val (fun e w' => e = .returned (.int .u64 (al : Int)) ∧ Below y.val.heap.size y.val w') from fun y => HALL.out y.val (bt HN.out.bel y.prop))
          have HS1 := Lib.hid (show ∀ y : Bel wr, Calls Tryd.prog 85 #[.agg LZ.toArray] y.val (fun e w' => e = .returned (.int .u64 (sf : Int)) ∧ Below y.val.heap.size y.val w') from fun y => HSAFE.out y.val (bt HN.out.bel y.prop))
          have HNX := Lib.hid (show bk = (if al < c.2.stamp ∨ (c.2.service = 2 ∧ sf < c.2.stamp) then (none : Option (Nat × Msg)) else some c).isNone from by rw [HBK.out]; unfold nextR; rw [← HHB.out])
          clear hn
          generalize c.2.stamp = st at *
          generalize c.2.service = sv at *
          by_cases h1 : al < st
          · have d1 : decide ((al : Int) < (st : Int)) = true := by simp; omega
            have d1' : decide (al < st) = true := by simpa using h1
            have HBT := Lib.hid (show bk = true from by rw [HNX.out, if_pos (.inl h1)]; rfl)
            clear h1
            refine wp_region_bel (by kernel_rfl) (by kernel_rfl) ?_
            iterate 6 (go_big_quiet_step ((fail)))
            refine wpQuiet_load_want (by rfl) 71 (.tmp 50) rfl w.heap.size 67 rfl LZ _ RZ.out Tryd.underlying71 rfl HZR.out.1 ?_
            go_simp
            repeat (go_big_quiet_step ((go_at_call 84; with_reducible exact bel_call (HA1.out _))))
            refine wpQuiet_nil ?_
            intro x5
            have HB5 := Lib.hid x5.prop
            generalize x5.val = w5 at *
            go_wp2_with fail
            go_meet
            exact ⟨by rw [HBT.out], HB5.out⟩
          · have d1 : decide ((al : Int) < (st : Int)) = false := by simp; omega
            have d1' : decide (al < st) = false := by simpa using h1
            by_cases h2 : sv = 2
            · have d2 : (sv == 2) = true := by simpa using h2
              by_cases h3 : sf < st
              · have d3 : decide ((sf : Int) < (st : Int)) = true := by simp; omega
                have d3' : decide (sf < st) = true := by simpa using h3
                have HBT := Lib.hid (show bk = true from by rw [HNX.out, if_pos (.inr ⟨h2, h3⟩)]; rfl)
                clear h1 h2 h3
                refine wp_region_bel (by kernel_rfl) (by kernel_rfl) ?_
                iterate 6 (go_big_quiet_step ((fail)))
                refine wpQuiet_load_want (by rfl) 71 (.tmp 50) rfl w.heap.size 67 rfl LZ _ RZ.out Tryd.underlying71 rfl HZR.out.1 ?_
                go_simp
                repeat (go_big_quiet_step ((go_at_call 84; with_reducible exact bel_call (HA1.out _))))
                refine wpQuiet_load_want (by rfl) 71 (.tmp 62) rfl w.heap.size 67 rfl LZ _ RZ.out Tryd.underlying71 rfl HZR.out.1 ?_
                go_simp
                repeat (go_big_quiet_step ((go_at_call 85; with_reducible exact bel_call (HS1.out _))))
                refine wpQuiet_nil ?_
                intro x5
                have HB5 := Lib.hid x5.prop
                generalize x5.val = w5 at *
                go_wp2_with fail
                go_meet
                exact ⟨by rw [HBT.out], HB5.out⟩
              · have d3 : decide ((sf : Int) < (st : Int)) = false := by simp; omega
                have d3' : decide (sf < st) = false := by simpa using h3
                have HBT := Lib.hid (show bk = false from by rw [HNX.out, if_neg (fun h => h.elim h1 (fun h => h3 h.2))]; rfl)
                clear h1 h2 h3
                refine wp_region_bel (by kernel_rfl) (by kernel_rfl) ?_
                iterate 6 (go_big_quiet_step ((fail)))
                refine wpQuiet_load_want (by rfl) 71 (.tmp 50) rfl w.heap.size 67 rfl LZ _ RZ.out Tryd.underlying71 rfl HZR.out.1 ?_
                go_simp
                repeat (go_big_quiet_step ((go_at_call 84; with_reducible exact bel_call (HA1.out _))))
                refine wpQuiet_load_want (by rfl) 71 (.tmp 62) rfl w.heap.size 67 rfl LZ _ RZ.out Tryd.underlying71 rfl HZR.out.1 ?_
                go_simp
                repeat (go_big_quiet_step ((go_at_call 85; with_reducible exact bel_call (HS1.out _))))
                refine wpQuiet_nil ?_
                intro x5
                have HB5 := Lib.hid x5.prop
                generalize x5.val = w5 at *
                go_wp2_with fail
                go_meet
                exact ⟨by rw [HBT.out], HB5.out⟩
            · have d2 : (sv == 2) = false := by simpa using h2
              have HBT := Lib.hid (show bk = false from by rw [HNX.out, if_neg (fun h => h.elim h1 (fun h => h2 h.1))]; rfl)
              clear h1 h2
              refine wp_region_bel (by kernel_rfl) (by kernel_rfl) ?_
              iterate 6 (go_big_quiet_step ((fail)))
              refine wpQuiet_load_want (by rfl) 71 (.tmp 50) rfl w.heap.size 67 rfl LZ _ RZ.out Tryd.underlying71 rfl HZR.out.1 ?_
              go_simp
              repeat (go_big_quiet_step ((go_at_call 84; with_reducible exact bel_call (HA1.out _))))
              refine wpQuiet_nil ?_
              intro x5
              have HB5 := Lib.hid x5.prop
              generalize x5.val = w5 at *
              go_wp2_with fail
              go_meet
              exact ⟨by rw [HBT.out], HB5.out⟩
      case rest =>
        obtain ⟨rfl, hbx⟩ := hcut
        have HN5 := Lib.hid (HN.out.below hbx)
        have hXS : (Tryd.prog.info? 73).map (·.size) = some X.size ∧ Z.size = X.size ∧ X.all (·.oneCell') = true := by rw [HXX.out.1]; exact ⟨rfSize, by rw [HXX.out.2.1, rfC_size], rfC_one _ _ _ HXX.out.2.2.1 HXX.out.2.2.2⟩
        have HXZ := Lib.hid hXS
        clear hbx HN hXS
        cases bk
        · obtain ⟨c, hc⟩ : ∃ c, nextR S al sf = some c := by
            have := HBK.out
            cases hn : nextR S al sf with
            | none => rw [hn] at this; cases this
            | some c => exact ⟨c, rfl⟩
          have hh := nextR_head hc
          rw [← HHB.out] at hh
          subst hh
          have hc64 : c.1 < 64 := HHL.out c rfl
          have HC := Lib.hid (And.intro hc hc64)
          rw [show bestI (some c) = (c.1 : Int) from rfl]
          have hci : (c.1 : Int) < 64 := by omega
          have hb5 : wc.heap[w.heap.size]? = some (.cells (rfC S va vz) 73 (0, 0)) := by rw [← HXX.out.1]; exact HN5.out.blk
          have cd : wc.cell? ⟨w.heap.size, 133 + c.1, none⟩ = some (.int .u32 (S.dn c.1 : Int)) := by rw [cell_of_row _ _ (133 + c.1) _ _ _ hb5, rf_dn _ _ _ hc64]
          have fd := frozen_of_row _ _ (133 + c.1) _ _ hb5
          obtain ⟨S1, hS1⟩ : ∃ S1, S1 = { S with dn := upd S.dn c.1 (S.dn c.1 + 1) } := ⟨_, rfl⟩
          have h6 := setCell_block hb5 (133 + c.1) (.int .u32 ((S.dn c.1 + 1 : Nat) : Int))
          rw [rf_setDn _ _ _ hc64, ← hS1] at h6
          have hk6 := kept_set wc w.heap.size (133 + c.1) (.int .u32 ((S.dn c.1 + 1 : Nat) : Int))
          have hA : IntKind.u32.wrap ((S.dn c.1 : Int) + 1) = ((S.dn c.1 + 1 : Nat) : Int) := by have := HDN.out c.1 hc64; simp [IntKind.wrap, IntKind.signed, IntKind.bits]; omega
          generalize ((S.dn c.1 + 1 : Nat) : Int) = dv at *
          obtain ⟨dq, hdq⟩ : ∃ z, z = S.dn c.1 := ⟨_, rfl⟩
          rw [← hdq] at cd hA
          clear hdq
          have h6r : (wc.setCell ⟨w.heap.size, 133 + c.1, none⟩ (.int .u32 dv)).heap[w.heap.size + 1]? = some (.cells Z 73 (0, 0)) := hk6.keep HN5.out.r1 (by omega)
          have h6q : (wc.setCell ⟨w.heap.size, 133 + c.1, none⟩ (.int .u32 dv)).heap[w.heap.size + 1 + 1]? = some (.cells (msgA zeroM) 42 (0, 0)) := hk6.keep HN5.out.r2 (by omega)
          have h6h : (wc.setCell ⟨w.heap.size, 133 + c.1, none⟩ (.int .u32 dv)).heap[w.heap.size + 1 + 1 + 1]? = some (.cells (msgA c.2) 42 (0, 0)) := hk6.keep HN5.out.hd (by omega)
          have h6b : Below w.heap.size w (wc.setCell ⟨w.heap.size, 133 + c.1, none⟩ (.int .u32 dv)) := hk6.out HN5.out.bel HN5.out.bel.size (fun b hb e => by omega)
          generalize hw6 : wc.setCell ⟨w.heap.size, 133 + c.1, none⟩ (.int .u32 dv) = w6 at *
          have HW6 := Lib.hid hw6
          obtain ⟨C, hC⟩ : ∃ C, C = msgA c.2 := ⟨_, rfl⟩
          rw [← hC] at h6h
          have HCS := Lib.hid (show (Tryd.prog.info? 42).map (·.size) = some C.size ∧ zc.size = C.size ∧ C.all (·.oneCell') = true from by rw [hC, HZC.out]; exact ⟨by kernel_rfl, rfl, all_oneCell_toArray (msgA_one c.2)⟩)
          have HOf := Lib.hid (show Calls Tryd.prog 39 #[.agg C] w6 _ from by rw [hC]; exact rOf_any c.2 w6)
          have H6 := Lib.hid (And.intro h6 (And.intro h6r (And.intro (show w6.heap[w.heap.size + 1 + 1]? = some (.cells zc 42 (0, 0)) from by rw [HZC.out]; exact h6q) (And.intro h6h h6b))))
          have HCC := Lib.hid hC
          have HS1 := Lib.hid hS1
          clear hS1 hC hc hc64 hb5 h6 hk6 h6r h6q h6h h6b hw6
          go_upto_region 13 with (fail)
          rw [HW6.out]
          clear HW6 cd fd hA
          go_wp2_with (first
            | (with_reducible refine wpList_load_row rfl 42 (.tmp 6) rfl (w.heap.size + 1 + 1 + 1) rfl 42 C (0, 0) _ H6.out.2.2.2.1 Tryd.underlying42 rfl HCS.out.1 ?_)
            | fail)
          refine HOf.out.mono ?_
          rintro e w7 ⟨rfl, hb7⟩
          have h7 := (hb7.block _ (Array.getElem?_eq_some_iff.1 H6.out.1).1).trans H6.out.1
          have h7r := (hb7.block _ (Array.getElem?_eq_some_iff.1 H6.out.2.1).1).trans H6.out.2.1
          have h7q := (hb7.block _ (Array.getElem?_eq_some_iff.1 H6.out.2.2.1).1).trans H6.out.2.2.1
          have h7h := (hb7.block _ (Array.getElem?_eq_some_iff.1 H6.out.2.2.2.1).1).trans H6.out.2.2.2.1
          have h7b := bt H6.out.2.2.2.2 hb7
          obtain ⟨kc, hkc⟩ : ∃ kc : Array Value, kc = #[.int .u64 (c.2.stamp : Int), .int .i64 c.2.frm] := ⟨_, rfl⟩
          have HKC := Lib.hid (show (Tryd.prog.info? 38).map (·.size) = some kc.size ∧ kc.all (·.oneCell') = true ∧ w7.there w.heap.size 197 kc.size from by rw [hkc]; exact ⟨by kernel_rfl, by simp [Value.oneCell'], there_of h7 (by rw [rfC_size]; exact Nat.le_refl _)⟩)
          obtain ⟨S2, hS2⟩ : ∃ S2, S2 = { S1 with ls := c.2.stamp, lf := c.2.frm } := ⟨_, rfl⟩
          have h8 := ro_setL h7 c.2.stamp c.2.frm
          rw [← hS2, show [Value.int .u64 (c.2.stamp : Int), Value.int .i64 c.2.frm] = kc.toList from by rw [hkc]] at h8
          have hk8 := keptSetCells w.heap.size kc.toList 197 w7
          have h8r := hk8.keep h7r (by omega)
          have h8q := hk8.keep h7q (by omega)
          have h8h := hk8.keep h7h (by omega)
          have h8b := hk8.out h7b h7b.size (fun b hb e => by omega)
          rw [← hkc]
          obtain ⟨X2, hX2⟩ : ∃ X2, X2 = rfC S2 va vz := ⟨_, rfl⟩
          rw [← hX2] at h8
          generalize hw8 : w7.setCells w.heap.size 197 kc.toList = w8 at *
          have HW8 := Lib.hid hw8
          have HX2 := Lib.hid (show (Tryd.prog.info? 73).map (·.size) = some X2.size ∧ Z.size = X2.size ∧ X2.all (·.oneCell') = true ∧ X2 = rfC (nextRO S al sf) va vz from by
            rw [hX2]
            exact ⟨rfSize, by rw [HXX.out.2.1, rfC_size], rfC_one _ _ _ HXX.out.2.2.1 HXX.out.2.2.2, by rw [hS2, HS1.out]; unfold nextRO; rw [HC.out.1]⟩)
          have H8 := Lib.hid (And.intro h8 (And.intro h8r (And.intro h8q (And.intro h8h h8b))))
          clear h7 h7r h7q h7h h7b hkc hS2 h8 hk8 h8r h8q h8h h8b hX2 hw8 hb7 HOf H6
          go_upto_region 14 with (first
            | (with_reducible refine wpList_store_mid rfl 38 (.tmp 79) (.tmp 78) rfl w.heap.size 197 kc rfl rfl HKC.out.2.2 HKC.out.1 HKC.out.2.1 ?_)
            | fail)
          (try simp only [Act.put])
          rw [HW8.out]
          clear HW8 HKC
          have HS8 := Lib.hid (show ∀ W, Kept (fun b => b = w.heap.size + 1 ∨ b = w.heap.size + 1 + 1) w8 W → W.rangeAt w.heap.size 0 X2.toList ∧ W.rangeAt (w.heap.size + 1 + 1 + 1) 0 C.toList from fun W hk => ⟨rangeAt_of (hk.keep H8.out.1 (by omega)) (fun j hj => by rw [Nat.zero_add]), rangeAt_of (hk.keep H8.out.2.2.2.1 (by omega)) (fun j hj => by rw [Nat.zero_add])⟩)
          have hS0 := HS8.out w8.drew (Kept.of_below (br w8).drew)
          have hx2l : (Tryd.prog.info? 73).map (·.size) = some X2.toList.length := by rw [HX2.out.1]; simp
          have hcl : (Tryd.prog.info? 42).map (·.size) = some C.toList.length := by rw [HCS.out.1]; simp
          have HLL := Lib.hid (And.intro hx2l hcl)
          refine wp_region_mask (fun w' => w'.rangeAt w.heap.size 0 X2.toList ∧ w'.rangeAt (w.heap.size + 1 + 1 + 1) 0 C.toList) 3 3 [true, true, false, false, false] #[true, true, false, false, false] (by kernel_rfl) (by kernel_rfl) (by kernel_rfl) hS0 ?_
          have hkd : Kept (fun b => b = w.heap.size + 1 ∨ b = w.heap.size + 1 + 1) w8 w8.drew := Kept.of_below (br w8).drew
          have H9 := Lib.hid (And.intro hkd (And.intro (show w8.drew.heap[w.heap.size + 1]? = some (.cells Z 73 (0, 0)) from H8.out.2.1) (And.intro (show w8.drew.heap[w.heap.size + 1 + 1]? = some (.cells zc 42 (0, 0)) from H8.out.2.2.1) (H8.out.2.2.2.2.drew))))
          clear hS0 hkd hx2l hcl
          generalize w8.drew = W at *
          refine wpMask_take _ (yieldsIf_load_mid (by rfl) 73 (.tmp 1) rfl w.heap.size 0 rfl X2.toList _ (fun w' hS => hS.1) Tryd.underlying73 rfl HLL.out.1) ?_
          simp only [Act.put, List.getElem_toArray, List.getElem_cons_succ, List.getElem_cons_zero, List.setIfInBounds_toArray, List.set_cons_zero, List.set_cons_succ]
          refine wpMask_take _ (yieldsIf_load_mid (by rfl) 42 (.tmp 6) rfl (w.heap.size + 1 + 1 + 1) 0 rfl C.toList _ (fun w' hS => hS.2) Tryd.underlying42 rfl HLL.out.2) ?_
          simp only [Act.put, List.getElem_toArray, List.getElem_cons_succ, List.getElem_cons_zero, List.setIfInBounds_toArray, List.set_cons_zero, List.set_cons_succ]
          simp only [Array.toArray_toList]
          refine wpMask_skip (wpMask_skip (wpMask_skip (wpMask_nil ?_)))
          refine wpAnyS_ready (rs := [2]) (by kernel_rfl) (by simp) ?_
          refine AllReadyS.cons rfl (fun K hK => ?_) AllReadyS.nil
          rw [if_pos (by rfl)]
          refine wp_store_row 73 (.tmp 2) (.tmp 80) rfl (w.heap.size + 1) X2 rfl rfl 73 _ H9.out.2.1 HX2.out.1 HX2.out.2.1 HX2.out.2.2.1 ?_
          have hkA : Kept (fun b => b = w.heap.size + 1 ∨ b = w.heap.size + 1 + 1) w8 (W.setRow (w.heap.size + 1) X2) := H9.out.1.trans ((setRow_keptR W (w.heap.size + 1) X2).more fun _ _ e => .inl e)
          refine hK.out _ _ (fun _ => HS8.out _ hkA) ?_
          clear hK K
          simp only [Act.put, List.getElem_toArray, List.getElem_cons_succ, List.getElem_cons_zero, List.setIfInBounds_toArray, List.set_cons_zero, List.set_cons_succ]
          refine wpAnyS_ready (rs := [3]) (by kernel_rfl) (by simp) ?_
          refine AllReadyS.cons rfl (fun K hK => ?_) AllReadyS.nil
          rw [if_pos (by rfl)]
          have hqA : (W.setRow (w.heap.size + 1) X2).heap[w.heap.size + 1 + 1]? = some (.cells zc 42 (0, 0)) := (setRow_other _ _ _ _ (by omega)).trans H9.out.2.2.1
          refine wp_store_row 42 (.tmp 3) (.tmp 81) rfl (w.heap.size + 1 + 1) C rfl rfl 42 _ hqA HCS.out.1 HCS.out.2.1 HCS.out.2.2 ?_
          refine hK.out _ _ (fun h => absurd h (by decide)) ?_
          clear hK K
          simp only [Act.put, List.getElem_toArray, List.getElem_cons_succ, List.getElem_cons_zero, List.setIfInBounds_toArray, List.set_cons_zero, List.set_cons_succ]
          have e1 : ((W.setRow (w.heap.size + 1) X2).setRow (w.heap.size + 1 + 1) C).heap[w.heap.size + 1]? = some (.cells X2 73 (0, 0)) := (setRow_other _ _ _ _ (by omega)).trans (setRow_heap _ _ _ _ _ _ H9.out.2.1)
          have e2 : ((W.setRow (w.heap.size + 1) X2).setRow (w.heap.size + 1 + 1) C).heap[w.heap.size + 1 + 1]? = some (.cells C 42 (0, 0)) := setRow_heap _ _ _ _ _ _ hqA
          have e3 : Below w.heap.size w ((W.setRow (w.heap.size + 1) X2).setRow (w.heap.size + 1 + 1) C) := bsr' (bsr' H9.out.2.2.2 (by omega) X2) (by omega) C
          have HE := Lib.hid (And.intro e1 (And.intro e2 e3))
          clear e1 e2 e3 hqA hkA H9 H8 HS8
          generalize (W.setRow (w.heap.size + 1) X2).setRow (w.heap.size + 1 + 1) C = W9 at *
          refine wpAnyS_ready (rs := [4]) (by kernel_rfl) (by simp) ?_
          refine AllReadyS.cons rfl (fun K hK => ?_) AllReadyS.nil
          go_simp
          refine hK.out _ _ (fun h => absurd h (by decide)) ?_
          clear hK K
          simp only [Act.put, List.getElem_toArray, List.getElem_cons_succ, List.getElem_cons_zero, List.setIfInBounds_toArray, List.set_cons_zero, List.set_cons_succ]
          refine wpAnyS_done (by kernel_rfl) ?_ _
          go_wp2_with fail
          refine bodyPost_ret (results_cell2_tmp Tryd.results58 _ _ (w.heap.size + 1) (w.heap.size + 1 + 1) 73 42 X2 C (0, 0) (0, 0) _ _ _ rfl rfl rfl HE.out.1 HE.out.2.1 Tryd.underlying73 Tryd.underlying42 rfl rfl HX2.out.1 HCS.out.1) rfl ⟨by rw [HX2.out.2.2.2, HC.out.1, HCC.out]; rfl, HE.out.2.2⟩
        · have HNO := Lib.hid (show nextR S al sf = none from by
            have := HBK.out
            cases hn : nextR S al sf with
            | none => rfl
            | some c => rw [hn] at this; cases this)
          have HZCS := Lib.hid (show (Tryd.prog.info? 42).map (·.size) = some zc.size ∧ zc.all (·.oneCell') = true ∧ Tryd.prog.built 42 [] = some zc ∧ wc.heap[w.heap.size + 1 + 1]? = some (.cells zc 42 (0, 0)) from by rw [HZC.out]; exact ⟨by kernel_rfl, all_oneCell_toArray (msgA_one zeroM), bldM, HN5.out.r2⟩)
          go_upto_region 11 with (fail)
          refine wp_region_lit ?_
          refine wpList_load_row rfl 73 (.tmp 1) rfl w.heap.size rfl 73 X (0, 0) _ HN5.out.blk Tryd.underlying73 rfl HXZ.out.1 ?_
          simp only [Act.put, List.getElem_toArray, List.getElem_cons_succ, List.getElem_cons_zero, List.setIfInBounds_toArray, List.set_cons_zero, List.set_cons_succ]
          refine wpList_buildT rfl 42 #[] rfl zc (by simp only [List.map_toArray, List.map_nil]; exact HZCS.out.2.2.1) ?_
          simp only [Act.put, List.getElem_toArray, List.getElem_cons_succ, List.getElem_cons_zero, List.setIfInBounds_toArray, List.set_cons_zero, List.set_cons_succ]
          refine wpList_store_row rfl 73 (.tmp 2) (.tmp 68) rfl (w.heap.size + 1) X rfl rfl 73 _ HN5.out.r1 HXZ.out.1 HXZ.out.2.1 HXZ.out.2.2 ?_
          simp only [Act.put, List.getElem_toArray, List.getElem_cons_succ, List.getElem_cons_zero, List.setIfInBounds_toArray, List.set_cons_zero, List.set_cons_succ]
          have hqA : (wc.setRow (w.heap.size + 1) X).heap[w.heap.size + 1 + 1]? = some (.cells zc 42 (0, 0)) := (setRow_other _ _ _ _ (by omega)).trans HZCS.out.2.2.2
          refine wpList_store_row rfl 42 (.tmp 3) (.tmp 69) rfl (w.heap.size + 1 + 1) zc rfl rfl 42 _ hqA HZCS.out.1 rfl HZCS.out.2.1 ?_
          simp only [Act.put, List.getElem_toArray, List.getElem_cons_succ, List.getElem_cons_zero, List.setIfInBounds_toArray, List.set_cons_zero, List.set_cons_succ]
          have e1 : ((wc.setRow (w.heap.size + 1) X).setRow (w.heap.size + 1 + 1) zc).heap[w.heap.size + 1]? = some (.cells X 73 (0, 0)) := (setRow_other _ _ _ _ (by omega)).trans (setRow_heap _ _ _ _ _ _ HN5.out.r1)
          have e2 : ((wc.setRow (w.heap.size + 1) X).setRow (w.heap.size + 1 + 1) zc).heap[w.heap.size + 1 + 1]? = some (.cells zc 42 (0, 0)) := setRow_heap _ _ _ _ _ _ hqA
          have e3 : Below w.heap.size w ((wc.setRow (w.heap.size + 1) X).setRow (w.heap.size + 1 + 1) zc) := bsr' (bsr' HN5.out.bel (by omega) X) (by omega) zc
          have HE := Lib.hid (And.intro e1 (And.intro e2 e3))
          clear e1 e2 e3 hqA
          generalize (wc.setRow (w.heap.size + 1) X).setRow (w.heap.size + 1 + 1) zc = W9 at *
          go_wp2_with fail
          refine bodyPost_ret (results_cell2_tmp Tryd.results58 _ _ (w.heap.size + 1) (w.heap.size + 1 + 1) 73 42 X zc (0, 0) (0, 0) _ _ _ rfl rfl rfl HE.out.1 HE.out.2.1 Tryd.underlying73 Tryd.underlying42 rfl rfl HXZ.out.1 HZCS.out.1) rfl ⟨by unfold nextRO; rw [HNO.out, HXX.out.1, HZC.out]; rfl, HE.out.2.2⟩
end Go.Proofs.YtgjlcjbmcnofiaaDoor
