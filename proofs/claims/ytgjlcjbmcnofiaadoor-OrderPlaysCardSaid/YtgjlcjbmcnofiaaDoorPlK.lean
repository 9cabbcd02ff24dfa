/-
  The reference's order: Drain.
  Conditions: those that each theorem names.
-/
import Derived.Test.YtgjlcjbmcnofiaaDoorRfJ
import Derived.Test.YtgjlcjbmcnofiaaDoorOrdE
import Derived.Lib.MinMax
import Derived.Test.YtgjlcjbmcnofiaaDoorCmpB
namespace Go.Proofs.YtgjlcjbmcnofiaaDoor
set_option linter.unusedVariables false
set_option linter.unusedSimpArgs false
open Go.RowKit
inductive DrnR (al sf : Nat) : RO → List Msg → RO → Prop
  | nil (S : RO) : DrnR al sf S [] S
  | snoc {S S1 : RO} {L : List Msg} {c : Nat × Msg} : DrnR al sf S L S1 → nextR S1 al sf = some c → DrnR al sf S (L ++ [c.2]) (nextRO S1 al sf)
/-- how many may still come -/
def roomR (S : RO) : Nat := ((List.range 64).map fun p => 1000 - S.dn p).sum
theorem headR_some (S : RO) : ∀ (k : Nat) (c : Nat × Msg), headR S k = some c → getA S.A S.lo (c.1 : Int) (S.dn c.1 + 1) = some c.2
  | 0, c, h => by cases h
  | k + 1, c, h => by
    rw [headR_succ, headStepR_eq, stepG_eq] at h
    split at h
    · next hc =>
      injection h with h
      subst h
      simp only [Bool.and_eq_true] at hc
      cases hg : getA S.A S.lo (k : Int) (S.dn k + 1) with
      | none => rw [hg] at hc; cases hc.1
      | some m => rfl
    · exact headR_some S k c h
theorem getA_seq {A : List Msg} {lo : Nat → Nat} {p : Int} {seq : Nat} {m : Msg} (h : getA A lo p seq = some m) : m.seq = seq ∧ m.frm = p ∧ lo p.toNat < seq := by
  have := List.find?_some h
  simp only [Bool.and_eq_true, decide_eq_true_eq] at this
  exact ⟨this.2.1, this.1, this.2.2⟩
structure DrOk (S : RO) : Prop where
  sq : ∀ m ∈ S.A, m.seq ≤ 1000
  dn : ∀ p, p < 64 → S.dn p ≤ 1000
theorem nextRO_same {S : RO} {al sf : Nat} : (nextRO S al sf).A = S.A ∧ (nextRO S al sf).lo = S.lo ∧ (nextRO S al sf).c = S.c ∧ (nextRO S al sf).oth = S.oth ∧ (nextRO S al sf).T = S.T ∧ (nextRO S al sf).mb = S.mb ∧ (nextRO S al sf).me = S.me := by
  unfold nextRO
  split <;> exact ⟨rfl, rfl, rfl, rfl, rfl, rfl, rfl⟩
theorem DrOk.next {S : RO} {al sf : Nat} {c : Nat × Msg} (h : DrOk S) (hn : nextR S al sf = some c) : DrOk (nextRO S al sf) ∧ roomR (nextRO S al sf) < roomR S := by
  have hh := nextR_head hn
  have hg := headR_some S 64 c hh
  have hlt := headR_lt S 64 c hh
  have hs := (getA_seq hg).1
  have hm := h.sq _ (getA_mem hg)
  have e : nextRO S al sf = { S with dn := upd S.dn c.1 (S.dn c.1 + 1), ls := c.2.stamp, lf := c.2.frm } := by unfold nextRO; rw [hn]
  rw [e]
  refine ⟨⟨h.sq, fun p hp => ?_⟩, ?_⟩
  · show upd S.dn c.1 (S.dn c.1 + 1) p ≤ 1000
    by_cases ep : p = c.1
    · subst ep; rw [upd_same]; omega
    · rw [upd_ne _ _ ep]; exact h.dn p hp
  · refine sum_dec (p := c.1) (fun q => ?_) ?_ 64 hlt
    · show 1000 - upd S.dn c.1 (S.dn c.1 + 1) q ≤ 1000 - S.dn q
      by_cases eq : q = c.1
      · subst eq; rw [upd_same]; omega
      · rw [upd_ne _ _ eq]; exact Nat.le_refl _
    · show 1000 - upd S.dn c.1 (S.dn c.1 + 1) c.1 < 1000 - S.dn c.1
      rw [upd_same]; omega
theorem DrnR.same {al sf : Nat} {S S' : RO} {L : List Msg} (h : DrnR al sf S L S') : S'.A = S.A ∧ S'.lo = S.lo ∧ S'.c = S.c ∧ S'.oth = S.oth ∧ S'.T = S.T ∧ S'.mb = S.mb ∧ S'.me = S.me := by
  induction h with
  | nil => exact ⟨rfl, rfl, rfl, rfl, rfl, rfl, rfl⟩
  | snoc h hn ih =>
    obtain ⟨a1, a2, a3, a4, a5, a6, a7⟩ := nextRO_same (S := _) (al := al) (sf := sf)
    obtain ⟨b1, b2, b3, b4, b5, b6, b7⟩ := ih
    exact ⟨a1.trans b1, a2.trans b2, a3.trans b3, a4.trans b4, a5.trans b5, a6.trans b6, a7.trans b7⟩
theorem DrnR.ok {al sf : Nat} {S S' : RO} {L : List Msg} (h : DrnR al sf S L S') (hk : DrOk S) : DrOk S' ∧ L.length + roomR S' ≤ roomR S := by
  induction h with
  | nil => exact ⟨hk, by simp⟩
  | snoc h hn ih =>
    obtain ⟨i1, i2⟩ := ih
    obtain ⟨j1, j2⟩ := i1.next hn
    refine ⟨j1, ?_⟩
    rw [List.length_append, List.length_singleton]
    omega
theorem roomR_le (S : RO) : roomR S ≤ 64000 := by
  have := sum_bd (f := fun p => 1000 - S.dn p) (c := 1000) 64 (fun q _ => Nat.sub_le _ _)
  exact this
/-- while messages are gathered -/
structure DrnSt (w : World) (Z : Array Value) (S : RO) (va vz : Value) (al sf : Nat) (u : Value) (n : Nat) (wr : World) : Prop where
  ex : ∃ S' L, DrnR al sf S L S' ∧ wr.heap[w.heap.size]? = some (.cells (rfC S' va vz) 73 (0, 0)) ∧ wr.heap[w.heap.size + 1]? = some (.cells Z 73 (0, 0)) ∧ wr.ownsRow (w.heap.size + 1 + 1) 42 6 u L.length (rowsM L) ∧ n = L.length ∧ Below w.heap.size w wr
def DrainRE (w : World) (va vz : Value) (S : RO) (al sf : Nat) (e : Ending) (w' : World) : Prop :=
  ∃ L S' v, DrnR al sf S L S' ∧ nextR S' al sf = none ∧ e = .returned (.tuple #[.agg (rfC S' va vz), v]) ∧ w'.ownsRow w.heap.size 42 6 v L.length (rowsM L) ∧ Below w.heap.size w w'
set_option maxRecDepth 100000 in
set_option maxHeartbeats 16000000 in
theorem rDrain_any (S : RO) (va vz : Value) (f g : Nat → Nat) (w : World) (ha : RowsIn w va S.A) (ht : ToldIn w vz S.T) (hlt : S.T.length ≤ 1000) (hfh : ∀ p : Nat, p < 64 → S.oth p = true → TopTo S.T (goodR S.T (p : Int)) S.T.length (f p)) (hgh : ∀ p : Nat, p < 64 → S.oth p = true → TopTo S.T (rchR S.T (p : Int)) S.T.length (g p)) (hl : S.A.length ≤ 1000) (hf : ∀ m ∈ S.A, procB m.frm = true) (hmb : S.mb < 18446744073709551616) (hk : DrOk S) :
    Calls Tryd.prog 59 #[.agg (rfC S va vz)] w (DrainRE w va vz S (lowR f S.oth 64 S.c) (lowR g S.oth 64 (lowR f S.oth 64 S.c))) := by
  obtain ⟨i0, hi, hz0, hz1, hz2⟩ := info_parts info42
  have hz := zeroR_run
  obtain ⟨Z, hZ⟩ : ∃ Z, Z = zeroR := ⟨_, rfl⟩
  have hZs : Z.size = 199 := by rw [hZ]; unfold zeroR; rw [rfC_size]
  rw [← hZ] at hz
  obtain ⟨zc, hzc⟩ : ∃ z, z = msgA zeroM := ⟨_, rfl⟩
  have hzm : ∀ W : World, (zeroValue 42).run Tryd.prog W = .ok (.agg zc) W := fun W => by rw [hzc]; kernel_rfl
  have h1 : va.oneCell' = true := by obtain ⟨ad, cap, rfl, _⟩ := ha; rfl
  have h2 : vz.oneCell' = true := by obtain ⟨ad, cap, rfl, _⟩ := ht; rfl
  obtain ⟨al, hal⟩ : ∃ a, a = lowR f S.oth 64 S.c := ⟨_, rfl⟩
  obtain ⟨sf, hsf⟩ : ∃ a, a = lowR g S.oth 64 al := ⟨_, rfl⟩
  have HNX := Lib.hid (show ∀ (W : World) (S' : RO) (L : List Msg), DrnR al sf S L S' → Below w.heap.size w W → Calls Tryd.prog 58 #[.agg (rfC S' va vz)] W (NextRE W va vz S' al sf) from fun W S' L hd hW => by
    obtain ⟨e1, e2, e3, e4, e5, e6, _⟩ := hd.same
    have hdk := (hd.ok hk).1
    have := rNext_any S' va vz f g W (by rw [e1]; exact ha.below hW) (by rw [e5]; exact ht.below hW) (by rw [e5]; exact hlt) (by rw [e4, e5]; exact hfh) (by rw [e4, e5]; exact hgh) (by rw [e1]; exact hl) (by rw [e1]; exact hf) (by rw [e6]; exact hmb) (fun p hp => by have := hdk.dn p hp; omega)
    rw [e3, e4, ← hal, ← hsf] at this
    exact this)
  rw [← hal, ← hsf]
  obtain ⟨X, hX⟩ : ∃ X, X = rfC S va vz := ⟨_, rfl⟩
  rw [← hX]
  obtain ⟨W, hW⟩ : ∃ W, W = (w.alloc (.cells X 73)).alloc (.cells Z 73) := ⟨_, rfl⟩
  have HS0 := Lib.hid (show DrnSt w Z S va vz al sf (.slice none 0 0) 0 W from by
    have h := RoTwo.new w X Z
    rw [← hW] at h
    exact ⟨S, [], .nil S, by rw [← hX]; exact h.blk, h.res, ⟨rfl, .inl ⟨rfl, rfl⟩⟩, rfl, h.bel⟩)
  have HW := Lib.hid hW
  have HQ := Lib.hid (And.intro hZs (And.intro h1 (And.intro h2 (And.intro hzc hk))))
  clear hZ hZs hzc h1 h2 hal hsf ha ht hlt hfh hgh hl hf hmb hk hX hW
  go_enter Tryd.func59, Tryd.ntmps59
  go_upto_region 1 with (fail)
  rw [← HW.out]
  clear HW
  go_wp2_with fail
  go_loopw [4] (fun u wr => ∃ n, rowLen u = n ∧ Hid (DrnSt w Z S va vz al sf u n wr)) (fun u _ => 64000 - rowLen u)
  case atStart => exact ⟨0, rfl, HS0⟩
  case round =>
    obtain ⟨n, hn, HR⟩ := hrel
    obtain ⟨S', L, hd, hb0, hb1, hown, hnl, hbw⟩ := HR.out.ex
    obtain ⟨au, cu, rfl⟩ := ownForm hown
    obtain ⟨b, hb⟩ : ∃ b, b = (nextR S' al sf).isSome := ⟨_, rfl⟩
    have HNW := HNX.out wr S' L hd hbw
    obtain ⟨X1, hX1⟩ : ∃ z, z = rfC S' va vz := ⟨_, rfl⟩
    obtain ⟨X2, hX2⟩ : ∃ z, z = rfC (nextRO S' al sf) va vz := ⟨_, rfl⟩
    obtain ⟨cm, hcm⟩ : ∃ z, z = msgA (bestM (nextR S' al sf)) := ⟨_, rfl⟩
    have hsz1 : (Tryd.prog.info? 73).map (·.size) = some X1.size := by rw [hX1]; exact rfSize
    have hsz2 : (Tryd.prog.info? 73).map (·.size) = some X2.size := by rw [hX2]; exact rfSize
    have hsq : Z.size = X2.size := by rw [hX2, rfC_size]; exact HQ.out.1
    have hone : X2.all (·.oneCell') = true := by rw [hX2]; exact rfC_one _ _ _ HQ.out.2.1 HQ.out.2.2.1
    have hone1 : X1.all (·.oneCell') = true := by rw [hX1]; exact rfC_one _ _ _ HQ.out.2.1 HQ.out.2.2.1
    have hszm : (Tryd.prog.info? 42).map (·.size) = some cm.size ∧ zc.size = cm.size ∧ cm.all (·.oneCell') = true := by rw [hcm, HQ.out.2.2.2.1]; exact ⟨by kernel_rfl, rfl, all_oneCell_toArray (msgA_one _)⟩
    unfold NextRE at HNW
    rw [← hX1, ← hX2, ← hcm, ← hb] at HNW
    rw [← hX1] at hb0
    have HNW := Lib.hid HNW
    have HB0 := Lib.hid hb0
    have HB1 := Lib.hid hb1
    have HS := Lib.hid (And.intro hsz1 (And.intro hsz2 (And.intro hsq (And.intro hone (And.intro hszm hone1)))))
    have HH := Lib.hid (And.intro hd (And.intro hown (And.intro hnl (And.intro hbw (And.intro hb (And.intro hX1 (And.intro hX2 (And.intro hcm hn))))))))
    clear hd hb0 hb1 hown hnl hbw HR hb hX1 hX2 hcm hsz1 hsz2 hsq hone hone1 hszm hn
    go_upto_region 2 with (fail)
    refine wp_region_lit ?_
    refine wpList_load_row rfl 73 (.tmp 1) rfl w.heap.size rfl 73 X1 (0, 0) _ HB0.out Tryd.underlying73 rfl HS.out.1 ?_
    (try simp only [Act.put, List.setIfInBounds_toArray, List.set_cons_zero, List.set_cons_succ])
    refine wpList_step (fun K hK => ?_)
    go_simp
    refine HNW.out.mono ?_
    rintro e w2 ⟨rfl, hb2⟩
    refine hK _ _ ?_
    clear hK K
    (try simp only [Act.put, List.setIfInBounds_toArray, List.set_cons_zero, List.set_cons_succ])
    iterate 6
      refine wpList_step (fun K hK => ?_)
      go_simp
      refine hK _ _ ?_
      clear hK K
      (try simp only [Act.put, List.setIfInBounds_toArray, List.set_cons_zero, List.set_cons_succ])
    obtain ⟨wa, hwa⟩ : ∃ z, z = (w2.alloc (.cells Z 73)).alloc (.cells zc 42) := ⟨_, rfl⟩
    have hp1 : wa.heap[w2.heap.size]? = some (.cells Z 73 (0, 0)) := by
      rw [hwa]
      exact ((ba (br (w2.alloc (.cells Z 73))) _).block _ (by simp)).trans (heap_alloc_new w2 _)
    have hp2 : wa.heap[w2.heap.size + 1]? = some (.cells zc 42 (0, 0)) := by
      rw [hwa]
      have := heap_alloc_new (w2.alloc (.cells Z 73)) (.cells zc 42)
      simpa using this
    have hba : Below w2.heap.size w2 wa := by rw [hwa]; exact ba (ba (br w2) _) _
    rw [← hwa]
    clear hwa
    obtain ⟨N, hN⟩ : ∃ z, z = w2.heap.size := ⟨_, rfl⟩
    rw [← hN] at hp1 hp2 ⊢
    have HN := Lib.hid hN
    clear hN
    refine wpList_store_row rfl 73 (.tmp 5) (.tmp 11) rfl N X2 rfl rfl 73 _ hp1 HS.out.2.1 HS.out.2.2.1 HS.out.2.2.2.1 ?_
    simp only [Act.put]
    refine wpList_store_row rfl 42 (.tmp 6) (.tmp 12) rfl (N + 1) cm rfl rfl 42 _ ((setRow_keptR wa N X2).keep hp2 (by omega)) HS.out.2.2.2.2.1.1 HS.out.2.2.2.2.1.2.1 HS.out.2.2.2.2.1.2.2 ?_
    simp only [Act.put]
    obtain ⟨w3, hw3⟩ : ∃ z, z = (wa.setRow N X2).setRow (N + 1) cm := ⟨_, rfl⟩
    have hq1 : w3.heap[N]? = some (.cells X2 73 (0, 0)) := by rw [hw3]; exact (setRow_keptR _ (N + 1) cm).keep (setRow_heap _ _ _ _ _ _ hp1) (by omega)
    have hq2 : w3.heap[N + 1]? = some (.cells cm 42 (0, 0)) := by rw [hw3]; exact setRow_heap _ _ _ _ _ _ ((setRow_keptR wa N X2).keep hp2 (by omega))
    have hb3 : Below w2.heap.size w2 w3 := by
      rw [hw3]
      have hN := HN.out
      exact (setRow_keptR _ (N + 1) cm).out ((setRow_keptR wa N X2).out hba hba.size (fun b hb e => by omega)) (by rw [size_setRow]; exact hba.size) (fun b hb e => by omega)
    rw [← hw3]
    clear hw3 hp1 hp2 hba
    refine wpList_step (fun K hK => ?_)
    go_simp
    refine hK _ _ ?_
    clear hK K
    (try simp only [Act.put, List.setIfInBounds_toArray, List.set_cons_zero, List.set_cons_succ])
    refine wpList_nil ?_
    have hb3w : Below wr.heap.size wr w3 := bt hb2 hb3
    have hNw : wr.heap.size ≤ N := by rw [HN.out]; exact hb2.size
    have hl1 := (Array.getElem?_eq_some_iff.1 HB1.out).1
    have hr0 : w3.heap[w.heap.size]? = some (.cells X1 73 (0, 0)) := (hb3w.block _ (by omega)).trans HB0.out
    have hr1 : w3.heap[w.heap.size + 1]? = some (.cells Z 73 (0, 0)) := (hb3w.block _ hl1).trans HB1.out
    have hrw : w3.ownsRow (w.heap.size + 1 + 1) 42 6 (.slice au L.length cu) L.length (rowsM L) := own_keptS HH.out.2.1 (Kept.of_below (S := fun _ => False) hb3w) (fun _ _ h => h)
    have hbw3 : Below w.heap.size w w3 := bt HH.out.2.2.2.1 hb3w
    have HC := Lib.hid (And.intro hr0 (And.intro hr1 (And.intro hrw (And.intro hbw3 (And.intro hq1 (And.intro hq2 (And.intro hNw hl1)))))))
    clear hr0 hr1 hrw hbw3 hq1 hq2 hb3w hb3 hb2 HN HB0 HB1 HNW hl1 hNw
    cases b
    · have hno : nextR S' al sf = none := by
        have := HH.out.2.2.2.2.1
        cases hn : nextR S' al sf with
        | none => rfl
        | some c => rw [hn] at this; cases this
      have hZX : Z.size = X1.size := by rw [HQ.out.1, HH.out.2.2.2.2.2.1, rfC_size]
      have hx := setRow_heap _ _ _ X1 _ _ HC.out.2.1
      have hkp := setRow_keptR w3 (w.heap.size + 1) X1
      have hbe := hkp.out HC.out.2.2.2.1 HC.out.2.2.2.1.size (fun b hb e => by omega)
      have hoe := own_keptS HC.out.2.2.1 hkp (fun b hb e => by have := (HC.out.2.2.1.lt b hb).1; omega)
      have HE := Lib.hid (And.intro hno (And.intro hx (And.intro hbe (And.intro hoe hZX))))
      clear hno hZX hx hkp hbe hoe
      go_upto_region 4 with (fail)
      refine wp_region_lit ?_
      refine wpList_load_row rfl 73 (.tmp 1) rfl w.heap.size rfl 73 X1 (0, 0) _ HC.out.1 Tryd.underlying73 rfl HS.out.1 ?_
      (try simp only [Act.put, List.setIfInBounds_toArray, List.set_cons_zero, List.set_cons_succ])
      refine wpList_step (fun K hK => ?_)
      go_simp
      refine hK _ _ ?_
      clear hK K
      (try simp only [Act.put, List.setIfInBounds_toArray, List.set_cons_zero, List.set_cons_succ])
      refine wpList_store_row rfl 73 (.tmp 2) (.tmp 16) rfl (w.heap.size + 1) X1 rfl rfl 73 _ HC.out.2.1 HS.out.1 HE.out.2.2.2.2 HS.out.2.2.2.2.2 ?_
      simp only [Act.put]
      obtain ⟨w4, hw4⟩ : ∃ z, z = w3.setRow (w.heap.size + 1) X1 := ⟨_, rfl⟩
      have h4 := HE.out
      rw [← hw4] at h4 ⊢
      have HE := Lib.hid h4
      clear hw4 h4
      refine wpList_step (fun K hK => ?_)
      go_simp
      refine hK _ _ ?_
      clear hK K
      (try simp only [Act.put, List.setIfInBounds_toArray, List.set_cons_zero, List.set_cons_succ])
      refine wpList_nil ?_
      go_wp2_with fail
      exact bodyPost_ret (results_cell_tmp Tryd.results59 _ _ (w.heap.size + 1) 73 X1 (0, 0) _ _ rfl rfl HE.out.2.1 Tryd.underlying73 rfl HS.out.1) rfl ⟨L, S', .slice au L.length cu, HH.out.1, HE.out.1, by rw [HH.out.2.2.2.2.2.1]; rfl, ownMore HE.out.2.2.2.1 (by omega), HE.out.2.2.1⟩
    · obtain ⟨c, hc⟩ : ∃ c, nextR S' al sf = some c := by
        have := HH.out.2.2.2.2.1
        cases hn : nextR S' al sf with
        | none => rw [hn] at this; cases this
        | some c => exact ⟨c, rfl⟩
      have hd2 := DrnR.snoc HH.out.1 hc
      obtain ⟨hk2, hrm⟩ := hd2.ok HQ.out.2.2.2.2
      have hrl := roomR_le S
      rw [List.length_append, List.length_singleton] at hrm
      have hcm : cm = msgA c.2 := by rw [HH.out.2.2.2.2.2.2.2.1, hc]; rfl
      have hX12 : X1.size = X2.size := by rw [HH.out.2.2.2.2.2.1, HH.out.2.2.2.2.2.2.1, rfC_size, rfC_size]
      have hkp := setRow_keptR w3 w.heap.size X2
      have hx := setRow_heap _ _ _ X2 _ _ HC.out.1
      have hz4 := hkp.keep HC.out.2.1 (by omega)
      have hs4 := HC.out.2.2.2.2.2.2.2
      have hm4 := hkp.keep HC.out.2.2.2.2.2.1 (by have := HC.out.2.2.2.2.2.2.1; omega)
      have hbe := hkp.out HC.out.2.2.2.1 HC.out.2.2.2.1.size (fun b hb e => by omega)
      have hoe := own_keptS HC.out.2.2.1 hkp (fun b hb e => by have := (HC.out.2.2.1.lt b hb).1; omega)
      have hln : L.length + 1 ≤ 64000 := by omega
      have HE := Lib.hid (And.intro hx (And.intro hz4 (And.intro hbe (And.intro hoe (And.intro hm4 (And.intro hX12 (And.intro hd2 (And.intro hln hcm))))))))
      clear hc hd2 hk2 hrm hrl hcm hX12 hkp hx hz4 hs4 hm4 hbe hoe hln
      go_upto_region 5 with (fail)
      refine wp_region_lit ?_
      refine wpList_load_row rfl 73 (.tmp 5) rfl N rfl 73 X2 (0, 0) _ HC.out.2.2.2.2.1 Tryd.underlying73 rfl HS.out.2.1 ?_
      (try simp only [Act.put, List.setIfInBounds_toArray, List.set_cons_zero, List.set_cons_succ])
      refine wpList_store_row rfl 73 (.tmp 1) (.tmp 18) rfl w.heap.size X2 rfl rfl 73 _ HC.out.1 HS.out.2.1 HE.out.2.2.2.2.2.1 HS.out.2.2.2.1 ?_
      simp only [Act.put]
      obtain ⟨w4, hw4⟩ : ∃ z, z = w3.setRow w.heap.size X2 := ⟨_, rfl⟩
      have h4 := HE.out
      rw [← hw4] at h4 ⊢
      have HE := Lib.hid h4
      clear hw4 h4
      refine wpList_nil ?_
      have hw4s : w.heap.size + 1 < w4.heap.size := (Array.getElem?_eq_some_iff.1 HE.out.2.1).1
      obtain ⟨cx, hcx⟩ : ∃ cx, cx = msgA c.2 := ⟨_, rfl⟩
      have hcc : cm = cx := by rw [hcx]; exact HE.out.2.2.2.2.2.2.2.2
      have hcz : cm.size = 6 := by rw [hcc, hcx]; rfl
      have HCM := Lib.hid (And.intro hcz (show Reads (w4.alloc (.cells cm 42)) (w4.heap.size + 1) 6 (some ⟨w4.heap.size, 0, none⟩) 1 cm.toList ∧ (∀ u ∈ cm.toList, u.oneCell' = true) from by
        rw [hcc, hcx]
        exact ⟨reads_new w4 c.2, msgA_one c.2⟩))
      have HLN := Lib.hid (And.intro hw4s HE.out.2.2.2.2.2.2.2.1)
      clear hcx hcc hcz hw4s
      go_wp2_with (first
        | (with_reducible refine wpList_load_row rfl 42 (.tmp 6) rfl (N + 1) rfl 42 cm (0, 0) _ HE.out.2.2.2.2.1 Tryd.underlying42 rfl HS.out.2.2.2.2.1.1 ?_)
        | (refine wpList_buildSlice_row rfl 27 (.tmp 20) rfl 42 i0 _ Tryd.underlying27 hi hz0 cm rfl (by rw [HCM.out.1]; exact hz1) (by rw [HCM.out.1]; decide) (by rw [HCM.out.1]; decide) ?_)
        | (at_builtin; refine wpList_append_any _ rfl (.tmp 19) (.tmp 21) 27 rfl (w.heap.size + 1 + 1) 42 i0 _ 6 72 Tryd.underlying27 hi hz0 hz1 hz2 rfl (by decide) _ L.length _ rfl (HE.out.2.2.2.1.alloc _) _ _ 1 _ cm.toList rfl HCM.out.2.1 HCM.out.2.2 (by have := HLN.out.2; unfold maxLen; omega) (by have := HLN.out.2; omega) (by have := HLN.out.1; simp; omega) ?_)
        | fail)
      intro v' wg ho2 hg hu
      obtain ⟨a4, c4, rfl⟩ := ownForm ho2
      have hl := HE.out.2.2.2.1.lt
      have h4a := ba (br w4) (.cells cm 42)
      have h4s := HLN.out.1
      have h4b : Below (w.heap.size + 1 + 1) w4 (w4.alloc (.cells cm 42)) := ⟨h4a.os, h4a.tape, h4a.output, h4a.size, fun i hi => h4a.block i (by omega)⟩
      have hkg : Below (w.heap.size + 1 + 1) w4 wg := grownB h4b (by have := h4a.size; omega) hg (fun b hb => (hl b hb).1)
      have HF := Lib.hid (show DrnSt w Z S va vz al sf (.slice a4 (L.length + 1) c4) (L.length + 1) wg from by
        refine ⟨nextRO S' al sf, L ++ [c.2], HE.out.2.2.2.2.2.2.1, ?_, ?_, ?_, by simp, ?_⟩
        · rw [← HH.out.2.2.2.2.2.2.1]; exact (hkg.block _ (by omega)).trans HE.out.1
        · exact (hkg.block _ (by omega)).trans HE.out.2.1
        · rw [rowsM_snoc, List.length_append, List.length_singleton, ← HE.out.2.2.2.2.2.2.2.2]
          exact ho2
        · exact ⟨hkg.os.trans HE.out.2.2.1.os, hkg.tape.trans HE.out.2.2.1.tape, hkg.output.trans HE.out.2.2.1.output, Nat.le_trans HE.out.2.2.1.size hkg.size, fun i hi => (hkg.block i (by omega)).trans (HE.out.2.2.1.block i hi)⟩)
      clear ho2 hg hu hkg hl h4a h4b h4s
      go_wp2_with fail
      exact ⟨⟨L.length + 1, rfl, HF⟩, by have := HLN.out.2; simp [rowLen]; omega⟩
end Go.Proofs.YtgjlcjbmcnofiaaDoor
namespace Go.Proofs.YtgjlcjbmcnofiaaDoor
set_option linter.unusedVariables false
set_option linter.unusedSimpArgs false
open Go.RowKit
theorem addr_add (g o j : Nat) : (⟨g, o, none⟩ : Addr).add j = ⟨g, o + j, none⟩ := by unfold Addr.add; split <;> simp_all
/-- how many are asked for -/
def dnN (n : Int) : Nat := (max 0 (min n 64)).toNat
def DonesE (w : World) (dn : Nat → Nat) (k : Nat) (e : Ending) (w' : World) : Prop := Clone32 w ((List.range k).map dn) e w' ∧ Below w.heap.size w w'
set_option maxRecDepth 100000 in
set_option maxHeartbeats 4000000 in
theorem orDones_any {w : World} {B D Z : Nat} {O : PO} {V VH : Nat → Value} (h : OrAt w B D Z O V VH) (n : Int) :
    Calls Tryd.prog 28 #[.pointer (some ⟨B, 0, none⟩), .int .i64 n] w (DonesE w O.dn (dnN n)) := by
  obtain ⟨k, hk⟩ : ∃ k, k = dnN n := ⟨_, rfl⟩
  have hkn : max 0 (min n 64) = (k : Int) := by rw [hk]; unfold dnN; omega
  have hk64 : k ≤ 64 := by rw [hk]; unfold dnN; omega
  have hal : Tryd.prog.arrayLen 58 = 64 := by kernel_rfl
  have hsl : ∀ W : World, (Instr.sliceAt 58 (.pointer (some ⟨B, 4, none⟩)) none (some (.int .i64 (k : Int))) none).run Tryd.prog W = .ok (.slice (some ⟨B, 4, none⟩) k 64) W := fun W => by
    rw [run_sliceAt_array_h W 58 ⟨B, 4, none⟩ (by kernel_rfl) .i64 (k : Int) (by omega) (by rw [hal]; omega), hal]
    rfl
  have hR : Reads w w.heap.size 1 (some ⟨B, 4, none⟩) k (numsM ((List.range k).map O.dn)) := by
    refine ⟨by rw [numsM_len]; simp, fun _ => ⟨_, rfl, h.lt, fun j u hu => ?_⟩⟩
    unfold numsM at hu
    rw [List.map_map, List.getElem?_map] at hu
    by_cases hj : j < k
    · rw [List.getElem?_range hj] at hu
      injection hu with hu
      have hc : w.cell? ⟨B, 4 + j, none⟩ = (orC O D Z)[4 + j]? := cell_of_row w B (4 + j) _ _ _ h.blk
      rw [orC_get O D Z (by omega)] at hc
      rw [← hu]
      rw [show (⟨B, 4, none⟩ : Addr).add j = ⟨B, 4 + j, none⟩ from by unfold Addr.add; split <;> simp_all, hc]
      unfold orF
      rw [if_neg (by omega), if_neg (by omega), if_neg (by omega), if_neg (by omega), if_pos (by omega), Nat.add_sub_cancel_left]
      rfl
    · rw [List.getElem?_eq_none (by simp; omega)] at hu
      cases hu
  have hlen : ((List.range k).map O.dn).length = k := by simp
  have HC := Lib.hid (by have := clone32_any (some ⟨B, 4, none⟩) ((List.range k).map O.dn) 64 w (by rw [hlen]; exact hR) (by rw [hlen]; omega); rw [hlen] at this; exact this)
  rw [← hk]
  have HK := Lib.hid (And.intro hk hk64)
  clear h hR hlen hk hk64 hal
  go_enter Tryd.func28, Tryd.ntmps28
  go_wp2_with fail
  refine HC.out.mono ?_
  rintro e w2 ⟨⟨ad, cap, rfl, ho⟩, hb2⟩
  have ho2 : DonesE w O.dn k (.returned (.slice ad ((List.range k).map O.dn).length cap)) w2 := ⟨⟨ad, cap, rfl, ho⟩, hb2⟩
  rw [show ((List.range k).map O.dn).length = k from by simp] at ho2
  have HO := Lib.hid ho2
  clear ho hb2 ho2
  go_wp2_with fail
  go_ret
  exact HO.out
set_option maxRecDepth 100000 in
set_option maxHeartbeats 4000000 in
theorem rVectors_any (l : List Nat) (c1 c2 : Nat) (a1 a2 : Option Addr) (w : World) (h1 : Reads w w.heap.size 1 a1 l.length (numsM l)) (h2 : Reads w w.heap.size 1 a2 l.length (numsM l)) (hl : l.length ≤ 1000000) (ha1 : ∀ p, a1 = some p → p = ⟨p.block, p.off, none⟩) (ha2 : ∀ p, a2 = some p → p = ⟨p.block, p.off, none⟩) :
    Calls Tryd.prog 29 #[.slice a1 l.length c1, .slice a2 l.length c2] w fun e w' => e = .returned (.bool true) ∧ Below w.heap.size w w' := by
  obtain ⟨k, hk⟩ : ∃ k, k = l.length := ⟨_, rfl⟩
  have HL := Lib.hid hk
  have HA := Lib.hid (And.intro ha1 ha2)
  have H1 := Lib.hid h1
  have H2 := Lib.hid h2
  rw [← hk] at hl ⊢
  clear h1 h2 hk ha1 ha2
  go_enter Tryd.func29, Tryd.ntmps29
  go_wp2_with fail
  go_loopw [5] (fun i wr => ∃ j : Nat, j ≤ k ∧ i = .int .i64 (j : Int) ∧ Hid (Below w.heap.size w wr)) (fun i _ => k - (intOf i).toNat)
  case atStart => exact ⟨0, by omega, rfl, Lib.hid (br w)⟩
  case round =>
    obtain ⟨j, hj, rfl, HB⟩ := hrel
    by_cases hlt : j < k
    · have hbool : decide ((j : Int) < (k : Int)) = true := by simpa using hlt
      have hbool2 : decide (j < k) = true := by simpa using hlt
      have hi0 : (j : Int) < (k : Int) := by omega
      have hjl : j < l.length := by rw [← HL.out]; exact hlt
      have hx : (numsM l)[j]? = some (.int .u32 ((l[j] : Nat) : Int)) := by
        unfold numsM
        rw [List.getElem?_map, List.getElem?_eq_getElem hjl]
        rfl
      obtain ⟨p1, rfl, hp1, hr1⟩ := H1.out.2 (by omega)
      obtain ⟨p2, rfl, hp2, hr2⟩ := H2.out.2 (by omega)
      have hr1 := hr1 j _ hx
      have hr2 := hr2 j _ hx
      obtain ⟨g1, o1, m1⟩ := p1
      obtain ⟨g2, o2, m2⟩ := p2
      have e1 := HA.out.1 _ rfl
      have e2 := HA.out.2 _ rfl
      injection e1 with _ _ e1
      injection e2 with _ _ e2
      subst e1
      subst e2
      rw [addr_add] at hr1
      rw [addr_add] at hr2
      have y1 : ∀ y : Bel wr, y.val.cell? ⟨g1, o1 + j, none⟩ = some (.int .u32 ((l[j] : Nat) : Int)) := fun y => ((bt HB.out y.prop).cell (p := ⟨g1, o1 + j, none⟩) hp1).trans hr1
      have y2 : ∀ y : Bel wr, y.val.cell? ⟨g2, o2 + j, none⟩ = some (.int .u32 ((l[j] : Nat) : Int)) := fun y => ((bt HB.out y.prop).cell (p := ⟨g2, o2 + j, none⟩) hp2).trans hr2
      have HLT := Lib.hid hlt
      clear hr1 hr2 hp1 hp2 hx
      generalize l[j] = x at *
      clear hjl hj hlt
      go_upto_region 6 with (fail)
      refine wp_region_bel (by kernel_rfl) (by kernel_rfl) ?_
      repeat (go_big_quiet_step ((fail)))
      refine wpQuiet_nil ?_
      intro w3 hw3
      have HB3 := Lib.hid (bt HB.out (bel_out hw3))
      clear y1 y2 hw3 HB
      go_wp2_with fail
      exact ⟨⟨j + 1, HLT.out, by go_num, HB3⟩, by have := HLT.out; simp [intOf]; omega⟩
    · have hbool : decide ((j : Int) < (k : Int)) = false := by simpa using hlt
      have hbool2 : decide (j < k) = false := by simpa using hlt
      clear hlt hj
      go_wp2_with fail
      go_ret
      exact ⟨rfl, HB.out⟩
end Go.Proofs.YtgjlcjbmcnofiaaDoor
namespace Go.Proofs.YtgjlcjbmcnofiaaDoor
set_option linter.unusedVariables false
set_option linter.unusedSimpArgs false
open Go.RowKit
theorem tg_old (T : List Tld) (t : Tld) {i : Nat} (h : i < T.length) : tg (T ++ [t]) i = tg T i := by
  unfold tg
  simp [List.getElem?_append_left h]
theorem tg_new (T : List Tld) (t : Tld) : tg (T ++ [t]) T.length = t := by
  unfold tg
  simp
theorem cnt_other {T : List Tld} {t : Tld} {p : Int} (h : ¬ (t.p = p ∧ t.kind < 2)) {a : Nat} (ha : a < T.length) : cntR (T ++ [t]) p a ↔ cntR T p a := by
  unfold cntR hitR
  constructor
  · rintro ⟨i, hi, h1, h2, h3, h4⟩
    rw [List.length_append, List.length_singleton] at hi
    by_cases e : i = T.length
    · subst e
      rw [tg_new] at h2 h3
      exact absurd ⟨h2, h3⟩ h
    · have hi' : i < T.length := by omega
      rw [tg_old _ _ hi'] at h2 h3
      rw [tg_old _ _ ha, List.take_append_of_le_length (by omega)] at h4
      exact ⟨i, hi', h1, h2, h3, h4⟩
  · rintro ⟨i, hi, h1, h2, h3, h4⟩
    refine ⟨i, by simp; omega, h1, ?_, ?_, ?_⟩
    · rw [tg_old _ _ hi]; exact h2
    · rw [tg_old _ _ hi]; exact h3
    · rw [tg_old _ _ ha, List.take_append_of_le_length (by omega)]; exact h4
theorem cnt_mine {T : List Tld} {t : Tld} {p : Int} (h1 : t.p = p) (h2 : t.kind < 2) {a : Nat} (ha : a < T.length) : cntR (T ++ [t]) p a ↔ (cntR T p a ∨ (tg T a).seq ≤ cameR (T ++ [t]) p) := by
  unfold cntR hitR
  constructor
  · rintro ⟨i, hi, g1, g2, g3, g4⟩
    rw [List.length_append, List.length_singleton] at hi
    by_cases e : i = T.length
    · subst e
      right
      rw [tg_old _ _ ha, List.take_of_length_le (by simp)] at g4
      exact g4
    · have hi' : i < T.length := by omega
      rw [tg_old _ _ hi'] at g2 g3
      rw [tg_old _ _ ha, List.take_append_of_le_length (by omega)] at g4
      exact .inl ⟨i, hi', g1, g2, g3, g4⟩
  · rintro (⟨i, hi, g1, g2, g3, g4⟩ | h)
    · refine ⟨i, by simp; omega, g1, ?_, ?_, ?_⟩
      · rw [tg_old _ _ hi]; exact g2
      · rw [tg_old _ _ hi]; exact g3
      · rw [tg_old _ _ ha, List.take_append_of_le_length (by omega)]; exact g4
    · refine ⟨T.length, by simp, by omega, ?_, ?_, ?_⟩
      · rw [tg_new]; exact h1
      · rw [tg_new]; exact h2
      · rw [tg_old _ _ ha, List.take_of_length_le (by simp)]; exact h
theorem cnt_new {T : List Tld} {t : Tld} {p : Int} (h1 : t.p = p) (h2 : t.kind < 2) : cntR (T ++ [t]) p T.length ↔ t.seq ≤ cameR (T ++ [t]) p := by
  unfold cntR hitR
  constructor
  · rintro ⟨i, hi, g1, g2, g3, g4⟩
    rw [List.length_append, List.length_singleton] at hi
    obtain rfl : i = T.length := by omega
    rw [tg_new, List.take_of_length_le (by simp)] at g4
    exact g4
  · intro h
    refine ⟨T.length, by simp, Nat.le_refl _, ?_, ?_, ?_⟩
    · rw [tg_new]; exact h1
    · rw [tg_new]; exact h2
    · rw [tg_new, List.take_of_length_le (by simp)]; exact h
/-- what one member has told, and what is kept of it -/
structure PerP (T : List Tld) (p : Int) (hd rc cm : Nat) (wt : List (Nat × Nat)) : Prop where
  cm : cameR T p = cm
  hd : TopTo T (goodR T p) T.length hd
  rc : TopTo T (rchR T p) T.length rc
  wt : ∀ x : Nat × Nat, x ∈ wt ↔ ∃ i, i < T.length ∧ (tg T i).p = p ∧ (tg T i).kind = 1 ∧ ((tg T i).stamp, (tg T i).seq) = x ∧ ¬ cntR T p i
theorem PerP.nil (p : Int) : PerP [] p 0 0 0 [] := ⟨rfl, TopTo.zero _ _, TopTo.zero _ _, fun x => ⟨fun h => (by cases h), fun ⟨i, h, _⟩ => absurd h (by simp)⟩⟩
theorem TopTo.grow {T : List Tld} {t : Tld} {P Q : Nat → Prop} {x : Nat} (h : TopTo T P T.length x) (hPQ : ∀ i, i < T.length → (Q i ↔ P i)) (hn : ¬ Q T.length) : TopTo (T ++ [t]) Q (T ++ [t]).length x := by
  refine ⟨fun i hi hq => ?_, h.2.imp id fun ⟨i, hi, a, b⟩ => ⟨i, by simp; omega, (hPQ i hi).2 a, by rw [tg_old _ _ hi]; exact b⟩⟩
  rw [List.length_append, List.length_singleton] at hi
  by_cases e : i = T.length
  · subst e; exact absurd hq hn
  · have hi' : i < T.length := by omega
    rw [tg_old _ _ hi']
    exact h.1 i hi' ((hPQ i hi').1 hq)
/-- another's word, or one that counts for nothing here -/
theorem PerP.other {T : List Tld} {t : Tld} {p : Int} {hd rc cm : Nat} {wt : List (Nat × Nat)} (h : PerP T p hd rc cm wt) (hn : t.p ≠ p) : PerP (T ++ [t]) p hd rc cm wt := by
  have hc : ∀ {a : Nat}, a < T.length → (cntR (T ++ [t]) p a ↔ cntR T p a) := fun ha => cnt_other (fun h => hn h.1) ha
  refine ⟨?_, h.hd.grow (fun i hi => ?_) ?_, h.rc.grow (fun i hi => ?_) ?_, fun x => ?_⟩
  · rw [cameR_snoc, if_neg (fun h => hn h.1)]; exact h.cm
  · unfold goodR; rw [tg_old _ _ hi, hc hi]
  · unfold goodR; rw [tg_new]; exact fun h => hn h.1
  · unfold rchR; rw [tg_old _ _ hi]
  · unfold rchR; rw [tg_new]; exact fun h => hn h.1
  · rw [h.wt]
    constructor
    · rintro ⟨i, hi, g1, g2, g3, g4⟩
      exact ⟨i, by simp; omega, by rw [tg_old _ _ hi]; exact g1, by rw [tg_old _ _ hi]; exact g2, by rw [tg_old _ _ hi]; exact g3, fun h => g4 ((hc hi).1 h)⟩
    · rintro ⟨i, hi, g1, g2, g3, g4⟩
      rw [List.length_append, List.length_singleton] at hi
      by_cases e : i = T.length
      · subst e; rw [tg_new] at g1; exact absurd g1 hn
      · have hi' : i < T.length := by omega
        rw [tg_old _ _ hi'] at g1 g2 g3
        exact ⟨i, hi', g1, g2, g3, fun h => g4 ((hc hi').2 h)⟩
/-- it has reached a stamp -/
theorem PerP.reached {T : List Tld} {t : Tld} {p : Int} {hd rc cm : Nat} {wt : List (Nat × Nat)} (h : PerP T p hd rc cm wt) (hp : t.p = p) (hk : t.kind = 2) : PerP (T ++ [t]) p hd (max rc t.stamp) cm wt := by
  have hc : ∀ {a : Nat}, a < T.length → (cntR (T ++ [t]) p a ↔ cntR T p a) := fun ha => cnt_other (fun h => by have := h.2; omega) ha
  refine ⟨?_, h.hd.grow (fun i hi => ?_) ?_, ⟨fun i hi hq => ?_, ?_⟩, fun x => ?_⟩
  · rw [cameR_snoc, if_neg (fun h => by have := h.2; omega)]; exact h.cm
  · unfold goodR; rw [tg_old _ _ hi, hc hi]
  · unfold goodR; rw [tg_new]; exact fun h => h.2.1 hk
  · rw [List.length_append, List.length_singleton] at hi
    by_cases e : i = T.length
    · subst e; rw [tg_new]; omega
    · have hi' : i < T.length := by omega
      unfold rchR at hq
      rw [tg_old _ _ hi'] at hq ⊢
      have := h.rc.1 i hi' hq
      omega
  · by_cases hle : t.stamp ≤ rc
    · rw [Nat.max_eq_left hle]
      refine h.rc.2.imp id fun ⟨i, hi, a, b⟩ => ⟨i, by simp; omega, ?_, by rw [tg_old _ _ hi]; exact b⟩
      unfold rchR
      rw [tg_old _ _ hi]
      exact a
    · rw [Nat.max_eq_right (by omega)]
      exact .inr ⟨T.length, by simp, by unfold rchR; rw [tg_new]; exact ⟨hp, hk⟩, by rw [tg_new]⟩
  · rw [h.wt]
    constructor
    · rintro ⟨i, hi, g1, g2, g3, g4⟩
      exact ⟨i, by simp; omega, by rw [tg_old _ _ hi]; exact g1, by rw [tg_old _ _ hi]; exact g2, by rw [tg_old _ _ hi]; exact g3, fun h => g4 ((hc hi).1 h)⟩
    · rintro ⟨i, hi, g1, g2, g3, g4⟩
      rw [List.length_append, List.length_singleton] at hi
      by_cases e : i = T.length
      · subst e; rw [tg_new] at g2; omega
      · have hi' : i < T.length := by omega
        rw [tg_old _ _ hi'] at g1 g2 g3
        exact ⟨i, hi', g1, g2, g3, fun h => g4 ((hc hi').2 h)⟩
def askF (cm : Nat) (l : List (Nat × Nat)) (hd : Nat) : Nat := l.foldl (fun hd x => if x.2 ≤ cm then max hd x.1 else hd) hd
theorem askF_spec (cm : Nat) : ∀ (l : List (Nat × Nat)) (hd : Nat), hd ≤ askF cm l hd ∧ (∀ x ∈ l, x.2 ≤ cm → x.1 ≤ askF cm l hd) ∧ (askF cm l hd = hd ∨ ∃ x ∈ l, x.2 ≤ cm ∧ askF cm l hd = x.1)
  | [], hd => ⟨Nat.le_refl _, fun x hx => (by cases hx), .inl rfl⟩
  | y :: l, hd => by
    obtain ⟨h1, h2, h3⟩ := askF_spec cm l (if y.2 ≤ cm then max hd y.1 else hd)
    have e : askF cm (y :: l) hd = askF cm l (if y.2 ≤ cm then max hd y.1 else hd) := rfl
    rw [e]
    refine ⟨?_, ?_, ?_⟩
    · refine Nat.le_trans ?_ h1
      split <;> omega
    · intro x hx hle
      rcases List.mem_cons.1 hx with rfl | hx
      · refine Nat.le_trans ?_ h1
        rw [if_pos hle]
        omega
      · exact h2 x hx hle
    · rcases h3 with h3 | ⟨x, hx, a, b⟩
      · rw [h3]
        by_cases hy : y.2 ≤ cm
        · rw [if_pos hy]
          by_cases hm : y.1 ≤ hd
          · exact .inl (Nat.max_eq_left hm)
          · exact .inr ⟨y, List.mem_cons_self, hy, Nat.max_eq_right (by omega)⟩
        · rw [if_neg hy]
          exact .inl rfl
      · exact .inr ⟨x, List.mem_cons_of_mem _ hx, a, b⟩
def KindOk (T : List Tld) : Prop := ∀ t ∈ T, t.kind = 0 ∨ t.kind = 1 ∨ t.kind = 2
theorem KindOk.tg {T : List Tld} (h : KindOk T) {i : Nat} (hi : i < T.length) : (tg T i).kind = 0 ∨ (tg T i).kind = 1 ∨ (tg T i).kind = 2 := by
  rw [tg_get hi]
  exact h _ (List.getElem_mem hi)
theorem KindOk.snoc {T : List Tld} (h : KindOk T) {t : Tld} (ht : t.kind = 0 ∨ t.kind = 1 ∨ t.kind = 2) : KindOk (T ++ [t]) := fun u hu => by
  rcases List.mem_append.1 hu with hu | hu
  · exact h u hu
  · rw [List.mem_singleton.1 hu]; exact ht
def cmT (t : Tld) (cm : Nat) : Nat := if t.kind = 0 then t.seq else cm
def hdT (t : Tld) (hd : Nat) : Nat := if t.kind = 0 then max hd t.stamp else hd
def wtT (t : Tld) (wt : List (Nat × Nat)) : List (Nat × Nat) := if t.kind = 0 then wt else wt ++ [(t.stamp, t.seq)]
/-- a message came, or a promise -/
theorem PerP.mine {T : List Tld} {t : Tld} {p : Int} {hd rc cm : Nat} {wt : List (Nat × Nat)} (h : PerP T p hd rc cm wt) (hK : KindOk T) (hp : t.p = p) (hk : t.kind = 0 ∨ t.kind = 1) :
    PerP (T ++ [t]) p (askF (cmT t cm) (wtT t wt) (hdT t hd)) rc (cmT t cm) ((wtT t wt).filter fun x => !decide (x.2 ≤ cmT t cm)) := by
  have h2 : t.kind < 2 := by omega
  have hcm : cameR (T ++ [t]) p = cmT t cm := by
    rw [cameR_snoc, h.cm]
    unfold cmT
    by_cases e : t.kind = 0
    · rw [if_pos ⟨hp, e⟩, if_pos e]
    · rw [if_neg (fun h => e h.2), if_neg e]
  have hold : ∀ {a : Nat}, a < T.length → (cntR (T ++ [t]) p a ↔ (cntR T p a ∨ (Go.Proofs.YtgjlcjbmcnofiaaDoor.tg T a).seq ≤ cmT t cm)) := fun ha => by rw [← hcm]; exact cnt_mine hp h2 ha
  have hnew : cntR (T ++ [t]) p T.length ↔ t.seq ≤ cmT t cm := by rw [← hcm]; exact cnt_new hp h2
  obtain ⟨a1, a2, a3⟩ := askF_spec (cmT t cm) (wtT t wt) (hdT t hd)
  have hdle : hd ≤ hdT t hd := by unfold hdT; split <;> omega
  have hsub : ∀ x ∈ wt, x ∈ wtT t wt := fun x hx => by unfold wtT; split; exact hx; exact List.mem_append_left _ hx
  have hmem : ∀ x, x ∈ wtT t wt ↔ (x ∈ wt ∨ (t.kind = 1 ∧ x = (t.stamp, t.seq))) := fun x => by
    unfold wtT
    by_cases e : t.kind = 0
    · rw [if_pos e]
      exact ⟨.inl, fun h => h.resolve_right (fun g => by have := g.1; omega)⟩
    · rw [if_neg e, List.mem_append, List.mem_singleton]
      exact ⟨fun h => h.imp id fun g => ⟨by omega, g⟩, fun h => h.imp id fun g => g.2⟩
  have hgold : ∀ i, i < T.length → goodR T p i → goodR (T ++ [t]) p i := fun i hi hg => by
    unfold goodR at hg ⊢
    rw [tg_old _ _ hi]
    exact ⟨hg.1, hg.2.1, hg.2.2.imp id fun g => (hold hi).2 (.inl g)⟩
  refine ⟨hcm, ⟨fun i hi hq => ?_, ?_⟩, h.rc.grow (fun i hi => ?_) ?_, fun x => ?_⟩
  · rw [List.length_append, List.length_singleton] at hi
    by_cases e : i = T.length
    · subst e
      unfold goodR at hq
      rw [tg_new] at hq ⊢
      rcases hk with hk | hk
      · refine Nat.le_trans ?_ a1
        unfold hdT
        rw [if_pos hk]
        omega
      · have hc := hnew.1 (hq.2.2.resolve_left (by omega))
        exact a2 (t.stamp, t.seq) ((hmem _).2 (.inr ⟨hk, rfl⟩)) hc
    · have hi' : i < T.length := by omega
      unfold goodR at hq
      rw [tg_old _ _ hi'] at hq ⊢
      by_cases hg : goodR T p i
      · exact Nat.le_trans (Nat.le_trans (h.hd.1 i hi' hg) hdle) a1
      · have hk1 : (Go.Proofs.YtgjlcjbmcnofiaaDoor.tg T i).kind = 1 := by
          rcases hK.tg hi' with e0 | e1 | e2
          · exact absurd ⟨hq.1, hq.2.1, .inl e0⟩ hg
          · exact e1
          · exact absurd e2 hq.2.1
        have hnc : ¬ cntR T p i := fun hc => hg ⟨hq.1, hq.2.1, .inr hc⟩
        have hs := ((hold hi').1 (hq.2.2.resolve_left (by omega))).resolve_left hnc
        exact a2 ((Go.Proofs.YtgjlcjbmcnofiaaDoor.tg T i).stamp, (Go.Proofs.YtgjlcjbmcnofiaaDoor.tg T i).seq) (hsub _ ((h.wt _).2 ⟨i, hi', hq.1, hk1, rfl, hnc⟩)) hs
  · rcases a3 with a3 | ⟨x, hx, b1, b2⟩
    · rw [a3]
      have hkeep : hd = 0 ∨ ∃ i, i < (T ++ [t]).length ∧ goodR (T ++ [t]) p i ∧ (Go.Proofs.YtgjlcjbmcnofiaaDoor.tg (T ++ [t]) i).stamp = hd :=
        h.hd.2.imp id fun ⟨i, hi, g1, g2⟩ => ⟨i, by simp; omega, hgold i hi g1, by rw [tg_old _ _ hi]; exact g2⟩
      by_cases hk0 : t.kind = 0
      · unfold hdT
        rw [if_pos hk0]
        by_cases hle : t.stamp ≤ hd
        · rw [Nat.max_eq_left hle]; exact hkeep
        · rw [Nat.max_eq_right (by omega)]
          refine .inr ⟨T.length, by simp, ?_, by rw [tg_new]⟩
          unfold goodR
          rw [tg_new]
          exact ⟨hp, by omega, .inl hk0⟩
      · unfold hdT
        rw [if_neg hk0]
        exact hkeep
    · rw [b2]
      right
      rcases (hmem x).1 hx with hw | ⟨hk1, rfl⟩
      · obtain ⟨i, hi, g1, g2, g3, g4⟩ := (h.wt x).1 hw
        subst g3
        refine ⟨i, by simp; omega, ?_, by rw [tg_old _ _ hi]⟩
        unfold goodR
        rw [tg_old _ _ hi]
        exact ⟨g1, by omega, .inr ((hold hi).2 (.inr b1))⟩
      · refine ⟨T.length, by simp, ?_, by rw [tg_new]⟩
        unfold goodR
        rw [tg_new]
        exact ⟨hp, by omega, .inr (hnew.2 b1)⟩
  · unfold rchR; rw [tg_old _ _ hi]
  · unfold rchR; rw [tg_new]; exact fun h => by have := h.2; omega
  · rw [List.mem_filter, hmem]
    constructor
    · rintro ⟨hw | ⟨hk1, rfl⟩, hc⟩
      · obtain ⟨i, hi, g1, g2, g3, g4⟩ := (h.wt x).1 hw
        subst g3
        have hc' : ¬ (Go.Proofs.YtgjlcjbmcnofiaaDoor.tg T i).seq ≤ cmT t cm := by simpa using hc
        exact ⟨i, by simp; omega, by rw [tg_old _ _ hi]; exact g1, by rw [tg_old _ _ hi]; exact g2, by rw [tg_old _ _ hi], fun hh => ((hold hi).1 hh).elim g4 hc'⟩
      · have hc' : ¬ t.seq ≤ cmT t cm := by simpa using hc
        exact ⟨T.length, by simp, by rw [tg_new]; exact hp, by rw [tg_new]; exact hk1, by rw [tg_new], fun hh => hc' (hnew.1 hh)⟩
    · rintro ⟨i, hi, g1, g2, g3, g4⟩
      rw [List.length_append, List.length_singleton] at hi
      by_cases e : i = T.length
      · subst e
        rw [tg_new] at g2 g3
        subst g3
        exact ⟨.inr ⟨g2, rfl⟩, by have : ¬ t.seq ≤ cmT t cm := fun hh => g4 (hnew.2 hh); simpa using this⟩
      · have hi' : i < T.length := by omega
        rw [tg_old _ _ hi'] at g1 g2 g3
        subst g3
        have hno : ¬ cntR T p i := fun hh => g4 ((hold hi').2 (.inl hh))
        refine ⟨.inl ((h.wt _).2 ⟨i, hi', g1, g2, rfl, hno⟩), ?_⟩
        have : ¬ (Go.Proofs.YtgjlcjbmcnofiaaDoor.tg T i).seq ≤ cmT t cm := fun hh => g4 ((hold hi').2 (.inr hh))
        simpa using this
end Go.Proofs.YtgjlcjbmcnofiaaDoor
namespace Go.Proofs.YtgjlcjbmcnofiaaDoor
set_option linter.unusedVariables false
set_option linter.unusedSimpArgs false
open Go.RowKit
theorem askH_hd (H : HZ) (p : Nat) (x : Nat × Nat) : (askH H p x).hd p = (if x.2 ≤ H.cm p then max (H.hd p) x.1 else H.hd p) ∧ (∀ q, q ≠ p → (askH H p x).hd q = H.hd q) ∧ (askH H p x).c = H.c ∧ (askH H p x).o = H.o ∧ (askH H p x).rc = H.rc := by
  unfold askH HZ.setHd
  split
  · exact ⟨upd_same _ _ _, fun q hq => upd_ne _ _ hq, rfl, rfl, rfl⟩
  · exact ⟨rfl, fun q hq => rfl, rfl, rfl, rfl⟩
theorem askL_hd : ∀ (l : List (Nat × Nat)) (H : HZ) (p : Nat), (askL H p l).hd p = askF (H.cm p) l (H.hd p) ∧ (∀ q, q ≠ p → (askL H p l).hd q = H.hd q) ∧ (askL H p l).c = H.c ∧ (askL H p l).o = H.o ∧ (askL H p l).rc = H.rc
  | [], H, p => ⟨rfl, fun q hq => rfl, rfl, rfl, rfl⟩
  | x :: l, H, p => by
    obtain ⟨a1, a2, a3, a4, a5⟩ := askL_hd l (askH H p x) p
    obtain ⟨b1, b2, b3, b4, b5⟩ := askH_hd H p x
    have e : askL H p (x :: l) = askL (askH H p x) p l := rfl
    rw [e]
    refine ⟨?_, fun q hq => (a2 q hq).trans (b2 q hq), a3.trans b3, a4.trans b4, a5.trans b5⟩
    rw [a1, b1, (askH_cm H p x).1]
    rfl
theorem count_is (H : HZ) (p : Nat) : (H.count p).hd p = askF (H.cm p) (H.wt p) (H.hd p) ∧ (∀ q, q ≠ p → (H.count p).hd q = H.hd q) ∧ (H.count p).c = H.c ∧ (H.count p).o = H.o ∧ (H.count p).rc = H.rc ∧ (H.count p).cm = H.cm ∧ (H.count p).wt p = (H.wt p).filter (fun x => !decide (x.2 ≤ H.cm p)) ∧ (∀ q, q ≠ p → (H.count p).wt q = H.wt q) := by
  obtain ⟨a1, a2, a3, a4, a5⟩ := askL_hd (H.wt p) H p
  obtain ⟨b1, b2⟩ := askL_cm (H.wt p) H p
  unfold HZ.count HZ.setWt
  exact ⟨a1, a2, a3, a4, a5, b1, upd_same _ _ _, fun q hq => (upd_ne _ _ hq).trans (by rw [b2])⟩
/-- the reference's horizon reads as this one -/
structure RefZ (T : List Tld) (oth : Nat → Bool) (c : Nat) (H : HZ) : Prop where
  c : H.c = c
  o : ∀ p : Nat, p < 64 → oth p = hasS H.o (p : Int)
  kd : KindOk T
  per : ∀ p : Nat, p < 64 → oth p = true → PerP T (p : Int) (H.hd p) (H.rc p) (H.cm p) (H.wt p)
theorem RefZ.tell {T : List Tld} {oth : Nat → Bool} {c : Nat} {H : HZ} (h : RefZ T oth c H) (t : Tld) : tellB oth t ↔ hasS H.o t.p = true := by
  unfold tellB
  constructor
  · rintro ⟨h1, h2, h3⟩
    obtain ⟨q, hq⟩ := Int.eq_ofNat_of_zero_le h1
    rw [hq, Int.toNat_natCast, h.o q (by omega)] at h3
    rw [hq]
    exact h3
  · intro hh
    have hr : 0 ≤ t.p ∧ t.p < 64 := by
      unfold hasS at hh
      simp only [Bool.and_eq_true, decide_eq_true_eq] at hh
      exact hh.1
    obtain ⟨q, hq⟩ := Int.eq_ofNat_of_zero_le hr.1
    refine ⟨hr.1, hr.2, ?_⟩
    rw [hq, Int.toNat_natCast, h.o q (by omega), ← hq]
    exact hh
theorem RefZ.ask {T : List Tld} {oth : Nat → Bool} {c : Nat} {H H' : HZ} (h : RefZ T oth c H) {t : Tld} (hb : tellB oth t) (hk : t.kind = 0 ∨ t.kind = 1)
    (e : H' = (((H.setC (max H.c t.stamp)).setCm t.p.toNat (cmT t (H.cm t.p.toNat))).setHd t.p.toNat (hdT t (H.hd t.p.toNat))).setWt t.p.toNat (wtT t (H.wt t.p.toNat))) : RefZ (T ++ [t]) oth (tellC c t) (H'.count t.p.toNat) := by
  obtain ⟨q, hq⟩ := Int.eq_ofNat_of_zero_le hb.1
  have hq64 : q < 64 := by have := hb.2.1; omega
  have ho := hb.2.2
  rw [hq, Int.toNat_natCast] at e ho ⊢
  obtain ⟨a1, a2, a3, a4, a5, a6, a7, a8⟩ := count_is H' q
  have e1 : H'.c = max H.c t.stamp ∧ H'.o = H.o ∧ H'.rc = H.rc ∧ H'.cm = upd H.cm q (cmT t (H.cm q)) ∧ H'.hd = upd H.hd q (hdT t (H.hd q)) ∧ H'.wt = upd H.wt q (wtT t (H.wt q)) := by
    rw [e]; exact ⟨rfl, rfl, rfl, rfl, rfl, rfl⟩
  obtain ⟨c1, c2, c3, c4, c5, c6⟩ := e1
  refine ⟨?_, fun p hp => by rw [a4, c2]; exact h.o p hp, h.kd.snoc (hk.imp id .inl), fun p hp hop => ?_⟩
  · rw [a3, c1, h.c]
    unfold tellC
    by_cases hl : c < t.stamp
    · rw [if_pos ⟨by omega, hl⟩]; omega
    · rw [if_neg (fun g => hl g.2)]; omega
  · have hpp := h.per p hp hop
    by_cases epq : p = q
    · subst epq
      rw [a1, a5, a6, a7, c3, c4, c5, c6, upd_same, upd_same, upd_same]
      exact hpp.mine h.kd hq hk
    · rw [a2 p epq, a5, a6, a8 p epq, c3, c4, c5, c6, upd_ne _ _ epq, upd_ne _ _ epq, upd_ne _ _ epq]
      exact hpp.other (by rw [hq]; omega)
theorem setWt_self (H : HZ) (p : Nat) : H.setWt p (H.wt p) = H := by
  unfold HZ.setWt
  have : upd H.wt p (H.wt p) = H.wt := by
    funext q
    by_cases e : q = p
    · subst e; rw [upd_same]
    · rw [upd_ne _ _ e]
  rw [this]
theorem setHd_self (H : HZ) (p : Nat) : H.setHd p (H.hd p) = H := by
  unfold HZ.setHd
  have : upd H.hd p (H.hd p) = H.hd := by
    funext q
    by_cases e : q = p
    · subst e; rw [upd_same]
    · rw [upd_ne _ _ e]
  rw [this]
theorem setCm_self (H : HZ) (p : Nat) : H.setCm p (H.cm p) = H := by
  unfold HZ.setCm
  have : upd H.cm p (H.cm p) = H.cm := by
    funext q
    by_cases e : q = p
    · subst e; rw [upd_same]
    · rw [upd_ne _ _ e]
  rw [this]
theorem RefZ.came {T : List Tld} {oth : Nat → Bool} {c : Nat} {H : HZ} (h : RefZ T oth c H) (p : Int) (seq s : Nat) (hb : tellB oth ⟨0, p, seq, s⟩) : RefZ (T ++ [⟨0, p, seq, s⟩]) oth (tellC c ⟨0, p, seq, s⟩) (H.came p seq s) := by
  have hh := (h.tell _).1 hb
  unfold HZ.came
  rw [if_pos hh]
  refine h.ask hb (.inl rfl) ?_
  exact (setWt_self (((H.setC (max H.c s)).setCm p.toNat seq).setHd p.toNat (max (H.hd p.toNat) s)) p.toNat).symm
theorem RefZ.promise {T : List Tld} {oth : Nat → Bool} {c : Nat} {H : HZ} (h : RefZ T oth c H) (p : Int) (s sent : Nat) (hb : tellB oth ⟨1, p, sent, s⟩) : RefZ (T ++ [⟨1, p, sent, s⟩]) oth (tellC c ⟨1, p, sent, s⟩) (H.promise p s sent) := by
  have hh := (h.tell _).1 hb
  unfold HZ.promise
  rw [if_pos hh]
  refine h.ask hb (.inr rfl) ?_
  have e1 := setCm_self (H.setC (max H.c s)) p.toNat
  have e2 := setHd_self (H.setC (max H.c s)) p.toNat
  show (H.setC (max H.c s)).setWt p.toNat (H.wt p.toNat ++ [(s, sent)]) = (((H.setC (max H.c s)).setCm p.toNat (H.cm p.toNat)).setHd p.toNat (H.hd p.toNat)).setWt p.toNat (H.wt p.toNat ++ [(s, sent)])
  rw [show (H.setC (max H.c s)).setCm p.toNat (H.cm p.toNat) = H.setC (max H.c s) from e1, show (H.setC (max H.c s)).setHd p.toNat (H.hd p.toNat) = H.setC (max H.c s) from e2]
theorem RefZ.reached {T : List Tld} {oth : Nat → Bool} {c : Nat} {H : HZ} (h : RefZ T oth c H) (p : Int) (seq s : Nat) (hb : tellB oth ⟨2, p, seq, s⟩) : RefZ (T ++ [⟨2, p, seq, s⟩]) oth (tellC c ⟨2, p, seq, s⟩) (H.reached p s) := by
  have hh := (h.tell _).1 hb
  unfold HZ.reached HZ.setRc
  rw [if_pos hh]
  obtain ⟨q, hq⟩ := Int.eq_ofNat_of_zero_le hb.1
  have hq : p = (q : Int) := hq
  subst hq
  refine ⟨by rw [show tellC c ⟨2, (q : Int), seq, s⟩ = c from by unfold tellC; rw [if_neg (fun g => absurd (show (2 : Int) < 2 from g.1) (by decide))]]; exact h.c, h.o, h.kd.snoc (.inr (.inr rfl)), fun r hr hor => ?_⟩
  have hpp := h.per r hr hor
  by_cases e : r = q
  · subst e
    show PerP _ _ _ (upd H.rc ((r : Int).toNat) _ r) _ _
    rw [Int.toNat_natCast, upd_same]
    exact hpp.reached rfl rfl
  · show PerP _ _ _ (upd H.rc ((q : Int).toNat) _ r) _ _
    rw [Int.toNat_natCast, upd_ne _ _ e]
    exact hpp.other (show (q : Int) ≠ r from by omega)
/-- a word that no one heeds -/
theorem RefZ.deaf {T : List Tld} {oth : Nat → Bool} {c : Nat} {H : HZ} (h : RefZ T oth c H) (p : Int) (hb : ¬ hasS H.o p = true) (seq s : Nat) : H.came p seq s = H ∧ H.promise p s seq = H ∧ H.reached p s = H := by
  unfold HZ.came HZ.promise HZ.reached
  rw [if_neg hb, if_neg hb, if_neg hb]
  exact ⟨rfl, rfl, rfl⟩
theorem RefZ.setC {T : List Tld} {oth : Nat → Bool} {c : Nat} {H : HZ} (h : RefZ T oth c H) (s : Nat) : RefZ T oth (if c < s then s else c) (H.setC (max H.c s)) := by
  refine ⟨?_, h.o, h.kd, h.per⟩
  show max H.c s = _
  rw [h.c]
  split <;> omega
theorem lowOf_R (f : Nat → Nat) (oth : Nat → Bool) (o : Nat) (ho : ∀ p : Nat, p < 64 → oth p = hasS o (p : Int)) (c : Nat) : lowOf f (listS o) c = lowR f oth 64 c := by
  have key : ∀ k, k ≤ 64 → lowOf f ((List.range k).filter fun p => o.testBit p) c = lowR f oth k c := by
    intro k
    induction k with
    | zero => intro _; rfl
    | succ k ih =>
      intro hk
      have hb : oth k = o.testBit k := by
        rw [ho k (by omega)]
        unfold hasS
        rw [Int.toNat_natCast]
        have : decide (0 ≤ (k : Int) ∧ (k : Int) < 64) = true := by simp; omega
        rw [this, Bool.true_and]
      rw [lowR_succ, ← ih (by omega), List.range_succ, List.filter_append]
      unfold lowOf
      rw [List.foldl_append, hb]
      cases ht : o.testBit k with
      | false => simp [ht]
      | true =>
        simp only [List.filter_cons, ht, List.filter_nil, if_true, List.foldl_cons, List.foldl_nil, true_and]
        split <;> omega
  exact key 64 (Nat.le_refl _)
theorem RefZ.all {T : List Tld} {oth : Nat → Bool} {c : Nat} {H : HZ} (h : RefZ T oth c H) : H.all = lowR H.hd oth 64 c := by
  unfold HZ.all
  rw [lowOf_R H.hd oth H.o h.o, h.c]
theorem RefZ.safe {T : List Tld} {oth : Nat → Bool} {c : Nat} {H : HZ} (h : RefZ T oth c H) : H.safe = lowR H.rc oth 64 (lowR H.hd oth 64 c) := by
  unfold HZ.safe
  rw [lowOf_R H.rc oth H.o h.o, h.all]
theorem RefZ.tops {T : List Tld} {oth : Nat → Bool} {c : Nat} {H : HZ} (h : RefZ T oth c H) : (∀ p : Nat, p < 64 → oth p = true → TopTo T (goodR T (p : Int)) T.length (H.hd p)) ∧ (∀ p : Nat, p < 64 → oth p = true → TopTo T (rchR T (p : Int)) T.length (H.rc p)) :=
  ⟨fun p hp ho => (h.per p hp ho).hd, fun p hp ho => (h.per p hp ho).rc⟩
end Go.Proofs.YtgjlcjbmcnofiaaDoor
namespace Go.Proofs.YtgjlcjbmcnofiaaDoor
set_option linter.unusedVariables false
set_option linter.unusedSimpArgs false
open Go.RowKit
theorem lessB_ltB (m c : Msg) : lessB m c = ltB m.stamp m.frm c.stamp c.frm := by
  rw [Bool.eq_iff_iff, ltB_iff]
  unfold lessB
  rw [decide_eq_true_iff]
  rcases keyZ_vals (m.stamp : Int) m.frm (c.stamp : Int) c.frm with ⟨h, g⟩ | ⟨h, g1, g2⟩ | ⟨h, g⟩
  · rw [h]
    exact ⟨fun _ => g, fun _ => by decide⟩
  · rw [h, g1, g2]
    unfold keyLt
    simp
  · rw [h]
    unfold keyLt at g ⊢
    simp only at g ⊢
    omega
theorem filter_coreR {f g : Msg → Bool} : ∀ {L K : List Msg}, L.map core = K.map core → (∀ a b, core a = core b → f a = g b) → (L.filter f).map core = (K.filter g).map core
  | [], [], _, _ => rfl
  | x :: L, y :: K, h, hf => by
    simp only [List.map_cons, List.cons.injEq] at h
    have := filter_coreR h.2 hf
    rw [List.filter_cons, List.filter_cons, hf _ _ h.1]
    split <;> simp [this, h.1]
  | [], y :: K, h, _ => by cases h
  | x :: L, [], h, _ => by cases h
structure RefO (S : RO) (O : PO) : Prop where
  me : S.me = O.me
  mb : S.mb = O.mb
  lo : S.lo = O.lo
  h : RefH S.A O.lo O.R
  z : RefZ S.T S.oth S.c O.H
  dn : S.dn = O.dn
  ls : S.ls = O.ls
  lf : S.lf = O.lf
theorem RefO.takeC {S : RO} {O : PO} (h : RefO S O) (m : Msg) : takeRC S m = takeZ O m := by
  unfold takeRC takeZ
  rw [h.mb, h.h.putA]
/-- a word is told -/
theorem RefO.tell {S : RO} {O : PO} (h : RefO S O) (t : Tld) (H' : HZ) (hy : tellB S.oth t → RefZ (S.T ++ [t]) S.oth (tellC S.c t) H') (hn : ¬ hasS O.H.o t.p = true → H' = O.H) : RefO (tellRO S t) { O with H := H' } := by
  unfold tellRO
  by_cases hb : tellB S.oth t
  · rw [if_pos hb]
    exact ⟨h.me, h.mb, h.lo, h.h, hy hb, h.dn, h.ls, h.lf⟩
  · rw [if_neg hb]
    rw [hn (fun hh => hb ((h.z.tell t).2 hh))]
    exact h
theorem RefO.promise {S : RO} {O : PO} (h : RefO S O) (p : Int) (s seq : Nat) : RefO (tellRO S ⟨1, p, seq, s⟩) { O with H := O.H.promise p s seq } :=
  h.tell _ _ (fun hb => h.z.promise p s seq hb) (fun hn => (h.z.deaf p hn seq s).2.1)
theorem RefO.reached {S : RO} {O : PO} (h : RefO S O) (p : Int) (s seq : Nat) : RefO (tellRO S ⟨2, p, seq, s⟩) { O with H := O.H.reached p s } :=
  h.tell _ _ (fun hb => h.z.reached p seq s hb) (fun hn => (h.z.deaf p hn seq s).2.2)
theorem RefO.take {S : RO} {O : PO} (h : RefO S O) (m m' : Msg) (hz : takeZ O m = 0) (hc : core m' = core m) : RefO (takeRO S m) (O.take m m') := by
  have hh : hasS S.mb m.frm = true ∧ putA S.A m = 0 := by
    rw [h.mb, h.h.putA]
    unfold takeZ at hz
    by_cases g : hasS O.mb m.frm = true
    · rw [if_pos g] at hz; exact ⟨g, hz⟩
    · rw [if_neg g] at hz; cases hz
  have hp : putK O.lo O.R m = 0 := by rw [← h.h.putA]; exact hh.2
  have hput := h.h.put hp hc
  have h1 : RefO { S with A := S.A ++ [m] } { O with R := upd O.R m.frm.toNat (O.R m.frm.toNat ++ [m']) } := ⟨h.me, h.mb, h.lo, hput, h.z, h.dn, h.ls, h.lf⟩
  unfold takeRO PO.take
  rw [if_pos hh]
  by_cases hm : m.frm = O.me
  · have hms : m.frm = S.me := by rw [h.me]; exact hm
    rw [if_neg (fun g => g hms), if_pos hm]
    exact ⟨h.me, h.mb, h.lo, hput, h.z.setC m.stamp, h.dn, h.ls, h.lf⟩
  · have hms : m.frm ≠ S.me := by rw [h.me]; exact hm
    rw [if_pos hms, if_neg hm]
    have := h1.tell ⟨0, m.frm, m.seq, m.stamp⟩ (O.H.came m.frm m.seq m.stamp) (fun hb => h.z.came m.frm m.seq m.stamp hb) (fun hn => (h.z.deaf m.frm hn m.seq m.stamp).1)
    exact this
theorem RefO.same {S : RO} {O : PO} (h : RefO S O) (m : Msg) (hz : takeZ O m ≠ 0) : takeRO S m = S := by
  unfold takeRO
  rw [if_neg]
  rintro ⟨h1, h2⟩
  apply hz
  unfold takeZ
  rw [← h.mb, if_pos h1, ← h.h.putA]
  exact h2
theorem RefO.trim {S : RO} {O : PO} (h : RefO S O) (p : Int) (u : Nat) : RefO (trimR S p u) (O.trim p u) := by
  unfold trimR PO.trim
  by_cases hp : 0 ≤ p ∧ p < 64
  · rw [if_pos hp]
    have hd : doneZ O p = S.dn p.toNat := by unfold doneZ; rw [if_pos hp, h.dn]
    rw [hd]
    exact ⟨h.me, h.mb, by rw [h.lo]; exact h.h.dropA p _, h.h.drop p _, h.z, h.dn, h.ls, h.lf⟩
  · rw [if_neg hp]
    have hb : procB p = false := by
      cases e : procB p with
      | false => rfl
      | true => exact absurd (procB_iff.1 e) hp
    have hc : dropC O.lo O.R p (min u (doneZ O p)) = false := by
      unfold dropC
      rw [hb]
      rfl
    have e1 : dropLo O.lo O.R p (min u (doneZ O p)) = O.lo := by unfold dropLo; rw [hc]; rfl
    have e2 : dropR O.lo O.R p (min u (doneZ O p)) = O.R := by unfold dropR; rw [hc]; rfl
    rw [e1, e2]
    exact h
theorem RefO.rest {S : RO} {O : PO} (h : RefO S O) : (restR S).map core = O.rest.map core := by
  unfold restR PO.rest
  rw [h.lo]
  refine (filter_coreR (h.h.sorted 0 (-1)) fun a b e => ?_)
  unfold restB doneB
  rw [h.dn]
  have := core_iff.1 e
  rw [this.1, this.2.1]
  by_cases g : O.dn b.frm.toNat < b.seq
  · simp [g]
  · simp [g]; omega
theorem RefO.zero (me : Int) (mb : Nat) : RefO (ro0 me mb) (po0 me mb) := by
  refine ⟨rfl, rfl, rfl, RefH.zero, ⟨rfl, fun p hp => ?_, fun t ht => (by cases ht), fun p hp ho => PerP.nil _⟩, rfl, rfl, rfl⟩
  show othK me mb 64 p = hasS (butS mb (oneS me)) (p : Int)
  rw [hasS_less]
  unfold othK othR hasS
  have e1 : decide (p < 64) = true := by simpa using hp
  have e2 : decide (0 ≤ (p : Int) ∧ (p : Int) < 64) = true := by simp; omega
  rw [e1, e2, Int.toNat_natCast, Bool.true_and, Bool.true_and]
  congr 1
  by_cases e : (p : Int) = me
  · simp [e]
  · simp [e]
theorem RefO.headF {S : RO} {O : PO} (h : RefO S O) : ∀ k, k ≤ 64 → (headR S k).map (fun c => core c.2) = (((List.range k).filter fun p => O.mb.testBit p).foldl (headStep O) none).map core
  | 0, _ => rfl
  | k + 1, hk => by
    have ih := h.headF k (by omega)
    rw [headR_succ, headStepR_eq, stepG_eq, List.range_succ, List.filter_append, List.foldl_append]
    have hb : hasS S.mb (k : Int) = O.mb.testBit k := by
      rw [h.mb]
      unfold hasS
      have e2 : decide (0 ≤ (k : Int) ∧ (k : Int) < 64) = true := by simp; omega
      rw [e2, Int.toNat_natCast, Bool.true_and]
    rw [hb]
    generalize ((List.range k).filter fun p => O.mb.testBit p).foldl (headStep O) none = bo at ih
    cases ht : O.mb.testBit k with
    | false => simpa [ht] using ih
    | true =>
      have hg := h.h.get (k : Int) (O.dn k + 1)
      simp only [List.filter_cons, ht, List.filter_nil, if_true, List.foldl_cons, List.foldl_nil, Bool.true_and]
      rw [h.lo, h.dn]
      unfold headStep nextO
      cases g1 : getA S.A O.lo (k : Int) (O.dn k + 1) with
      | none =>
        rw [g1] at hg
        cases g2 : getZ O.lo O.R (k : Int) (O.dn k + 1) with
        | none => simpa using ih
        | some m' => rw [g2] at hg; cases hg
      | some m =>
        rw [g1] at hg
        cases g2 : getZ O.lo O.R (k : Int) (O.dn k + 1) with
        | none => rw [g2] at hg; cases hg
        | some m' =>
          rw [g2] at hg
          have hm : core m = core m' := by simpa using hg
          cases hr : headR S k with
          | none =>
            rw [hr] at ih
            cases bo with
            | none => simp [lessG, hm]
            | some c' => cases ih
          | some c =>
            rw [hr] at ih
            cases bo with
            | none => cases ih
            | some c' =>
              have hc : core c.2 = core c' := by simpa using ih
              have hl : lessB m' c' = ltB m.stamp m.frm c.2.stamp c.2.frm := by rw [← lessB_ltB]; exact lessB_core hm.symm hc.symm
              simp only [lessG, Option.getD_some, Option.isSome_some, Bool.true_and, hl]
              cases hv : ltB (m.stamp : Int) m.frm c.2.stamp c.2.frm with
              | true => simp [hm]
              | false => simpa using hc
theorem RefO.head {S : RO} {O : PO} (h : RefO S O) : (headR S 64).map (fun c => core c.2) = O.head.map core := h.headF 64 (Nat.le_refl _)
theorem lowR_le (f : Nat → Nat) (oth : Nat → Bool) (c : Nat) : ∀ k, lowR f oth k c ≤ c
  | 0 => Nat.le_refl _
  | k + 1 => by
    have ih := lowR_le f oth c k
    rw [lowR_succ]
    split
    · next h => have := h.2; omega
    · exact ih
def alO (S : RO) (O : PO) : Nat := lowR O.H.hd S.oth 64 S.c
def sfO (S : RO) (O : PO) : Nat := lowR O.H.rc S.oth 64 (alO S O)
theorem RefO.next {S : RO} {O : PO} (h : RefO S O) : (nextR S (alO S O) (sfO S O)).map (fun c => core c.2) = O.ripe.map core ∧ RefO (nextRO S (alO S O) (sfO S O)) O.next := by
  have hh := h.head
  have ha : O.H.all = alO S O := h.z.all
  have hs : O.H.safe = sfO S O := h.z.safe
  have hle : sfO S O ≤ alO S O := lowR_le _ _ _ _
  have key : (nextR S (alO S O) (sfO S O)).map (fun c => core c.2) = O.ripe.map core := by
    unfold nextR PO.ripe
    cases h1 : headR S 64 with
    | none =>
      rw [h1] at hh
      cases h2 : O.head with
      | none => rfl
      | some m => rw [h2] at hh; cases hh
    | some c =>
      rw [h1] at hh
      cases h2 : O.head with
      | none => rw [h2] at hh; cases hh
      | some m =>
        rw [h2] at hh
        have hc : core c.2 = core m := by simpa using hh
        have e := core_iff.1 hc
        have hm : O.mark m.service < m.stamp ↔ (alO S O < c.2.stamp ∨ (c.2.service = 2 ∧ sfO S O < c.2.stamp)) := by
          rw [e.2.2.1, e.2.2.2.1]
          unfold PO.mark
          rw [ha, hs]
          by_cases h2 : m.service = 2
          · rw [if_pos h2]
            constructor
            · exact fun g => .inr ⟨h2, g⟩
            · rintro (g | g)
              · omega
              · exact g.2
          · rw [if_neg h2]
            exact ⟨.inl, fun g => g.resolve_right (fun g => h2 g.1)⟩
        simp only
        by_cases g : O.mark m.service < m.stamp
        · rw [if_pos g, if_pos (hm.1 g)]; rfl
        · rw [if_neg g, if_neg (fun x => g (hm.2 x))]
          simp [hc]
  refine ⟨key, ?_⟩
  unfold nextRO PO.next
  cases h1 : nextR S (alO S O) (sfO S O) with
  | none =>
    rw [h1] at key
    cases h2 : O.ripe with
    | none => exact h
    | some m => rw [h2] at key; cases key
  | some c =>
    have hcf : c.2.frm = (c.1 : Int) := (getA_seq (headR_some S 64 c (nextR_head h1))).2.1
    rw [h1] at key
    cases h2 : O.ripe with
    | none => rw [h2] at key; cases key
    | some m =>
      rw [h2] at key
      have hc : core c.2 = core m := by simpa using key
      have e := core_iff.1 hc
      have ef : m.frm.toNat = c.1 := by rw [← e.1, hcf, Int.toNat_natCast]
      refine ⟨h.me, h.mb, h.lo, h.h, h.z, ?_, e.2.2.1, e.1⟩
      show upd S.dn c.1 (S.dn c.1 + 1) = upd O.dn m.frm.toNat (O.dn m.frm.toNat + 1)
      rw [ef, h.dn]
end Go.Proofs.YtgjlcjbmcnofiaaDoor
namespace Go.Proofs.YtgjlcjbmcnofiaaDoor
set_option linter.unusedVariables false
set_option linter.unusedSimpArgs false
open Go.RowKit
def itO : Nat → PO → PO
  | 0, O => O
  | n + 1, O => (itO n O).next
theorem next_H (O : PO) : O.next.H = O.H := by
  unfold PO.next
  split <;> rfl
theorem itO_H (O : PO) : ∀ n, (itO n O).H = O.H
  | 0 => rfl
  | n + 1 => by
    show (itO n O).next.H = O.H
    rw [next_H, itO_H O n]
theorem Drn.it {O O1 : PO} {L : List Msg} (h : Drn O L O1) : O1 = itO L.length O ∧ ∀ i, i < L.length → (itO i O).ripe = L[i]? := by
  induction h with
  | nil => exact ⟨rfl, fun i hi => absurd hi (by simp)⟩
  | @snoc O1 L m h hr ih =>
    obtain ⟨i1, i2⟩ := ih
    have hn : O1.took m = O1.next := by unfold PO.next; rw [hr]
    refine ⟨?_, fun i hi => ?_⟩
    · rw [hn, List.length_append, List.length_singleton]
      show O1.next = (itO L.length O).next
      rw [← i1]
    · rw [List.length_append, List.length_singleton] at hi
      by_cases e : i = L.length
      · subst e
        rw [← i1, hr]
        simp
      · rw [i2 i (by omega), List.getElem?_append_left (by omega)]
theorem RefO.drn' {S S' : RO} {O : PO} {L : List Msg} {al sf : Nat} (h : RefO S O) (ha : al = alO S O) (hs : sf = sfO S O) (hd : DrnR al sf S L S') : RefO S' (itO L.length O) ∧ ∀ i, i < L.length → (itO i O).ripe.map core = (L[i]?).map core := by
  induction hd with
  | nil => exact ⟨h, fun i hi => absurd hi (by simp)⟩
  | @snoc S1 L c hd hn ih =>
    obtain ⟨i1, i2⟩ := ih
    obtain ⟨_, _, e3, e4, _, _, _⟩ := hd.same
    have ea : alO S1 (itO L.length O) = al := by rw [ha]; unfold alO; rw [e3, e4, itO_H]
    have es : sfO S1 (itO L.length O) = sf := by rw [hs]; unfold sfO; rw [ea, ha, e4, itO_H]
    obtain ⟨n1, n2⟩ := i1.next
    rw [ea, es] at n1 n2
    refine ⟨?_, fun i hi => ?_⟩
    · rw [List.length_append, List.length_singleton]
      exact n2
    · rw [List.length_append, List.length_singleton] at hi
      by_cases e : i = L.length
      · subst e
        rw [← n1, hn]
        simp
      · rw [i2 i (by omega), List.getElem?_append_left (by omega)]
theorem RefO.drn {S S' : RO} {O : PO} {L : List Msg} (h : RefO S O) (hd : DrnR (alO S O) (sfO S O) S L S') : RefO S' (itO L.length O) ∧ ∀ i, i < L.length → (itO i O).ripe.map core = (L[i]?).map core := h.drn' rfl rfl hd
theorem RefO.drain {S S' : RO} {O O' : PO} {L K : List Msg} (h : RefO S O) (hd : DrnR (alO S O) (sfO S O) S L S') (hn : nextR S' (alO S O) (sfO S O) = none) (hk : Drn O K O') (hr : O'.ripe = none) : L.map core = K.map core ∧ RefO S' O' := by
  obtain ⟨a1, a2⟩ := h.drn hd
  obtain ⟨b1, b2⟩ := hk.it
  obtain ⟨_, _, e3, e4, _, _, _⟩ := hd.same
  have ea : alO S' (itO L.length O) = alO S O := by unfold alO; rw [e3, e4, itO_H]
  have es : sfO S' (itO L.length O) = sfO S O := by unfold sfO; rw [ea, e4, itO_H]
  have hrn : (itO L.length O).ripe = none := by
    have := a1.next.1
    rw [ea, es, hn] at this
    cases hx : (itO L.length O).ripe with
    | none => rfl
    | some m => rw [hx] at this; cases this
  have hlen : L.length = K.length := by
    rcases Nat.lt_trichotomy L.length K.length with g | g | g
    · have := b2 _ g
      rw [hrn, List.getElem?_eq_getElem g] at this
      cases this
    · exact g
    · have := a2 _ g
      rw [← b1, hr, List.getElem?_eq_getElem g] at this
      cases this
  refine ⟨?_, by rw [b1, ← hlen]; exact a1⟩
  apply List.ext_getElem?
  intro i
  rw [List.getElem?_map, List.getElem?_map]
  by_cases hi : i < L.length
  · rw [← a2 i hi, b2 i (by omega)]
  · rw [List.getElem?_eq_none (by omega), List.getElem?_eq_none (by omega)]
end Go.Proofs.YtgjlcjbmcnofiaaDoor
