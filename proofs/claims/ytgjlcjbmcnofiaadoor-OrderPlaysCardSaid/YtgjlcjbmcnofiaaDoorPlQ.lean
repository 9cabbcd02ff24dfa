/-
  The law's play: an act of no kind.
  Conditions: those that each theorem names.
-/
import Derived.Test.YtgjlcjbmcnofiaaDoorPlK
import Derived.Test.YtgjlcjbmcnofiaaDoorOrdJM
namespace Go.Proofs.YtgjlcjbmcnofiaaDoor
set_option linter.unusedVariables false
set_option linter.unusedSimpArgs false
open Go.RowKit
def actA (a : ActO) : Array Value := #[.int .i64 a.kind, .int .i64 a.p, .int .i64 a.m.frm, .int .u32 (a.m.seq : Int), .int .u64 (a.m.stamp : Int), .int .i64 a.m.service, .slice a.m.da a.m.ds.length a.m.dc, .string a.m.pay, .int .u32 (a.seq : Int), .int .u64 (a.stamp : Int)]
theorem actA_is (a : ActO) : (actA a).toList = actL a := rfl
/-- the two orders side by side -/
structure PlayAt (w : World) (B D Z : Nat) (V VH : Nat → Value) (O : PO) (S : RO) (va vz : Value) : Prop where
  at_ : OrAt w B D Z O V VH
  ok : OrOk O
  tab : TabO w B D Z V VH
  ref : RefO S O
  rows : RowsIn w va S.A
  told : ToldIn w vz S.T
  apA : ∀ p n c, va = .slice (some p) n c → 0 < S.A.length → ¬ orS B D Z V VH p.block
  apT : ∀ p n c, vz = .slice (some p) n c → 0 < S.T.length → ¬ orS B D Z V VH p.block
  msg : ∀ m ∈ S.A, MsgOk w m ∧ ∀ p, m.da = some p → 0 < m.ds.length → ¬ orS B D Z V VH p.block
def PlayEnd (w : World) (B D Z : Nat) (V VH : Nat → Value) (O : PO) (S : RO) (va vz : Value) (e : Ending) (w' : World) : Prop :=
  ∃ O' S' V' VH' ua uz, e = .returned (.tuple #[.agg (rfC S' ua uz), .bool true]) ∧ PlayAt w' B D Z V' VH' O' S' ua uz ∧ Kept (orS B D Z V VH) w w' ∧ newV w V V' ∧ newV w VH VH' ∧ S'.A.length ≤ S.A.length + 1 ∧ S'.T.length ≤ S.T.length + 1
/-- what play boxes -/
structure RoAct (w : World) (X A Z : Array Value) (wr : World) : Prop where
  blk : wr.heap[w.heap.size]? = some (.cells X 73 (0, 0))
  act : wr.heap[w.heap.size + 1]? = some (.cells A 51 (0, 0))
  res : wr.heap[w.heap.size + 1 + 1]? = some (.cells Z 73 (0, 0))
  bel : Below w.heap.size w wr
theorem RoAct.below {w wr w' : World} {X M Z : Array Value} (h : RoAct w X M Z wr) (hb : Below wr.heap.size wr w') : RoAct w X M Z w' :=
  ⟨(hb.block _ (Array.getElem?_eq_some_iff.1 h.blk).1).trans h.blk, (hb.block _ (Array.getElem?_eq_some_iff.1 h.act).1).trans h.act, (hb.block _ (Array.getElem?_eq_some_iff.1 h.res).1).trans h.res, bt h.bel hb⟩
theorem RoAct.new (w : World) (X M Z : Array Value) : RoAct w X M Z (((w.alloc (.cells X 73)).alloc (.cells M 51)).alloc (.cells Z 73)) := by
  have h0 := heap_alloc2_old w (.cells X 73) (.cells M 51)
  have h1 := heap_alloc2_new w (.cells X 73) (.cells M 51)
  have h2 := heap_alloc_new ((w.alloc (.cells X 73)).alloc (.cells M 51)) (.cells Z 73)
  refine ⟨(Below.heap_alloc _ _ _ (Array.getElem?_eq_some_iff.1 h0).1).trans h0, (Below.heap_alloc _ _ _ (Array.getElem?_eq_some_iff.1 h1).1).trans h1, ?_, ba (ba (ba (br w) _) _) _⟩
  simpa using h2
set_option maxRecDepth 100000 in
set_option maxHeartbeats 8000000 in
theorem playN_any {w : World} {B D Z : Nat} {V VH : Nat → Value} {O : PO} {S : RO} {va vz : Value} (a : ActO) (hk : ¬ (0 ≤ a.kind ∧ a.kind ≤ 5)) (h1 : va.oneCell' = true) (h2 : vz.oneCell' = true) :
    Calls Tryd.prog 25 #[.pointer (some ⟨B, 0, none⟩), .agg (rfC S va vz), .agg (actA a)] w fun e w' => e = .returned (.tuple #[.agg (rfC S va vz), .bool true]) ∧ Below w.heap.size w w' := by
  have hz := zeroR_run
  obtain ⟨ZR, hZR⟩ : ∃ Z, Z = zeroR := ⟨_, rfl⟩
  have hZs : ZR.size = 199 := by rw [hZR]; unfold zeroR; rw [rfC_size]
  rw [← hZR] at hz
  obtain ⟨X, hX⟩ : ∃ X, X = rfC S va vz := ⟨_, rfl⟩
  have hXs : (Tryd.prog.info? 73).map (·.size) = some X.size ∧ ZR.size = X.size ∧ X.all (·.oneCell') = true := by rw [hX]; exact ⟨rfSize, by rw [hZs, rfC_size], rfC_one _ _ _ h1 h2⟩
  rw [← hX]
  obtain ⟨A, hA⟩ : ∃ A, A = actA a := ⟨_, rfl⟩
  have hA0 : A[0]? = some (.int .i64 a.kind) := by rw [hA]; rfl
  rw [← hA]
  obtain ⟨W, hW⟩ : ∃ W, W = ((w.alloc (.cells X 73)).alloc (.cells A 51)).alloc (.cells ZR 73) := ⟨_, rfl⟩
  have hR : RoAct w X A ZR W := by rw [hW]; exact RoAct.new w X A ZR
  have HR := Lib.hid hR
  have c0 : W.cell? ⟨w.heap.size + 1, 0, none⟩ = some (.int .i64 a.kind) := (cell_of_row _ _ 0 _ _ _ hR.act).trans hA0
  obtain ⟨k, hkk⟩ : ∃ k, k = a.kind := ⟨_, rfl⟩
  rw [← hkk] at hk c0
  have k0 : (k == 0) = false := by simp; omega
  have k1 : (k == 1) = false := by simp; omega
  have k2 : (k == 2) = false := by simp; omega
  have k3 : (k == 3) = false := by simp; omega
  have k4 : (k == 4) = false := by simp; omega
  have k5 : (k == 5) = false := by simp; omega
  have HXS := Lib.hid hXs
  have HW := Lib.hid hW
  clear hZR hZs hX hXs hA hA0 hW hR hk hkk h1 h2
  go_enter Tryd.func25, Tryd.ntmps25
  go_upto_region 1 with (fail)
  rw [← HW.out]
  clear HW
  go_upto_region 23 with (fail)
  refine wp_region_lit ?_
  refine wpList_load_row rfl 73 (.tmp 4) rfl w.heap.size rfl 73 X (0, 0) _ HR.out.blk Tryd.underlying73 rfl HXS.out.1 ?_
  (try simp only [Act.put, List.setIfInBounds_toArray, List.set_cons_zero, List.set_cons_succ])
  refine wpList_store_row rfl 73 (.tmp 6) (.tmp 131) rfl (w.heap.size + 1 + 1) X rfl rfl 73 _ HR.out.res HXS.out.1 HXS.out.2.1 HXS.out.2.2 ?_
  simp only [Act.put]
  have hx := setRow_heap _ _ _ X _ _ HR.out.res
  have hbe : Below w.heap.size w (W.setRow (w.heap.size + 1 + 1) X) := bsr' HR.out.bel (by omega) X
  obtain ⟨W2, hW2⟩ : ∃ z, z = W.setRow (w.heap.size + 1 + 1) X := ⟨_, rfl⟩
  rw [← hW2] at hx hbe ⊢
  have HE := Lib.hid (And.intro hx hbe)
  clear hW2 hx hbe
  refine wpList_step (fun K hK => ?_)
  go_simp
  refine hK _ _ ?_
  clear hK K
  (try simp only [Act.put, List.setIfInBounds_toArray, List.set_cons_zero, List.set_cons_succ])
  refine wpList_nil ?_
  go_wp2_with fail
  exact bodyPost_ret (results_cell_tmp Tryd.results25 _ _ (w.heap.size + 1 + 1) 73 X (0, 0) _ _ rfl rfl HE.out.1 Tryd.underlying73 rfl HXS.out.1) rfl ⟨rfl, HE.out.2⟩
end Go.Proofs.YtgjlcjbmcnofiaaDoor
namespace Go.Proofs.YtgjlcjbmcnofiaaDoor
set_option linter.unusedVariables false
set_option linter.unusedSimpArgs false
open Go.RowKit
theorem RowsIn.keptS {S : Nat → Prop} {w w' : World} {v : Value} {l : List Msg} (h : RowsIn w v l) (hk : Kept S w w') (hd : ∀ p n c, v = .slice (some p) n c → 0 < l.length → ¬ S p.block) : RowsIn w' v l := by
  obtain ⟨ad, cap, rfl, hr⟩ := h
  refine ⟨ad, cap, rfl, hr.1, fun hn => ?_⟩
  obtain ⟨a, rfl, hb, hc⟩ := hr.2 hn
  refine ⟨a, rfl, Nat.lt_of_lt_of_le hb hk.size, fun j u hu => ?_⟩
  rw [← hc j u hu]
  have hbk : (a.add j).block = a.block := by unfold Addr.add; split <;> rfl
  exact hk.cell (p := a.add j) (by rw [hbk]; exact hb) (by rw [hbk]; exact hd _ _ _ rfl hn)
theorem ToldIn.keptS {S : Nat → Prop} {w w' : World} {v : Value} {l : List Tld} (h : ToldIn w v l) (hk : Kept S w w') (hd : ∀ p n c, v = .slice (some p) n c → 0 < l.length → ¬ S p.block) : ToldIn w' v l := by
  obtain ⟨ad, cap, rfl, hr⟩ := h
  refine ⟨ad, cap, rfl, hr.1, fun hn => ?_⟩
  obtain ⟨a, rfl, hb, hc⟩ := hr.2 hn
  refine ⟨a, rfl, Nat.lt_of_lt_of_le hb hk.size, fun j u hu => ?_⟩
  rw [← hc j u hu]
  have hbk : (a.add j).block = a.block := by unfold Addr.add; split <;> rfl
  exact hk.cell (p := a.add j) (by rw [hbk]; exact hb) (by rw [hbk]; exact hd _ _ _ rfl hn)
theorem calm_ref {w : World} {b t : Nat} {cs : Array Value} {fr : Nat × Nat} (h : w.heap[b]? = some (.cells cs t fr)) (ht : t ≠ 33) : Calm w (fun k => k = b) := fun k hk cs' fr' hc => by
  subst hk
  rw [h] at hc
  injection hc with hc
  injection hc with _ hc _
  exact ht hc
set_option maxRecDepth 100000 in
set_option maxHeartbeats 8000000 in
theorem playT_any {w : World} {B D Z : Nat} {V VH : Nat → Value} {O : PO} {S : RO} {va vz : Value} (a : ActO) (h : PlayAt w B D Z V VH O S va vz) (hk : a.kind = 5) (hu : a.seq < 4294967296) (hl : S.A.length ≤ 1000) :
    Calls Tryd.prog 25 #[.pointer (some ⟨B, 0, none⟩), .agg (rfC S va vz), .agg (actA a)] w fun e w' => e = .returned (.tuple #[.agg (rfC (trimR S a.p a.seq) va vz), .bool true]) ∧ ∃ V1 VH1, OrSt w B D Z V VH (O.trim a.p a.seq) w' V1 VH1 := by
  have h1 : va.oneCell' = true := by obtain ⟨ad, cap, rfl, _⟩ := h.rows; rfl
  have h2 : vz.oneCell' = true := by obtain ⟨ad, cap, rfl, _⟩ := h.told; rfl
  have hz := zeroR_run
  obtain ⟨ZR, hZR⟩ : ∃ Z, Z = zeroR := ⟨_, rfl⟩
  have hZs : ZR.size = 199 := by rw [hZR]; unfold zeroR; rw [rfC_size]
  rw [← hZR] at hz
  obtain ⟨X, hX⟩ : ∃ X, X = rfC S va vz := ⟨_, rfl⟩
  obtain ⟨X2, hX2⟩ : ∃ X, X = rfC (trimR S a.p a.seq) va vz := ⟨_, rfl⟩
  have hXs : (Tryd.prog.info? 73).map (·.size) = some X.size ∧ ZR.size = X.size ∧ X.all (·.oneCell') = true := by rw [hX]; exact ⟨rfSize, by rw [hZs, rfC_size], rfC_one _ _ _ h1 h2⟩
  have hX2s : (Tryd.prog.info? 73).map (·.size) = some X2.size ∧ ZR.size = X2.size ∧ X2.all (·.oneCell') = true := by rw [hX2]; exact ⟨rfSize, by rw [hZs, rfC_size], rfC_one _ _ _ h1 h2⟩
  obtain ⟨A, hA⟩ : ∃ A, A = actA a := ⟨_, rfl⟩
  have hA0 : A[0]? = some (.int .i64 5) := by rw [hA, ← hk]; rfl
  have hA1 : A[1]? = some (.int .i64 a.p) := by rw [hA]; rfl
  have hA8 : A[8]? = some (.int .u32 (a.seq : Int)) := by rw [hA]; rfl
  obtain ⟨W, hW⟩ : ∃ W, W = ((w.alloc (.cells X 73)).alloc (.cells A 51)).alloc (.cells ZR 73) := ⟨_, rfl⟩
  have hR : RoAct w X A ZR W := by rw [hW]; exact RoAct.new w X A ZR
  have hTr := orTrim_any a.p a.seq (h.at_.below hR.bel) h.ok hu
  have hRT : ∀ W2 : World, RowsIn W2 va S.A → Calls Tryd.prog 60 #[.agg X, .int .i64 a.p, .int .u32 (a.seq : Int)] W2 fun e w' => e = .returned (.agg X2) ∧ Below W2.heap.size W2 w' := fun W2 hr => by
    rw [hX, hX2]
    exact rTrim_any S va vz a.p a.seq W2 hr hl hu h2
  obtain ⟨p, hp⟩ : ∃ p, p = a.p := ⟨_, rfl⟩
  obtain ⟨u, huu⟩ : ∃ u, u = a.seq := ⟨_, rfl⟩
  rw [← hX, ← hX2, ← hA]
  rw [← hp] at hA1 hTr hRT ⊢
  rw [← huu] at hA8 hTr hRT ⊢
  have c0 : W.cell? ⟨w.heap.size + 1, 0, none⟩ = some (.int .i64 5) := (cell_of_row _ _ 0 _ _ _ hR.act).trans hA0
  have c1 : W.cell? ⟨w.heap.size + 1, 1, none⟩ = some (.int .i64 p) := (cell_of_row _ _ 1 _ _ _ hR.act).trans hA1
  have c8 : W.cell? ⟨w.heap.size + 1, 8, none⟩ = some (.int .u32 (u : Int)) := (cell_of_row _ _ 8 _ _ _ hR.act).trans hA8
  have HR := Lib.hid hR
  have HP := Lib.hid h
  have HTR := Lib.hid hTr
  have HRT := Lib.hid hRT
  have HA := Lib.hid (And.intro hA1 hA8)
  have HXS := Lib.hid hXs
  have HX2S := Lib.hid hX2s
  have HW := Lib.hid hW
  clear hZR hZs hX hX2 hXs hX2s hA hA0 hA1 hA8 hW hR hk hp huu h1 h2 hTr hRT h hu hl
  go_enter Tryd.func25, Tryd.ntmps25
  go_upto_region 1 with (fail)
  rw [← HW.out]
  clear HW
  go_upto_region 21 with (fail)
  go_wp2_with fail
  refine HTR.out.mono ?_
  rintro e w2 ⟨rfl, hto⟩
  obtain ⟨V1, VH1, hst, hap⟩ := OrSt.next ⟨HP.out.at_.below HR.out.bel, Kept.of_below HR.out.bel, newV_refl w V, newV_refl w VH⟩ hto
  have hno : ∀ b, w.heap.size ≤ b → ¬ orS B D Z V VH b := fun b hb e => by have := HP.out.at_.sz e; omega
  have hlw := (Array.getElem?_eq_some_iff.1 HR.out.res).1
  have hx2 := hto.1.keep HR.out.blk (hno _ (by omega))
  have ha2 := hto.1.keep HR.out.act (hno _ (by omega))
  have hr2 := hto.1.keep HR.out.res (hno _ (by omega))
  have hrw2 : RowsIn w2 va S.A := (HP.out.rows.below HR.out.bel).keptS hto.1 HP.out.apA
  have HRT := Lib.hid (HRT.out w2 hrw2)
  have d1 : w2.cell? ⟨w.heap.size + 1, 1, none⟩ = some (.int .i64 p) := (cell_of_row _ _ 1 _ _ _ ha2).trans HA.out.1
  have d8 : w2.cell? ⟨w.heap.size + 1, 8, none⟩ = some (.int .u32 (u : Int)) := (cell_of_row _ _ 8 _ _ _ ha2).trans HA.out.2
  have hor : ¬ orS B D Z V1 VH1 (w.heap.size + 1 + 1) := hap _ hlw (hno _ (by omega))
  have HS := Lib.hid (And.intro hst (And.intro hx2 (And.intro hr2 hor)))
  clear hst hap hno hlw hx2 ha2 hr2 hrw2 hto hor c0 c1 c8 HTR HA
  go_wp2_with (first
    | (with_reducible refine wpList_load_row rfl 73 (.tmp 4) rfl w.heap.size rfl 73 X (0, 0) _ HS.out.2.1 Tryd.underlying73 rfl HXS.out.1 ?_)
    | fail)
  refine HRT.out.mono ?_
  rintro e w3 ⟨rfl, hb3⟩
  have hst3 := HS.out.1.below hb3
  have hr3 := (hb3.block _ (Array.getElem?_eq_some_iff.1 HS.out.2.2.1).1).trans HS.out.2.2.1
  have hst4 : OrSt w B D Z V VH (O.trim p u) (w3.setRow (w.heap.size + 1 + 1) X2) V1 VH1 := hst3.aside (setRow_keptR w3 (w.heap.size + 1 + 1) X2) (fun b hb => by subst hb; exact ⟨by omega, HS.out.2.2.2⟩) (calm_ref hr3 (by decide))
  have hr4 := setRow_heap _ _ _ X2 _ _ hr3
  have H4 := Lib.hid (And.intro hr3 (And.intro hst4 hr4))
  clear hb3 hst3 hr3 hst4 hr4 d1 d8 HRT
  go_wp2_with (first
    | (refine wpList_store_row rfl 73 (.tmp 6) (.tmp 130) rfl (w.heap.size + 1 + 1) X2 rfl rfl 73 _ H4.out.1 HX2S.out.1 HX2S.out.2.1 HX2S.out.2.2 ?_)
    | fail)
  exact bodyPost_ret (results_cell_tmp Tryd.results25 _ _ (w.heap.size + 1 + 1) 73 X2 (0, 0) _ _ rfl rfl H4.out.2.2 Tryd.underlying73 rfl HX2S.out.1) rfl ⟨rfl, V1, VH1, H4.out.2.1⟩
end Go.Proofs.YtgjlcjbmcnofiaaDoor
namespace Go.Proofs.YtgjlcjbmcnofiaaDoor
set_option linter.unusedVariables false
set_option linter.unusedSimpArgs false
open Go.RowKit
def TookO (O : PO) (m : Msg) (O1 : PO) : Prop := (takeZ O m ≠ 0 ∧ O1 = O) ∨ (takeZ O m = 0 ∧ ∃ m', core m' = core m ∧ O1 = O.take m m')
theorem RowsIn.newApart {w w2 w3 : World} {va ua : Value} {l l' : List Msg} (h : RowsIn w va l) (h' : RowsIn w3 ua l') (hn : NewV w2 va ua) : ∀ p n c, ua = .slice (some p) n c → 0 < l'.length → (ua = va ∧ 0 < l.length ∧ p.block < w.heap.size) ∨ w2.heap.size ≤ p.block := fun p n c e hl => by
  rcases hn with hn | hn
  · left
    obtain ⟨ad, cap, e1, hr⟩ := h
    obtain ⟨ad', cap', e2, _⟩ := h'
    rw [hn, e1] at e2 e
    injection e2 with _ e3 _
    injection e with e4 _ _
    have hl0 : 0 < l.length := by omega
    obtain ⟨a, e5, hb, _⟩ := hr.2 hl0
    rw [e5] at e4
    injection e4 with e4
    subst e4
    exact ⟨hn, hl0, hb⟩
  · exact .inr (hn p n c e)
theorem ToldIn.newApart {w w2 w3 : World} {va ua : Value} {l l' : List Tld} (h : ToldIn w va l) (h' : ToldIn w3 ua l') (hn : NewV w2 va ua) : ∀ p n c, ua = .slice (some p) n c → 0 < l'.length → (ua = va ∧ 0 < l.length ∧ p.block < w.heap.size) ∨ w2.heap.size ≤ p.block := fun p n c e hl => by
  rcases hn with hn | hn
  · left
    obtain ⟨ad, cap, e1, hr⟩ := h
    obtain ⟨ad', cap', e2, _⟩ := h'
    rw [hn, e1] at e2 e
    injection e2 with _ e3 _
    injection e with e4 _ _
    have hl0 : 0 < l.length := by omega
    obtain ⟨a, e5, hb, _⟩ := hr.2 hl0
    rw [e5] at e4
    injection e4 with e4
    subst e4
    exact ⟨hn, hl0, hb⟩
  · exact .inr (hn p n c e)
set_option maxRecDepth 100000 in
set_option maxHeartbeats 8000000 in
theorem playA_any {w : World} {B D Z : Nat} {V VH : Nat → Value} {O : PO} {S : RO} {va vz : Value} (a : ActO) (h : PlayAt w B D Z V VH O S va vz) (hk : a.kind = 0) (hm : MsgOk w a.m) (hds : a.m.ds.length ≤ 1000000) (hq : a.m.seq < 4294967296) (hl : S.A.length ≤ 500) (hlt : S.T.length ≤ 500) :
    Calls Tryd.prog 25 #[.pointer (some ⟨B, 0, none⟩), .agg (rfC S va vz), .agg (actA a)] w fun e w' => ∃ ua uz O1 V1 VH1, e = .returned (.tuple #[.agg (rfC (takeRO S a.m) ua uz), .bool true]) ∧ TookO O a.m O1 ∧ OrSt w B D Z V VH O1 w' V1 VH1 ∧ RowsIn w' ua (takeRO S a.m).A ∧ ToldIn w' uz (takeRO S a.m).T ∧ (∀ p n c, ua = .slice (some p) n c → 0 < (takeRO S a.m).A.length → ¬ orS B D Z V1 VH1 p.block) ∧ (∀ p n c, uz = .slice (some p) n c → 0 < (takeRO S a.m).T.length → ¬ orS B D Z V1 VH1 p.block)  ∧ NewV w va ua ∧ NewV w vz uz := by
  have h1 : va.oneCell' = true := by obtain ⟨ad, cap, rfl, _⟩ := h.rows; rfl
  have h2 : vz.oneCell' = true := by obtain ⟨ad, cap, rfl, _⟩ := h.told; rfl
  have hz := zeroR_run
  obtain ⟨ZR, hZR⟩ : ∃ Z, Z = zeroR := ⟨_, rfl⟩
  have hZs : ZR.size = 199 := by rw [hZR]; unfold zeroR; rw [rfC_size]
  rw [← hZR] at hz
  obtain ⟨X, hX⟩ : ∃ X, X = rfC S va vz := ⟨_, rfl⟩
  have hXs : (Tryd.prog.info? 73).map (·.size) = some X.size ∧ ZR.size = X.size ∧ X.all (·.oneCell') = true := by rw [hX]; exact ⟨rfSize, by rw [hZs, rfC_size], rfC_one _ _ _ h1 h2⟩
  obtain ⟨A, hA⟩ : ∃ A, A = actA a := ⟨_, rfl⟩
  have hA0 : A[0]? = some (.int .i64 0) := by rw [hA, ← hk]; rfl
  obtain ⟨L, hL⟩ : ∃ L, L = (msgA a.m).toList := ⟨_, rfl⟩
  have hLs : (Tryd.prog.info? 42).map (·.size) = some L.length := by rw [hL]; exact szM
  have hLa : L.toArray = msgA a.m := by rw [hL]
  obtain ⟨W, hW⟩ : ∃ W, W = ((w.alloc (.cells X 73)).alloc (.cells A 51)).alloc (.cells ZR 73) := ⟨_, rfl⟩
  have hR : RoAct w X A ZR W := by rw [hW]; exact RoAct.new w X A ZR
  have hMid : ∀ W2 : World, W2.heap[w.heap.size + 1]? = some (.cells A 51 (0, 0)) → W2.rangeAt (w.heap.size + 1) 2 L := fun W2 hb j v hv => by
    rw [hL] at hv
    have hj : j < 6 := (List.getElem?_eq_some_iff.1 hv).1
    refine (cell_of_row _ _ (2 + j) _ _ _ hb).trans ?_
    rw [hA, ← hv]
    rcases (by omega : j = 0 ∨ j = 1 ∨ j = 2 ∨ j = 3 ∨ j = 4 ∨ j = 5) with rfl | rfl | rfl | rfl | rfl | rfl <;> rfl
  have hTk := orTake_any a.m (h.at_.below hR.bel) h.ok (hm.below hR.bel) hds
  have hmb : S.mb < 18446744073709551616 := by rw [h.ref.mb]; exact h.ok.mb
  have hRT : ∀ W2 : World, RowsIn W2 va S.A → ToldIn W2 vz S.T → Calls Tryd.prog 56 #[.agg X, .agg L.toArray] W2 (TakeOk W2 va vz S a.m) := fun W2 hr ht => by
    rw [hX, hLa]
    exact rTake_any S va vz a.m W2 hr ht hl hlt hmb hq
  rw [← hLa] at hTk
  have htc : takeRC S a.m = takeZ O a.m := h.ref.takeC a.m
  rw [← hX, ← hA]
  have c0 : W.cell? ⟨w.heap.size + 1, 0, none⟩ = some (.int .i64 0) := (cell_of_row _ _ 0 _ _ _ hR.act).trans hA0
  have HR := Lib.hid hR
  have HP := Lib.hid h
  have HTK := Lib.hid hTk
  have HRT := Lib.hid hRT
  have HLS := Lib.hid hLs
  have HM := Lib.hid (hMid W hR.act)
  have HMID := Lib.hid hMid
  have HTC := Lib.hid htc
  have HXS := Lib.hid hXs
  have HZS := Lib.hid (And.intro hZs (And.intro h1 h2))
  have HW := Lib.hid hW
  clear hZR hZs hX hXs hA hA0 hW hR hk h1 h2 hTk hRT h hl hlt hm hds hq hL hLs hLa hMid hmb htc
  go_enter Tryd.func25, Tryd.ntmps25
  go_upto_region 1 with (fail)
  rw [← HW.out]
  clear HW
  go_upto_region 3 with (fail)
  go_wp2_with (first
    | (with_reducible refine wpList_load_mid rfl 42 (.tmp 24) rfl (w.heap.size + 1) 2 rfl L _ HM.out Tryd.underlying42 rfl HLS.out ?_)
    | fail)
  refine HTK.out.mono ?_
  rintro e w2 ⟨rfl, hto⟩
  have hto' : ∃ O1, TookO O a.m O1 ∧ OrTo W B D Z V VH O1 w2 := by
    rcases hto with ⟨g1, g2⟩ | ⟨g1, m', g2, g3⟩
    · exact ⟨O, .inl ⟨g1, rfl⟩, g2⟩
    · exact ⟨_, .inr ⟨g1, m', g2, rfl⟩, g3⟩
  obtain ⟨O1, htook, hto⟩ := hto'
  obtain ⟨V1, VH1, hst, hap⟩ := OrSt.next ⟨HP.out.at_.below HR.out.bel, Kept.of_below HR.out.bel, newV_refl w V, newV_refl w VH⟩ hto
  have hno : ∀ b, w.heap.size ≤ b → ¬ orS B D Z V VH b := fun b hb e => by have := HP.out.at_.sz e; omega
  have hlw := (Array.getElem?_eq_some_iff.1 HR.out.res).1
  have hx2 := hto.1.keep HR.out.blk (hno _ (by omega))
  have ha2 := hto.1.keep HR.out.act (hno _ (by omega))
  have hr2 := hto.1.keep HR.out.res (hno _ (by omega))
  have hrw2 : RowsIn w2 va S.A := (HP.out.rows.below HR.out.bel).keptS hto.1 HP.out.apA
  have htw2 : ToldIn w2 vz S.T := (HP.out.told.below HR.out.bel).keptS hto.1 HP.out.apT
  have HRT := Lib.hid (HRT.out w2 hrw2 htw2)
  have HM2 := Lib.hid (HMID.out w2 ha2)
  have hor : ¬ orS B D Z V1 VH1 (w.heap.size + 1 + 1) := hap _ hlw (hno _ (by omega))
  obtain ⟨c, hc⟩ : ∃ c, c = takeZ O a.m := ⟨_, rfl⟩
  rw [← hc]
  have HCC := Lib.hid (show takeRC S a.m = c from HTC.out.trans hc.symm)
  have HS := Lib.hid (And.intro hst (And.intro hx2 (And.intro hr2 (And.intro hor (And.intro htook hap)))))
  clear hst hap hno hlw hx2 ha2 hr2 hrw2 htw2 hto hor c0 HTK HMID HM hc htook HTC
  go_upto_region 4 with (fail)
  refine wp_region_lit ?_
  refine wpList_load_row rfl 73 (.tmp 4) rfl w.heap.size rfl 73 X (0, 0) _ HS.out.2.1 Tryd.underlying73 rfl HXS.out.1 ?_
  (try simp only [Act.put, List.setIfInBounds_toArray, List.set_cons_zero, List.set_cons_succ])
  refine wpList_step (fun K hK => ?_)
  go_simp
  refine hK _ _ ?_
  clear hK K
  (try simp only [Act.put, List.setIfInBounds_toArray, List.set_cons_zero, List.set_cons_succ])
  refine wpList_load_mid rfl 42 (.tmp 29) rfl (w.heap.size + 1) 2 rfl L _ HM2.out Tryd.underlying42 rfl HLS.out ?_
  (try simp only [Act.put, List.setIfInBounds_toArray, List.set_cons_zero, List.set_cons_succ])
  refine wpList_step (fun K hK => ?_)
  go_simp
  refine HRT.out.mono ?_
  rintro e w3 ⟨⟨ua, uz, he, hra, hrz, hna, hnz⟩, hb3⟩
  dsimp only at he
  rw [HCC.out] at he
  subst he
  have hu1 : ua.oneCell' = true := by obtain ⟨ad, cap, rfl, _⟩ := hra; rfl
  have hu2 : uz.oneCell' = true := by obtain ⟨ad, cap, rfl, _⟩ := hrz; rfl
  obtain ⟨X2, hX2⟩ : ∃ X2, X2 = rfC (takeRO S a.m) ua uz := ⟨_, rfl⟩
  rw [← hX2]
  have HX2S := Lib.hid (show (Tryd.prog.info? 73).map (·.size) = some X2.size ∧ ZR.size = X2.size ∧ X2.all (·.oneCell') = true from by rw [hX2]; exact ⟨rfSize, by rw [HZS.out.1, rfC_size], rfC_one _ _ _ hu1 hu2⟩)
  have HX2 := Lib.hid hX2
  have HU := Lib.hid (And.intro hra (And.intro hrz (And.intro hna hnz)))
  have HB3 := Lib.hid hb3
  clear hu1 hu2 hX2 hra hrz hna hnz hb3
  refine hK _ _ ?_
  clear hK K
  (try simp only [Act.put, List.setIfInBounds_toArray, List.set_cons_zero, List.set_cons_succ])
  iterate 4
    refine wpList_step (fun K hK => ?_)
    go_simp
    refine hK _ _ ?_
    clear hK K
    (try simp only [Act.put, List.setIfInBounds_toArray, List.set_cons_zero, List.set_cons_succ])
  have hp1 := heap_alloc_new w3 (.cells ZR 73)
  have hba := ba (br w3) (.cells ZR 73)
  refine wpList_store_row rfl 73 (.tmp 9) (.tmp 32) rfl w3.heap.size X2 rfl rfl 73 _ hp1 HX2S.out.1 HX2S.out.2.1 HX2S.out.2.2 ?_
  simp only [Act.put]
  have hq4 := setRow_heap _ _ _ X2 _ _ hp1
  have hb4 : Below w3.heap.size w3 ((w3.alloc (.cells ZR 73)).setRow w3.heap.size X2) := (setRow_keptR _ _ X2).out hba hba.size (fun b hb e => by omega)
  obtain ⟨w4, hw4⟩ : ∃ z, z = (w3.alloc (.cells ZR 73)).setRow w3.heap.size X2 := ⟨_, rfl⟩
  rw [← hw4] at hq4 hb4 ⊢
  have HQ4 := Lib.hid hq4
  have HB4 := Lib.hid hb4
  clear hw4 hq4 hb4 hp1 hba
  refine wpList_step (fun K hK => ?_)
  go_simp
  refine hK _ _ ?_
  clear hK K
  (try simp only [Act.put, List.setIfInBounds_toArray, List.set_cons_zero, List.set_cons_succ])
  refine wpList_nil ?_
  have hcc : (c == c) = true := by simp
  have hst4 := HS.out.1.below (bt HB3.out HB4.out)
  have hlr := (Array.getElem?_eq_some_iff.1 HS.out.2.2.1).1
  have hr4 := ((bt HB3.out HB4.out).block _ hlr).trans HS.out.2.2.1
  have hkp := setRow_keptR w4 (w.heap.size + 1 + 1) X2
  have hst5 := hst4.aside hkp (fun b hb => by subst hb; exact ⟨by omega, HS.out.2.2.2.1⟩) (calm_ref hr4 (by decide))
  have hr5 := setRow_heap _ _ _ X2 _ _ hr4
  have H5 := Lib.hid (And.intro hr4 (And.intro hst5 (And.intro hr5 (And.intro hkp hlr))))
  clear hst4 hr4 hkp hst5 hr5 hlr
  go_upto_region 5 with (fail)
  refine wp_region_lit ?_
  refine wpList_load_row rfl 73 (.tmp 9) rfl w3.heap.size rfl 73 X2 (0, 0) _ HQ4.out Tryd.underlying73 rfl HX2S.out.1 ?_
  (try simp only [Act.put, List.setIfInBounds_toArray, List.set_cons_zero, List.set_cons_succ])
  iterate 3
    refine wpList_step (fun K hK => ?_)
    go_simp
    refine hK _ _ ?_
    clear hK K
    (try simp only [Act.put, List.setIfInBounds_toArray, List.set_cons_zero, List.set_cons_succ])
  refine wpList_store_row rfl 73 (.tmp 6) (.tmp 34) rfl (w.heap.size + 1 + 1) X2 rfl rfl 73 _ H5.out.1 HX2S.out.1 HX2S.out.2.1 HX2S.out.2.2 ?_
  simp only [Act.put]
  obtain ⟨w5, hw5⟩ : ∃ z, z = w4.setRow (w.heap.size + 1 + 1) X2 := ⟨_, rfl⟩
  have h5 := H5.out
  rw [← hw5] at h5 ⊢
  have H5 := Lib.hid h5
  clear hw5 h5
  refine wpList_step (fun K hK => ?_)
  go_simp
  refine hK _ _ ?_
  clear hK K
  (try simp only [Act.put, List.setIfInBounds_toArray, List.set_cons_zero, List.set_cons_succ])
  refine wpList_nil ?_
  go_wp2_with fail
  have hA := HP.out.rows.newApart HU.out.1 HU.out.2.2.1
  have hT := HP.out.told.newApart HU.out.2.1 HU.out.2.2.2
  have hlr := H5.out.2.2.2.2
  refine bodyPost_ret (results_cell_tmp Tryd.results25 _ _ (w.heap.size + 1 + 1) 73 X2 (0, 0) _ _ rfl rfl H5.out.2.2.1 Tryd.underlying73 rfl HX2S.out.1) rfl ⟨ua, uz, O1, V1, VH1, by rw [HX2.out]; rfl, HS.out.2.2.2.2.1, H5.out.2.1, ?_, ?_, ?_, ?_, NewV.of HS.out.1.kept.size HU.out.2.2.1, NewV.of HS.out.1.kept.size HU.out.2.2.2⟩
  · exact (HU.out.1.below HB4.out).keptN H5.out.2.2.2.1 (fun p n c e hn => by rcases hA p n c e hn with ⟨_, _, g⟩ | g <;> omega)
  · exact (HU.out.2.1.below HB4.out).keptN H5.out.2.2.2.1 (fun p n c e hn => by rcases hT p n c e hn with ⟨_, _, g⟩ | g <;> omega)
  · intro p n c e hn
    rcases hA p n c e hn with ⟨e0, hl0, g⟩ | g
    · exact HS.out.2.2.2.2.2 _ (Nat.lt_of_lt_of_le g HR.out.bel.size) (HP.out.apA p n c (by rw [← e0]; exact e) hl0)
    · exact fun ho => by have := HS.out.1.at_.sz ho; omega
  · intro p n c e hn
    rcases hT p n c e hn with ⟨e0, hl0, g⟩ | g
    · exact HS.out.2.2.2.2.2 _ (Nat.lt_of_lt_of_le g HR.out.bel.size) (HP.out.apT p n c (by rw [← e0]; exact e) hl0)
    · exact fun ho => by have := HS.out.1.at_.sz ho; omega
end Go.Proofs.YtgjlcjbmcnofiaaDoor
