/-
  The reference's order: Rest.
  Conditions: those that each theorem names.
-/
import Derived.Test.YtgjlcjbmcnofiaaDoorRfF
namespace Go.Proofs.YtgjlcjbmcnofiaaDoor
set_option linter.unusedVariables false
set_option linter.unusedSimpArgs false
open Go.RowKit
/-- wasn't a message delivered? -/
def restB (dn : Nat → Nat) (m : Msg) : Bool := decide (dn m.frm.toNat < m.seq)
def restR (S : RO) : List Msg := (sortM (aboveA S.A S.lo 0 (-1) 64)).filter (restB S.dn)
set_option maxRecDepth 100000 in
set_option maxHeartbeats 8000000 in
theorem rRest_any (S : RO) (va vz : Value) (w : World) (ha : RowsIn w va S.A) (hl : S.A.length ≤ 1000) (hf : ∀ m ∈ S.A, procB m.frm = true) (htot : ∀ t, t ≤ 64 → (aboveA S.A S.lo 0 (-1) t).length ≤ 1000) :
    Calls Tryd.prog 26 #[.agg (rfC S va vz)] w fun e w' => OwnEnd w (restR S) e w' ∧ Below w.heap.size w w' := by
  obtain ⟨i0, hi, hz0, hz1, hz2⟩ := info_parts info42
  obtain ⟨X, hX⟩ : ∃ X, X = rfC S va vz := ⟨_, rfl⟩
  rw [← hX]
  obtain ⟨W, hW⟩ : ∃ W, W = w.alloc (.cells X 73) := ⟨_, rfl⟩
  have HC := Lib.hid (show RoCtx w X W from by rw [hW]; exact .new w X)
  have hbk : W.heap[w.heap.size]? = some (.cells (rfC S va vz) 73 (0, 0)) := by rw [← hX]; exact HC.out.blk
  have HA := Lib.hid (rAbove_any va S.lo S.A 0 (-1) W (ha.below HC.out.bel) hl hf htot)
  obtain ⟨L, hL⟩ : ∃ L, L = (refX va S.lo).toList := ⟨_, rfl⟩
  have hLa : refX va S.lo = L.toArray := by rw [hL]
  have hLs : (Tryd.prog.info? 67).map (·.size) = some L.length := by rw [hL, Array.length_toList]; exact sizeX
  have hra := ro_H hbk
  rw [hLa] at HA
  rw [← hL] at hra
  have HRA := Lib.hid (And.intro hra hLs)
  obtain ⟨J, hJ⟩ : ∃ J, J = sortM (aboveA S.A S.lo 0 (-1) 64) := ⟨_, rfl⟩
  have hJf : ∀ m ∈ J, procB m.frm = true := fun m hm => by
    rw [hJ] at hm
    have h1 := (sortM_same _).1.mem_iff.2 hm
    unfold aboveA at h1
    obtain ⟨p, _, h2⟩ := List.mem_flatMap.1 h1
    exact hf m (fromA_mem (List.mem_filter.1 h2).1)
  have hJl : J.length ≤ 1000 := by rw [hJ, sortM_len]; exact htot 64 (Nat.le_refl _)
  rw [← hJ] at HA
  have HJ := Lib.hid (And.intro hJf (show restR S = J.filter (restB S.dn) from by rw [hJ]; rfl))
  have HX := Lib.hid hX
  have HW := Lib.hid hW
  clear hJ hJf hL hLa hLs hra hX hW hbk ha hf htot
  go_enter Tryd.func26, Tryd.ntmps26
  go_upto_region 1 with (fail)
  rw [← HW.out]
  clear HW
  go_wp2_with (first
    | (with_reducible refine wpList_load_mid rfl 67 (.tmp 6) rfl w.heap.size 2 rfl L _ HRA.out.1 Tryd.underlying67 rfl HRA.out.2 ?_)
    | fail)
  refine HA.out.mono ?_
  rintro e w2 ⟨⟨lv, rfl, hrow⟩, hb2⟩
  obtain ⟨ld, lc, rfl⟩ := ownForm hrow
  have HC2 := Lib.hid (HC.out.below hb2)
  have HRW := Lib.hid (show RowsIn w2 (.slice ld J.length lc) J from (RowsAt.of_own hrow).rowsIn)
  clear hrow hb2 HA HRA HC
  obtain ⟨jl, hjl⟩ : ∃ z, z = J.length := ⟨_, rfl⟩
  have HJL := Lib.hid hjl
  rw [← hjl] at hJl ⊢
  clear hjl
  go_wp2_with fail
  go_loopw [3, 5] (fun u i wr => ∃ k : Nat, k ≤ jl ∧ i = .int .i64 (k : Int) ∧ ∃ n, n ≤ 1000 ∧ Hid (n = ((J.take k).filter (restB S.dn)).length ∧ wr.ownsRow w2.heap.size 42 6 u n (rowsM ((J.take k).filter (restB S.dn))) ∧ Below w2.heap.size w2 wr)) (fun _ i _ => jl - (intOf i).toNat)
  case atStart => exact ⟨0, by omega, rfl, 0, by omega, rfl, ⟨rfl, .inl ⟨rfl, rfl⟩⟩, br _⟩
  case round =>
    obtain ⟨k, hk, rfl, n, hn, HR⟩ := hrel
    obtain ⟨au, cu, rfl⟩ := ownForm HR.out.2.1
    by_cases hlt : k < jl
    · have hbool : decide ((k : Int) < (jl : Int)) = true := by simpa using hlt
      have hbool2 : decide (k < jl) = true := by simpa using hlt
      have hi0 : (k : Int) < (jl : Int) := by omega
      have hkJ : k < J.length := by rw [← HJL.out]; exact hlt
      obtain ⟨lc', g, o, e', hg, hmr⟩ := HRW.out.msg hkJ
      injection e' with e1 e2 e3
      subst e1
      clear e2 e3
      obtain ⟨q, hq⟩ := Int.eq_ofNat_of_zero_le (procB_iff.1 (HJ.out.1 _ (List.getElem_mem hkJ))).1
      have hq64 : q < 64 := by have := (procB_iff.1 (HJ.out.1 _ (List.getElem_mem hkJ))).2; omega
      have R1 : ∀ w', (∃ y : Bel wr, w' = y.val) → w'.rangeAt g (o + k * 6) (msgA J[k]).toList := by
        rintro w' ⟨y, rfl⟩ a u hu
        exact ((bt HR.out.2.2 y.prop).cell (p := ⟨g, _, none⟩) hg).trans (hmr a u hu)
      have y0 : ∀ y : Bel wr, y.val.cell? ⟨g, o + k * 6, none⟩ = some (.int .i64 (q : Int)) := fun y => by rw [← hq]; exact R1 _ ⟨y, rfl⟩ 0 _ rfl
      have y1 : ∀ y : Bel wr, y.val.cell? ⟨g, o + k * 6 + 1, none⟩ = some (.int .u32 ((J[k]).seq : Int)) := fun y => R1 _ ⟨y, rfl⟩ 1 _ rfl
      have yd : ∀ y : Bel wr, y.val.cell? ⟨w.heap.size, 133 + q, none⟩ = some (.int .u32 (S.dn q : Int)) := fun y => by
        have := ((bt HR.out.2.2 y.prop).block _ (Array.getElem?_eq_some_iff.1 HC2.out.blk).1).trans HC2.out.blk
        rw [cell_of_row _ _ (133 + q) _ _ _ this, HX.out, rf_dn _ _ _ hq64]
      have htk : (J.take (k + 1)).filter (restB S.dn) = (J.take k).filter (restB S.dn) ++ if S.dn q < (J[k]).seq then [J[k]] else [] := by
        rw [List.take_succ_eq_append_getElem hkJ, List.filter_append]
        congr 1
        rw [List.filter_cons, List.filter_nil]
        unfold restB
        rw [hq, Int.toNat_natCast]
        by_cases h : S.dn q < (J[k]).seq
        · rw [if_pos (by simpa using h), if_pos h]
        · rw [if_neg (by simpa using h), if_neg h]
      have hfl : ((J.take (k + 1)).filter (restB S.dn)).length ≤ k + 1 := Nat.le_trans (List.length_filter_le _ _) (List.length_take_le _ _)
      have HTK := Lib.hid (And.intro htk hfl)
      have hqi : (q : Int) < 64 := by omega
      obtain ⟨x, hx⟩ : ∃ x, x = J[k] := ⟨_, rfl⟩
      obtain ⟨cm, hcm⟩ : ∃ cm, cm = (msgA J[k]).toList := ⟨_, rfl⟩
      have hcr : rowsM ((J.take k).filter (restB S.dn) ++ [J[k]]) = rowsM ((J.take k).filter (restB S.dn)) ++ (msgA x).toList := by rw [hx]; exact rowsM_snoc _ _
      have hcz : cm[0]? = some (.int .i64 x.frm) ∧ cm[1]? = some (.int .u32 (x.seq : Int)) ∧ cm[2]? = some (.int .u64 (x.stamp : Int)) ∧ cm[3]? = some (.int .i64 x.service) ∧ cm[4]? = some (.slice x.da x.ds.length x.dc) ∧ cm[5]? = some (.string x.pay) := by rw [hcm, hx]; exact ⟨rfl, rfl, rfl, rfl, rfl, rfl⟩
      rw [← hcm] at R1
      have HCM := Lib.hid (And.intro trivial (And.intro trivial (And.intro hcr hcz)))
      have HRR := Lib.hid R1
      have HLT := Lib.hid hlt
      generalize (J[k]).seq = sq at *
      generalize S.dn q = dq at *
      clear htk hfl hcm hcr hcz hx R1 hmr hg hq hq64 hk hlt
      by_cases hd : dq < sq
      · have d1 : decide ((dq : Int) < (sq : Int)) = true := by simp; omega
        have d1' : decide (dq < sq) = true := by simpa using hd
        have e1 := HTK.out.1
        rw [if_pos hd] at e1
        have HE1 := Lib.hid e1
        clear e1 hd
        go_upto_region 6 with (fail)
        refine wp_region_bel (by kernel_rfl) (by kernel_rfl) ?_
        repeat (go_big_quiet_step ((fail)))
        refine wpQuiet_nil ?_
        intro w3 hw3
        have hb3 := bel_out hw3
        have hro := own_keptS HR.out.2.1 (Kept.of_below (S := fun _ => False) hb3) (fun _ _ h => h)
        have HR3 := Lib.hid (And.intro hro (And.intro (bt HR.out.2.2 hb3) (And.intro (HRR.out w3 hw3) HR.out.1)))
        clear y0 y1 yd hw3 hb3 hro HRR HR
        have hbs := HR3.out.2.1.size
        have c0 : w3.cell? ⟨g, o + k * 6, none⟩ = some (.int .i64 x.frm) := HR3.out.2.2.1 0 _ HCM.out.2.2.2.1
        have c1 : w3.cell? ⟨g, o + k * 6 + 1, none⟩ = some (.int .u32 (x.seq : Int)) := HR3.out.2.2.1 1 _ HCM.out.2.2.2.2.1
        have c2 : w3.cell? ⟨g, o + k * 6 + 2, none⟩ = some (.int .u64 (x.stamp : Int)) := HR3.out.2.2.1 2 _ HCM.out.2.2.2.2.2.1
        have c3 : w3.cell? ⟨g, o + k * 6 + 3, none⟩ = some (.int .i64 x.service) := HR3.out.2.2.1 3 _ HCM.out.2.2.2.2.2.2.1
        have c4 : w3.cell? ⟨g, o + k * 6 + 4, none⟩ = some (.slice x.da x.ds.length x.dc) := HR3.out.2.2.1 4 _ HCM.out.2.2.2.2.2.2.2.1
        have c5 : w3.cell? ⟨g, o + k * 6 + 5, none⟩ = some (.string x.pay) := HR3.out.2.2.1 5 _ HCM.out.2.2.2.2.2.2.2.2
        go_wp2_with (at_builtin; refine wpList_append_any _ rfl (.tmp 30) (.tmp 35) 27 rfl w2.heap.size 42 i0 _ 6 72 Tryd.underlying27 hi hz0 hz1 hz2 rfl (by decide) (.slice au n cu) n _ rfl (HR3.out.1.alloc _) (w3.heap.size + 1) (some ⟨w3.heap.size, 0, none⟩) 1 1 (msgA x).toList rfl (reads_new w3 x) (msgA_one x) (by unfold maxLen; omega) (by omega) (by simp; omega) ?_)
        intro v6 w6 ho6 hg6 hu6
        have hb6 : Below w2.heap.size w2 w6 := grownB (ba HR3.out.2.1 _) (ba HR3.out.2.1 _).size hg6 (fun b hb => (HR3.out.1.lt b hb).1)
        have HE := Lib.hid (show n + 1 = ((J.take (k + 1)).filter (restB S.dn)).length ∧ w6.ownsRow w2.heap.size 42 6 v6 (n + 1) (rowsM ((J.take (k + 1)).filter (restB S.dn))) ∧ Below w2.heap.size w2 w6 from by
          rw [HE1.out]
          exact ⟨by rw [List.length_append, ← HR3.out.2.2.2]; rfl, by rw [HCM.out.2.2.1]; exact ho6, hb6⟩)
        obtain ⟨a6, c6', rfl⟩ := ownForm ho6
        have hn1 : n + 1 ≤ 1000 := by
          have h1 := HE.out.1
          have h2 := HTK.out.2
          have := HLT.out
          omega
        clear ho6 hg6 hu6 hb6 c0 c1 c2 c3 c4 c5 HR3 hbs HTK
        go_wp2_with fail
        exact ⟨⟨k + 1, HLT.out, by go_num, n + 1, hn1, HE⟩, by have := HLT.out; simp [intOf]; omega⟩
      · have d1 : decide ((dq : Int) < (sq : Int)) = false := by simp; omega
        have d1' : decide (dq < sq) = false := by simpa using hd
        have e1 := HTK.out.1
        rw [if_neg hd, List.append_nil] at e1
        have HE1 := Lib.hid e1
        clear e1 hd
        go_upto_region 6 with (fail)
        refine wp_region_bel (by kernel_rfl) (by kernel_rfl) ?_
        repeat (go_big_quiet_step ((fail)))
        refine wpQuiet_nil ?_
        intro w3 hw3
        have hb3 := bel_out hw3
        have hro := own_keptS HR.out.2.1 (Kept.of_below (S := fun _ => False) hb3) (fun _ _ h => h)
        have HR3 := Lib.hid (And.intro hro (And.intro (bt HR.out.2.2 hb3) (And.intro (HRR.out w3 hw3) HR.out.1)))
        clear y0 y1 yd hw3 hb3 hro HRR HR
        have HE := Lib.hid (show n = ((J.take (k + 1)).filter (restB S.dn)).length ∧ w3.ownsRow w2.heap.size 42 6 (.slice au n cu) n (rowsM ((J.take (k + 1)).filter (restB S.dn))) ∧ Below w2.heap.size w2 w3 from by rw [HE1.out]; exact ⟨HR3.out.2.2.2, HR3.out.1, HR3.out.2.1⟩)
        clear HE1 HR3 HTK
        go_wp2_with fail
        exact ⟨⟨k + 1, HLT.out, by go_num, n, hn, HE⟩, by have := HLT.out; simp [intOf]; omega⟩
    · have hbool : decide ((k : Int) < (jl : Int)) = false := by simpa using hlt
      have hbool2 : decide (k < jl) = false := by simpa using hlt
      have hkj : k = J.length := by rw [← HJL.out]; omega
      have HE := Lib.hid (show OwnEnd w (restR S) (.returned (.slice au n cu)) wr ∧ Below w.heap.size w wr from by
        obtain ⟨h1, h2, h3⟩ := HR.out
        rw [hkj, List.take_length, ← HJ.out.2] at h1 h2
        rw [h1] at h2 ⊢
        exact ⟨⟨_, rfl, ownMore h2 HC2.out.bel.size⟩, bt HC2.out.bel h3⟩)
      clear HR hkj hk hlt
      go_wp2_with fail
      go_ret
      exact HE.out
end Go.Proofs.YtgjlcjbmcnofiaaDoor
namespace Go.Proofs.YtgjlcjbmcnofiaaDoor
set_option linter.unusedVariables false
set_option linter.unusedSimpArgs false
open Go.RowKit
instance (oth : Nat → Bool) (t : Tld) : Decidable (tellB oth t) := by unfold tellB; infer_instance
/-- something is told -/
def tellRO (S : RO) (t : Tld) : RO := if tellB S.oth t then { S with c := tellC S.c t, T := S.T ++ [t] } else S
def takeRO (S : RO) (m : Msg) : RO :=
  if hasS S.mb m.frm = true ∧ putA S.A m = 0 then
    if m.frm ≠ S.me then tellRO { S with A := S.A ++ [m] } ⟨0, m.frm, m.seq, m.stamp⟩ else { S with A := S.A ++ [m], c := if S.c < m.stamp then m.stamp else S.c }
  else S
def takeRC (S : RO) (m : Msg) : Int := if hasS S.mb m.frm = true then putA S.A m else 5
/-- a row that was handed in, or a new one -/
def NewV (w : World) (v u : Value) : Prop := u = v ∨ ∀ p n c, u = .slice (some p) n c → w.heap.size ≤ p.block
def RoEnd (w : World) (va vz : Value) (S' : RO) (code : Value → Value) (e : Ending) (w' : World) : Prop :=
  ∃ ua uz, e = .returned (code (.agg (rfC S' ua uz))) ∧ RowsIn w' ua S'.A ∧ ToldIn w' uz S'.T ∧ NewV w va ua ∧ NewV w vz uz
/-- the order, the message, the result -/
structure RoThree (w : World) (X M Z : Array Value) (wr : World) : Prop where
  blk : wr.heap[w.heap.size]? = some (.cells X 73 (0, 0))
  msg : wr.heap[w.heap.size + 1]? = some (.cells M 42 (0, 0))
  res : wr.heap[w.heap.size + 1 + 1]? = some (.cells Z 73 (0, 0))
  bel : Below w.heap.size w wr
theorem RoThree.below {w wr w' : World} {X M Z : Array Value} (h : RoThree w X M Z wr) (hb : Below wr.heap.size wr w') : RoThree w X M Z w' :=
  ⟨(hb.block _ (Array.getElem?_eq_some_iff.1 h.blk).1).trans h.blk, (hb.block _ (Array.getElem?_eq_some_iff.1 h.msg).1).trans h.msg, (hb.block _ (Array.getElem?_eq_some_iff.1 h.res).1).trans h.res, bt h.bel hb⟩
theorem RoThree.new (w : World) (X M Z : Array Value) : RoThree w X M Z (((w.alloc (.cells X 73)).alloc (.cells M 42)).alloc (.cells Z 73)) := by
  have h0 := heap_alloc2_old w (.cells X 73) (.cells M 42)
  have h1 := heap_alloc2_new w (.cells X 73) (.cells M 42)
  have h2 := heap_alloc_new ((w.alloc (.cells X 73)).alloc (.cells M 42)) (.cells Z 73)
  refine ⟨(Below.heap_alloc _ _ _ (Array.getElem?_eq_some_iff.1 h0).1).trans h0, (Below.heap_alloc _ _ _ (Array.getElem?_eq_some_iff.1 h1).1).trans h1, ?_, ba (ba (ba (br w) _) _) _⟩
  simpa using h2
theorem RoThree.set {w wr w' : World} {X X' M Z : Array Value} (h : RoThree w X M Z wr) (hk : Kept (fun b => b = w.heap.size) wr w') (hx : w'.heap[w.heap.size]? = some (.cells X' 73 (0, 0))) : RoThree w X' M Z w' :=
  ⟨hx, hk.keep h.msg (by omega), hk.keep h.res (by omega), hk.out h.bel h.bel.size (fun b hb e => by omega)⟩
theorem RowsIn.keptN {w w' : World} {v : Value} {l : List Msg} {N : Nat} (h : RowsIn w v l) (hk : Kept (fun b => b = N) w w') (hd : ∀ p n c, v = .slice (some p) n c → 0 < l.length → p.block ≠ N) : RowsIn w' v l := by
  obtain ⟨ad, cap, rfl, hr⟩ := h
  refine ⟨ad, cap, rfl, hr.1, fun hn => ?_⟩
  obtain ⟨a, rfl, hb, hc⟩ := hr.2 hn
  refine ⟨a, rfl, Nat.lt_of_lt_of_le hb hk.size, fun j u hu => ?_⟩
  rw [← hc j u hu]
  refine hk.cell (p := a.add j) ?_ ?_
  · have : (a.add j).block = a.block := by unfold Addr.add; split <;> rfl
    rw [this]; exact hb
  · have : (a.add j).block = a.block := by unfold Addr.add; split <;> rfl
    rw [this]; exact hd _ _ _ rfl hn
theorem ToldIn.keptN {w w' : World} {v : Value} {l : List Tld} {N : Nat} (h : ToldIn w v l) (hk : Kept (fun b => b = N) w w') (hd : ∀ p n c, v = .slice (some p) n c → 0 < l.length → p.block ≠ N) : ToldIn w' v l := by
  obtain ⟨ad, cap, rfl, hr⟩ := h
  refine ⟨ad, cap, rfl, hr.1, fun hn => ?_⟩
  obtain ⟨a, rfl, hb, hc⟩ := hr.2 hn
  refine ⟨a, rfl, Nat.lt_of_lt_of_le hb hk.size, fun j u hu => ?_⟩
  rw [← hc j u hu]
  refine hk.cell (p := a.add j) ?_ ?_
  · have : (a.add j).block = a.block := by unfold Addr.add; split <;> rfl
    rw [this]; exact hb
  · have : (a.add j).block = a.block := by unfold Addr.add; split <;> rfl
    rw [this]; exact hd _ _ _ rfl hn
/-- a row lies apart from what a function boxes -/
def Apart3 (w : World) (v : Value) (n : Nat) : Prop := ∀ p c k, v = .slice (some p) c k → 0 < n → p.block < w.heap.size ∨ w.heap.size + 3 ≤ p.block
theorem RowsIn.apart {w : World} {v : Value} {l : List Msg} (h : RowsIn w v l) : Apart3 w v l.length := fun p c k e hn => by
  obtain ⟨ad, cap, rfl, hr⟩ := h
  injection e with e _ _
  subst e
  obtain ⟨a, e, hb, _⟩ := hr.2 hn
  injection e with e
  subst e
  exact .inl hb
theorem ToldIn.apart {w : World} {v : Value} {l : List Tld} (h : ToldIn w v l) : Apart3 w v l.length := fun p c k e hn => by
  obtain ⟨ad, cap, rfl, hr⟩ := h
  injection e with e _ _
  subst e
  obtain ⟨a, e, hb, _⟩ := hr.2 hn
  injection e with e
  subst e
  exact .inl hb
theorem Apart3.new {w w1 : World} {v u : Value} {n m : Nat} (h : Apart3 w v n) (hs : w.heap.size + 3 ≤ w1.heap.size) (hu : (u = v ∧ m = n) ∨ ∀ p n c, u = .slice (some p) n c → w1.heap.size ≤ p.block) : Apart3 w u m := fun p c k e hm => by
  rcases hu with ⟨rfl, rfl⟩ | hu
  · exact h p c k e hm
  · exact .inr (Nat.le_trans hs (hu p c k e))
theorem Apart3.ne {w : World} {v : Value} {n j : Nat} (h : Apart3 w v n) (hj : j < 3) : ∀ p c k, v = .slice (some p) c k → 0 < n → p.block ≠ w.heap.size + j := fun p c k e hn => by
  have := h p c k e hn
  omega
theorem NewV.of {w w1 : World} {v u : Value} (hs : w.heap.size ≤ w1.heap.size) (hu : u = v ∨ ∀ p n c, u = .slice (some p) n c → w1.heap.size ≤ p.block) : NewV w v u := hu.imp id fun h p n c e => Nat.le_trans hs (h p n c e)
end Go.Proofs.YtgjlcjbmcnofiaaDoor
