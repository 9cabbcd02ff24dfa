/-
  The judge of views: those that go on from a view had the same messages come up, and the state is what these come to.
  Conditions: those that each theorem names.
-/
import Derived.Test.YtogagkgkmoppmaaGreatDoorApOZs
import Derived.Test.YtogagkgkmoppmaaGreatDoorFoldAZs
namespace Go.Proofs.YtogagkgkmoppmaaGreatDoor
set_option linter.unusedVariables false
set_option linter.unusedSimpArgs false
open Go.RowKit GM
abbrev SvT := Int × List (Int × Nat) × List (Int × ByteArray)
def strNe (a b : ByteArray) : Bool := !(a.toList == b.toList)
section
variable (l : List Ev) (nm : Nat → List NameK)
def numV (s : JS) : Int := match s.vw with
  | none => 0
  | some e => ((evAt l e).vn : Int)
def upsJ (s : JS) : List Msg := s.ups.map (evMsg l)
def svA (o : JS) (s : SvT) : SvT := match o.rd with
  | none => s
  | some r => (wrongZ 6 s.1 (match get s.2.2 (numV l o) with
    | none => false
    | some x => strNe x (evAt l r).st), s.2.1, put s.2.2 (numV l o) (evAt l r).st)
def upsZ (S : List JS) (b : JS) (F : List (Int × Nat)) (z : Int) : Int := match get F (numV l b) with
  | none => z
  | some oi => match S[oi]? with
    | none => z
    | some p => wrongZ 5 z (!sameL (upsJ l p) (upsJ l b))
def rdyZ (o b : JS) (z : Int) : Int := match o.rd with
  | none => z
  | some r => match b.rd with
    | none => z
    | some q => wrongZ 6 z (strNe (evAt l r).st (foldS (evAt l q).st ((upsJ l b).map stepJ)))
def svC (S : List JS) (o b : JS) (bi : Nat) (s : SvT) : SvT := (rdyZ l o b (upsZ l S b s.2.1 s.1), put s.2.1 (numV l b) bi, s.2.2)
def goesB (o b : JS) : Bool := (ownJ nm o).2 && (match b.vw with
  | none => false
  | some e => (nm e).contains (ownJ nm o).1)
def svB (S : List JS) (js : List Nat) (k : Nat) (o : JS) (s : SvT) : SvT := match aheadJ l S js k o with
  | none => s
  | some bi => match S[bi]? with
    | none => s
    | some b => if goesB nm o b = true then svC l S o b bi s else s
def svRun (S : List JS) (js : List Nat) (z : Int) : Nat → SvT
  | 0 => (z, [], [])
  | k + 1 => match S[k]? with
    | none => svRun S js z k
    | some o => svB l nm S js k o (svA l o (svRun S js z k))
end
theorem svRun_succ {l : List Ev} {nm : Nat → List NameK} {S : List JS} {js : List Nat} {z : Int} {k : Nat} {o : JS} (h : S[k]? = some o) : svRun l nm S js z (k + 1) = svB l nm S js k o (svA l o (svRun l nm S js z k)) := by
  show (match S[k]? with | none => svRun l nm S js z k | some o => svB l nm S js k o (svA l o (svRun l nm S js z k))) = _
  rw [h]
abbrev strV (s : ByteArray) : Value := .string s
section
variable {wB w : World} {g o N : Nat} {l : List Ev} {nm : Nat → List NameK} {R : List Pc} {M : JM} {z : Int}
theorem JZ.ups (h : JZ wB g o l R N M z w) (hT : Tr wB g o l nm) (hN : N ≤ 1000000) {x : JX} (hx : x ∈ M.stays) : RdM w x.ua (upsJ l x.s) ∧ (upsJ l x.s).length = x.s.ups.length ∧ ∀ m ∈ upsJ l x.s, m.pay.size ≤ 140737488351232 := by
  obtain ⟨t, b, h1, h2, _⟩ := h
  have hr := jown_ups (M := (M.nd z).bd b) h1.own hx
  have hok := h2.st x hx
  have hlen : (upsJ l x.s).length = x.s.ups.length := List.length_map _
  have hmem : ∀ m ∈ upsJ l x.s, MsgR w m ∧ m.pay.size ≤ 140737488351232 := fun m hm => by
    obtain ⟨u, hu, rfl⟩ := List.mem_map.1 hm
    have hl := hok.ups u hu
    have hxl : l[u]? = some l[u] := List.getElem?_eq_getElem hl
    have ho := (hT.below h1.bel).ok hxl
    rw [evMsg_at hxl]
    exact ⟨msgR_of ho, ho.pay⟩
  refine ⟨?_, hlen, fun m hm => (hmem m hm).2⟩
  rw [← hlen] at hr
  exact rdM_own (B := 0) (cap := x.uc) hr (by rw [hlen]; exact Nat.le_trans hok.ul hN) (fun m hm => (hmem m hm).1)
/-- survive, amid its stays -/
def SvAt (wB : World) (g o N : Nat) (l : List Ev) (M : JM) (R : List Pc) (fb sb : Nat) (s : SvT) (w : World) : Prop :=
  JZ wB g o l (mapPc uV fb (vals (nthJ M.stays) s.2.1) :: mapPc uV sb (vals strV s.2.2) :: R) N M s.1 w ∧ ∀ p ∈ s.2.1, p.2 < M.stays.length
theorem rdN_len {n : Nat} {l : List UInt8} {v : Nat} {l' : List UInt8} (h : rdN n l = .ok (v, l')) : l'.length ≤ l.length := by
  unfold rdN at h
  split at h
  · injection h with h
    injection h with _ h
    rw [← h, List.length_drop]
    omega
  · cases h
theorem andR_invI {α β : Type} {r : Except Int (α × List UInt8)} {f : α → List UInt8 → Except Int (β × List UInt8)} {b : β} {l' : List UInt8} (h : andR r f = .ok (b, l')) : ∃ a l, r = .ok (a, l) ∧ f a l = .ok (b, l') := by
  rcases r with c | ⟨a, l⟩
  · cases h
  · exact ⟨a, l, rfl, h⟩
theorem fin_data {q x : ItQ} {l l' : List UInt8} (h : rdFin q l = .ok (x, l')) : x.data = q.data := by
  unfold rdFin at h
  split at h
  · cases h
  · injection h with h
    injection h with h _
    rw [h]
theorem dataI_size (s : ByteArray) : (dataI s).size ≤ s.size := by
  unfold dataI
  rcases hr : itemR s with c | ⟨q, l⟩
  · exact Nat.zero_le _
  · show q.data.size ≤ s.size
    have hs : s.data.toList.length = s.size := rfl
    obtain ⟨k, l1, h1, h2⟩ := andR_invI hr
    have e1 := rdN_len h1
    split at h2
    · cases h2
    · split at h2
      · cases h2
      · unfold rdIt at h2
        split at h2
        · obtain ⟨a, l2, _, h3⟩ := andR_invI h2
          obtain ⟨b, l3, _, h4⟩ := andR_invI h3
          obtain ⟨f, l4, _, h5⟩ := andR_invI h4
          split at h5
          · cases h5
          · obtain ⟨r, l5, _, h6⟩ := andR_invI h5
            rw [fin_data h6]
            exact Nat.zero_le _
        · split at h2
          · obtain ⟨v, l2, _, h3⟩ := andR_invI h2
            rw [fin_data h3]
            exact Nat.zero_le _
          · split at h2
            · obtain ⟨a, l2, g1, h3⟩ := andR_invI h2
              obtain ⟨b, l3, g2, h4⟩ := andR_invI h3
              obtain ⟨c, l4, g3, h5⟩ := andR_invI h4
              have e2 := rdN_len g1
              have e3 := rdN_len g2
              have e4 := rdN_len g3
              injection h5 with h5
              injection h5 with h5 _
              rw [← h5]
              show l4.length ≤ s.size
              omega
            · injection h2 with h2
              injection h2 with h2 _
              rw [← h2]
              show l1.length ≤ s.size
              omega
theorem numV_some {s : JS} {e : Nat} (h : s.vw = some e) : numV l s = ((evAt l e).vn : Int) := by unfold numV; rw [h]
set_option maxRecDepth 100000 in
set_option maxHeartbeats 16000000 in
theorem survive_gen {js : List Nat} {ad : Option Addr} {cap : Nat} (h : JZ wB g o l (allPc (.slice ad js.length cap) js.length (rowsA l js) :: R) N M z w) (hT : Tr wB g o l nm) (hv : VwOk l) (hN : N ≤ 1000000) (hjs : ∀ j ∈ js, j < l.length) (hj5 : js.length ≤ 500) (hbf : BfLt (M.stays.map (·.s))) (hrv : RdVw (M.stays.map (·.s))) :
    Calls Tryz.prog 16 #[.pointer (some ⟨M.h.T, 0, none⟩), .slice ad js.length cap] w fun e w' => e = .returned (.tuple #[]) ∧ JZ wB g o l (allPc (.slice ad js.length cap) js.length (rowsA l js) :: R) N M (svRun l nm (M.stays.map (·.s)) js z M.stays.length).1 w' := by
  obtain ⟨n, hn⟩ : ∃ n, n = M.stays.length := ⟨_, rfl⟩
  have hn9 : n ≤ 1000000 := by rw [hn]; exact Nat.le_trans h.cnt hN
  obtain ⟨jl, hjl⟩ : ∃ n, n = js.length := ⟨_, rfl⟩
  obtain ⟨fb, hfb⟩ : ∃ b, b = w.heap.size := ⟨_, rfl⟩
  obtain ⟨w1, hw1⟩ : ∃ w1, w1 = w.alloc (.map #[] 0) := ⟨_, rfl⟩
  have h1 := h.made uV (nthJ M.stays)
  rw [← hw1, ← hfb] at h1
  obtain ⟨sb, hsb⟩ : ∃ b, b = w.heap.size + 1 := ⟨_, rfl⟩
  have hsz1 : w1.heap.size = sb := by rw [hw1, hsb]; simp [go_sem]
  obtain ⟨w2, hw2⟩ : ∃ w2, w2 = w1.alloc (.map #[] 0) := ⟨_, rfl⟩
  have h2 := h1.made uV strV
  rw [← hw2, hsz1] at h2
  have H0 := Lib.hid (show SvAt wB g o N l M (allPc (.slice ad js.length cap) js.length (rowsA l js) :: R) fb sb (svRun l nm (M.stays.map (·.s)) js z 0) w2 from ⟨h2.perm (List.Perm.swap _ _ _), fun p hp => by cases hp⟩)
  have c1 : w2.cell? ⟨M.h.T, 1, none⟩ = some (.slice M.sa n M.sc) := by rw [hn]; exact h2.trace.2.2.2 ⟨w2, br w2⟩
  obtain ⟨TT, hTT⟩ : ∃ T, T = M.h.T := ⟨_, rfl⟩
  have HH := Lib.hid (And.intro hT (And.intro hv (And.intro hN (And.intro hjs (And.intro hj5 (And.intro hbf (And.intro hrv (And.intro hn (And.intro hTT hjl)))))))))
  have HWR := Lib.hid (fun (R' : List Pc) (z' : Int) (W : World) (h' : JZ wB g o l R' N M z' W) (r : Int) (b : Bool) => h'.wr1 r b)
  have hmm := @run_makeMap Tryz.prog
  rw [← hTT] at c1 HWR ⊢
  rw [← hn]
  obtain ⟨FIN, hFIN⟩ : ∃ F, F = JZ wB g o l (allPc (.slice ad js.length cap) js.length (rowsA l js) :: R) N M (svRun l nm (M.stays.map (·.s)) js z n).1 := ⟨_, rfl⟩
  rw [← hFIN]
  have HFIN := Lib.hid hFIN
  rw [← hjl]
  clear h hT hv hN hjs hj5 hbf hrv hn hTT hjl h1 h2 hFIN hsz1
  have HSA := Lib.hid (show M.sa = M.sa from rfl)
  obtain ⟨sa, hsaM⟩ : ∃ a, a = M.sa := ⟨_, rfl⟩
  have HSM := Lib.hid hsaM
  rw [← hsaM] at c1
  clear hsaM
  generalize M.sc = sc at *
  go_enter Tryz.func16, Tryz.ntmps16
  go_upto_region 2 with (fail)
  rw [← hw1, ← hw2, ← hfb]
  rw [show fb + 1 = sb by rw [hsb, hfb]]
  clear hw1 hfb hw2 hsb hmm
  go_wp2_with fail
  clear c1
  go_loopg [22] n (fun gk i wr => ∃ k : Nat, gk + k = n ∧ i = .int .i64 (k : Int) ∧ Hid (SvAt wB g o N l M (allPc (.slice ad js.length cap) js.length (rowsA l js) :: R) fb sb (svRun l nm (M.stays.map (·.s)) js z k) wr))
  case atStart => exact ⟨0, rfl, rfl, H0⟩
  case round =>
    obtain ⟨k, hgk, rfl, HW⟩ := hrel
    by_cases hlt : k < n
    · have hdc : decide ((k : Int) < (n : Int)) = true := by rw [decide_eq_true_eq]; omega
      have hdn : decide (k < n) = true := by rw [decide_eq_true_eq]; omega
      have hd3 : (k : Int) < (n : Int) := by omega
      have hkl : k < M.stays.length := by rw [← HH.out.2.2.2.2.2.2.2.1]; exact hlt
      obtain ⟨y, hy⟩ : ∃ y, M.stays[k]? = some y := ⟨_, List.getElem?_eq_getElem hkl⟩
      have hym : y ∈ M.stays := List.mem_of_getElem? hy
      have hsy : (M.stays.map (·.s))[k]? = some y.s := by rw [List.getElem?_map, hy]; rfl
      obtain ⟨s0, hs0⟩ : ∃ s, s = svRun l nm (M.stays.map (·.s)) js z k := ⟨_, rfl⟩
      have hW := HW.out
      rw [← hs0] at hW
      have hst := svRun_succ (l := l) (nm := nm) (js := js) (z := z) hsy
      rw [← hs0] at hst
      obtain ⟨g2, hsa, hg2, cg2⟩ := hW.1.nth hkl
      rw [show M.stays[k] = y from by rw [List.getElem?_eq_getElem hkl] at hy; injection hy] at cg2
      obtain ⟨yb, hyb⟩ : ∃ b, b = y.b := ⟨_, rfl⟩
      have d9 := hW.1.cell hym 9 (v := evP g o y.s.rd) rfl ⟨wr, br wr⟩
      have d7 := hW.1.cell hym 7 (v := evP g o y.s.vw) rfl ⟨wr, br wr⟩
      unfold ptrV at cg2
      rw [← hyb] at cg2 d7 d9
      have hvy := (hW.1.xok hym).vw
      have hry := (hW.1.xok hym).rd
      have HS := Lib.hid (And.intro hst (And.intro hsy (And.intro hy (And.intro hym (And.intro hyb (And.intro hlt hgk))))))
      have H1 := Lib.hid hW
      have HTR := Lib.hid (HH.out.1.below hW.1.bel)
      have hrv := HH.out.2.2.2.2.2.2.1 y.s (List.mem_of_getElem? hsy)
      have cg2' : wr.cell? ⟨g2, k, none⟩ = some (.pointer (some ⟨yb, 0, none⟩)) := cg2
      clear hW hst hsy hy hym hyb hlt hgk hkl hs0 HW hg2 cg2
      have hsa : sa = some ⟨g2, 0, none⟩ := HSM.out.trans hsa
      subst hsa
      obtain ⟨pr, hpr⟩ : ∃ pr, evP g o y.s.rd = .pointer pr := ⟨_, rfl⟩
      rw [hpr] at d9
      obtain ⟨zz, hzz⟩ : ∃ x, x = s0.1 := ⟨_, rfl⟩
      obtain ⟨F0, hF0⟩ : ∃ x, x = s0.2.1 := ⟨_, rfl⟩
      obtain ⟨S0, hS0⟩ : ∃ x, x = s0.2.2 := ⟨_, rfl⟩
      have HA := Lib.hid (show svA l y.s s0 = svA l y.s (zz, F0, S0) by rw [hzz, hF0, hS0])
      have HJ := Lib.hid (show JZ wB g o l (mapPc uV fb (vals (nthJ M.stays) F0) :: mapPc uV sb (vals strV S0) :: allPc (.slice ad js.length cap) js.length (rowsA l js) :: R) N M zz wr ∧ ∀ p ∈ F0, p.2 < M.stays.length from by rw [hzz, hF0, hS0]; exact H1.out)
      clear hzz hF0 hS0 H1
      have HPR := Lib.hid hpr
      clear hpr
      go_upto_if 30 with (fail)
      go_cut [7, 30] (fun s7 s30 wx => s7 = .pointer (some ⟨yb, 0, none⟩) ∧ SvAt wB g o N l M (allPc (.slice ad js.length cap) js.length (rowsA l js) :: R) fb sb (svA l y.s s0) wx)
      case first =>
        --{
        rcases hrd : y.s.rd with _ | r
        · have hpr := HPR.out
          rw [hrd] at hpr
          obtain rfl : pr = none := by injection hpr with h; exact h.symm
          have hA : svA l y.s s0 = (zz, F0, S0) := by rw [HA.out]; unfold svA; rw [hrd]
          have HA2 := Lib.hid hA
          clear hrd hpr hA
          go_wp2_with fail
          go_meet
          exact ⟨rfl, by rw [HA2.out]; exact HJ.out⟩
        · have hpr := HPR.out
          rw [hrd] at hpr
          have hrl := hry r hrd
          obtain ⟨e, hvw⟩ : ∃ e, y.s.vw = some e := Option.isSome_iff_exists.1 (hrv (by rw [hrd]; rfl))
          have hel := hvy e hvw
          obtain rfl : pr = some ⟨g, o + r * 19, none⟩ := by injection hpr with h; exact h.symm
          rw [hvw] at d7
          have d7' : wr.cell? ⟨yb, 7, none⟩ = some (.pointer (some ⟨g, o + e * 19, none⟩)) := d7
          have hxe : l[e]? = some l[e] := List.getElem?_eq_getElem hel
          have hxr : l[r]? = some l[r] := List.getElem?_eq_getElem hrl
          obtain ⟨xe, hxe2⟩ : ∃ x, x = l[e] := ⟨_, rfl⟩
          obtain ⟨xr, hxr2⟩ : ∃ x, x = l[r] := ⟨_, rfl⟩
          rw [← hxe2] at hxe
          rw [← hxr2] at hxr
          have v13 : wr.cell? ⟨g, o + e * 19 + 13, none⟩ = some (.int .u64 (xe.vn : Int)) := HTR.out.cell hxe 13 rfl ⟨wr, br wr⟩
          have v18 : wr.cell? ⟨g, o + r * 19 + 18, none⟩ = some (.string xr.st) := HTR.out.cell hxr 18 rfl ⟨wr, br wr⟩
          have hgm : GMap uV wr sb (vals strV S0) := HJ.out.1.part (List.mem_cons_of_mem _ List.mem_cons_self)
          have hlk : ∃ (x : ByteArray) (th : Bool), (Instr.lookup 104 (.map (some sb)) (.int .u64 (xe.vn : Int)) true).run Tryz.prog wr = .ok (.tuple #[.string x, .bool th]) wr ∧ (th = false ∧ get S0 (xe.vn : Int) = none ∨ th = true ∧ get S0 (xe.vn : Int) = some x) := by
            have h := hgm.lookup_ok (P := Tryz.prog) Tryz.underlying104 uLaw (Tryz.zeroValue9 wr) (xe.vn : Int)
            rw [get_vals, has_vals, has_get] at h
            rcases hget : get S0 (xe.vn : Int) with _ | x
            · rw [hget] at h
              exact ⟨⟨#[]⟩, false, h, .inl ⟨rfl, rfl⟩⟩
            · rw [hget] at h
              exact ⟨x, true, h, .inr ⟨rfl, rfl⟩⟩
          obtain ⟨x, th, hlk, hth⟩ := hlk
          obtain ⟨bad, hbad⟩ : ∃ b, b = (th && strNe x xr.st) := ⟨_, rfl⟩
          have hA : svA l y.s s0 = (wrongZ 6 zz bad, F0, put S0 (xe.vn : Int) xr.st) := by
            rw [HA.out]
            unfold svA
            rw [hrd]
            show (wrongZ 6 zz (match get S0 (numV l y.s) with | none => false | some x => strNe x (evAt l r).st), F0, put S0 (numV l y.s) (evAt l r).st) = _
            rw [numV_some hvw, evAt_of hxe, evAt_of hxr, hbad]
            rcases hth with ⟨rfl, hg⟩ | ⟨rfl, hg⟩ <;> rw [hg] <;> rfl
          have HA2 := Lib.hid hA
          have HV := Lib.hid (And.intro hxe (And.intro hxr (And.intro (cell_lt v13) (And.intro (cell_lt v18) (And.intro (cell_lt d7') (And.intro (cell_lt d9) (And.intro hvw hrd)))))))
          have hbx : (th && strNe x xr.st) = bad := hbad.symm
          clear hrd hpr hA hvw hel hrl hxe hxr hxe2 hxr2 d7 hgm hth hbad
          have HD := Lib.hid (And.intro v13 (And.intro v18 (And.intro d7' d9)))
          cases th
          · go_upto_region 7 with (fail)
            clear hlk v13 d7' d9 v18
            obtain rfl : bad = false := hbx.symm
            clear hbx
            go_wp2_with fail
            refine (HWR.out _ _ _ HJ.out.1 6 false).mono ?_
            rintro e5 w5 ⟨rfl, h5⟩
            have HT5 := HH.out.1.below h5.bel
            have k7 := h5.cell HS.out.2.2.2.1 7 (v := evP g o y.s.vw) rfl
            have k9 := h5.cell HS.out.2.2.2.1 9 (v := evP g o y.s.rd) rfl
            rw [HV.out.2.2.2.2.2.2.1] at k7
            rw [HV.out.2.2.2.2.2.2.2] at k9
            rw [← HS.out.2.2.2.2.1] at k7 k9
            have k7' : ∀ z : Bel w5, z.val.cell? ⟨yb, 7, none⟩ = some (.pointer (some ⟨g, o + e * 19, none⟩)) := k7
            have k9' : ∀ z : Bel w5, z.val.cell? ⟨yb, 9, none⟩ = some (.pointer (some ⟨g, o + r * 19, none⟩)) := k9
            have v13 : ∀ z : Bel w5, z.val.cell? ⟨g, o + e * 19 + 13, none⟩ = some (.int .u64 (xe.vn : Int)) := HT5.cell HV.out.1 13 rfl
            have v18 : ∀ z : Bel w5, z.val.cell? ⟨g, o + r * 19 + 18, none⟩ = some (.string xr.st) := HT5.cell HV.out.2.1 18 rfl
            have H5 := Lib.hid h5
            clear h5 k7 k9 HT5
            go_upto_region 8 with (fail)
            refine wp_region_bel_tail 16 (by kernel_rfl) (by kernel_rfl) ?_
            simp only [List.take_succ_cons, List.take_zero, List.drop_succ_cons, List.drop_zero]
            repeat (go_big_quiet_step ((fail)))
            refine wpQuiet_nil ?_
            intro w8 hw8
            have h8 := (H5.out.below (bel_out hw8)).perm (List.Perm.swap _ _ _)
            clear hw8 k7' k9' v13 v18
            obtain ⟨w9, hrun, hg9, hgr9, _⟩ := (show GMap uV w8 sb (vals strV S0) from h8.part List.mem_cons_self).update (P := Tryz.prog) Tryz.underlying104 uLaw (xe.vn : Int) (strV xr.st)
            rw [put_vals strV] at hg9
            have HE := Lib.hid ((h8.map hg9 hgr9).perm (List.Perm.swap _ _ _))
            have hrun : (Instr.mapUpdate 104 (.map (some sb)) (.int .u64 (xe.vn : Int)) (.string xr.st)).run Tryz.prog w8 = .ok () w9 := hrun
            clear h8 hg9 hgr9 H5
            go_wp2_with fail
            go_meet
            exact ⟨rfl, by rw [HA2.out]; exact ⟨HE.out, HJ.out.2⟩⟩
          · go_upto_region 7 with (fail)
            clear hlk v13 d7'
            have hbx2 : (!x.toList == xr.st.toList) = bad := hbx
            clear hbx
            go_wp2_with fail
            (try rw [hbx2])
            clear v18 d9 hbx2
            refine (HWR.out _ _ _ HJ.out.1 6 bad).mono ?_
            rintro e5 w5 ⟨rfl, h5⟩
            have HT5 := HH.out.1.below h5.bel
            have k7 := h5.cell HS.out.2.2.2.1 7 (v := evP g o y.s.vw) rfl
            have k9 := h5.cell HS.out.2.2.2.1 9 (v := evP g o y.s.rd) rfl
            rw [HV.out.2.2.2.2.2.2.1] at k7
            rw [HV.out.2.2.2.2.2.2.2] at k9
            rw [← HS.out.2.2.2.2.1] at k7 k9
            have k7' : ∀ z : Bel w5, z.val.cell? ⟨yb, 7, none⟩ = some (.pointer (some ⟨g, o + e * 19, none⟩)) := k7
            have k9' : ∀ z : Bel w5, z.val.cell? ⟨yb, 9, none⟩ = some (.pointer (some ⟨g, o + r * 19, none⟩)) := k9
            have v13 : ∀ z : Bel w5, z.val.cell? ⟨g, o + e * 19 + 13, none⟩ = some (.int .u64 (xe.vn : Int)) := HT5.cell HV.out.1 13 rfl
            have v18 : ∀ z : Bel w5, z.val.cell? ⟨g, o + r * 19 + 18, none⟩ = some (.string xr.st) := HT5.cell HV.out.2.1 18 rfl
            have H5 := Lib.hid h5
            clear h5 k7 k9 HT5
            go_upto_region 8 with (fail)
            refine wp_region_bel_tail 16 (by kernel_rfl) (by kernel_rfl) ?_
            simp only [List.take_succ_cons, List.take_zero, List.drop_succ_cons, List.drop_zero]
            repeat (go_big_quiet_step ((fail)))
            refine wpQuiet_nil ?_
            intro w8 hw8
            have h8 := (H5.out.below (bel_out hw8)).perm (List.Perm.swap _ _ _)
            clear hw8 k7' k9' v13 v18
            obtain ⟨w9, hrun, hg9, hgr9, _⟩ := (show GMap uV w8 sb (vals strV S0) from h8.part List.mem_cons_self).update (P := Tryz.prog) Tryz.underlying104 uLaw (xe.vn : Int) (strV xr.st)
            rw [put_vals strV] at hg9
            have HE := Lib.hid ((h8.map hg9 hgr9).perm (List.Perm.swap _ _ _))
            have hrun : (Instr.mapUpdate 104 (.map (some sb)) (.int .u64 (xe.vn : Int)) (.string xr.st)).run Tryz.prog w8 = .ok () w9 := hrun
            clear h8 hg9 hgr9 H5
            go_wp2_with fail
            go_meet
            exact ⟨rfl, by rw [HA2.out]; exact ⟨HE.out, HJ.out.2⟩⟩
        --}
      case rest =>
      obtain ⟨rfl, hcut⟩ := hcut
      obtain ⟨s1, hs1⟩ : ∃ s, s = svA l y.s s0 := ⟨_, rfl⟩
      have HST := Lib.hid (show svRun l nm (M.stays.map (·.s)) js z (k + 1) = svB l nm (M.stays.map (·.s)) js k y.s s1 by rw [HS.out.1, hs1])
      rw [← hs1] at hcut
      have HC := Lib.hid hcut
      clear hs1 hcut d7 d9 cg2' hvy hry hrv HJ HA HPR
      have hrow : RowEv wc ad (js.map (evAt l)) := ⟨by rw [List.length_map]; exact HH.out.2.2.2.2.1, fun i hi => by
        have hp : wc.ownsRow 0 36 19 (.slice ad js.length cap) js.length (rowsA l js) := HC.out.1.part (p := allPc (.slice ad js.length cap) js.length (rowsA l js)) (List.mem_cons_of_mem _ (List.mem_cons_of_mem _ List.mem_cons_self))
        have h := all_at hp (i := i) (by simpa using hi)
        simpa using h⟩
      have HAH := Lib.hid (ahead_gen (k := k) HC.out.1 HH.out.1 js ad cap hrow HH.out.2.2.2.1 HH.out.2.2.2.2.2.1 HS.out.2.2.1)
      rw [← HH.out.2.2.2.2.2.2.2.2.2] at HAH
      unfold ptrV at HAH
      rw [← HS.out.2.2.2.2.1] at HAH
      obtain ⟨ah, hah⟩ : ∃ x, x = aheadJ l (M.stays.map (·.s)) js k y.s := ⟨_, rfl⟩
      rw [← hah] at HAH
      have HAE := Lib.hid hah
      clear hrow hah
      have HLG := Lib.hid HS.out.2.2.2.2.2
      go_wp2_with fail
      refine HAH.out.mono ?_
      rintro e9 w10 ⟨rfl, hb10⟩
      have HC2 := Lib.hid (show SvAt wB g o N l M (allPc (.slice ad js.length cap) js.length (rowsA l js) :: R) fb sb s1 w10 from ⟨HC.out.1.below hb10, HC.out.2⟩)
      clear hb10 HAH HC
      cases ah with
      | none =>
        have HE := Lib.hid (show SvAt wB g o N l M (allPc (.slice ad js.length cap) js.length (rowsA l js) :: R) fb sb (svRun l nm (M.stays.map (·.s)) js z (k + 1)) w10 from by
          rw [HST.out]
          unfold svB
          rw [← HAE.out]
          exact HC2.out)
        have hnil : ptrS M none = .pointer none := rfl
        rw [hnil]
        clear HC2 HST HAE hnil
        go_wp2_with fail
        go_roundg (n - (k + 1))
        case measure => have := HLG.out; omega
        case rel => exact ⟨k + 1, by have := HLG.out; omega, by go_num, HE⟩
      | some bi =>
      obtain ⟨hbl, bs, hbs, hhit⟩ := (show bi < (M.stays.map (fun x : JX => x.s)).length ∧ ∃ s : JS, (M.stays.map (fun x : JX => x.s))[bi]? = some s ∧ hitJ l (evAt l (js.getD ((idxB (aheadQ l y.s) (js.map (evAt l))).toNat - 1) 0)).vn s = true from by
        have h := HAE.out.symm
        unfold aheadJ at h
        split at h
        · cases h
        · exact chainJ_lt h)
      have hbl2 : bi < M.stays.length := by rw [List.length_map] at hbl; exact hbl
      obtain ⟨b, hb⟩ : ∃ b : JX, M.stays[bi]? = some b := ⟨_, List.getElem?_eq_getElem hbl2⟩
      clear hbl2
      have hbm : b ∈ M.stays := List.mem_of_getElem? hb
      obtain rfl : bs = b.s := by
        rw [List.getElem?_map, hb] at hbs
        injection hbs with h
        exact h.symm
      obtain ⟨e, hvw⟩ : ∃ e, b.s.vw = some e := by
        unfold hitJ at hhit
        cases h : b.s.vw with
        | none => rw [h] at hhit; cases hhit
        | some e => exact ⟨e, rfl⟩
      have HB := Lib.hid (And.intro hb (And.intro hbm (And.intro hbs (And.intro hvw ((HC2.out.1.xok hbm).vw e hvw)))))
      have HBE := Lib.hid (show svB l nm (M.stays.map (·.s)) js k y.s s1 = if goesB nm y.s b.s = true then svC l (M.stays.map (·.s)) y.s b.s bi s1 else s1 from by
        unfold svB
        rw [← HAE.out]
        show (match (M.stays.map (fun x : JX => x.s))[bi]? with | none => s1 | some b => if goesB nm y.s b = true then svC l (M.stays.map (fun x : JX => x.s)) y.s b bi s1 else s1) = _
        rw [hbs])
      have HW := Lib.hid (own_gen HC2.out.1 HH.out.1 HH.out.2.1 HS.out.2.2.2.1)
      unfold ptrV at HW
      rw [← HS.out.2.2.2.2.1] at HW
      obtain ⟨on, hon⟩ : ∃ x, x = (ownJ nm y.s).1 := ⟨_, rfl⟩
      obtain ⟨ob, hob⟩ : ∃ x, x = (ownJ nm y.s).2 := ⟨_, rfl⟩
      rw [← hon, ← hob] at HW
      unfold nameC at HW
      have HO := Lib.hid (And.intro hon hob)
      rw [ptrS_some hb]
      obtain ⟨bb, hbb⟩ : ∃ x, x = b.b := ⟨_, rfl⟩
      rw [← hbb]
      have HBB := Lib.hid hbb
      clear hbl hbs hhit hb hbm hvw hon hob HAE hbb
      go_wp2_with fail
      refine HW.out.mono ?_
      rintro e11 w11 ⟨rfl, hb11⟩
      obtain ⟨K, hK⟩ : ∃ K, K = w11.heap.size := ⟨_, rfl⟩
      obtain ⟨w12, hw12⟩ : ∃ x, x = w11.alloc (.cells #[.int .i64 on.1, .int .u32 (on.2 : Int)] 97) := ⟨_, rfl⟩
      have hJ12 := (HC2.out.1.below hb11).var #[.int .i64 on.1, .int .u32 (on.2 : Int)] 97 (by decide) (by decide)
      rw [← hw12, ← hK] at hJ12
      have H12 := Lib.hid (And.intro hJ12 HC2.out.2)
      clear hb11 hJ12 HW HC2
      go_upto_region 12 with (fail)
      rw [← hw12, ← hK]
      clear hw12 hK
      obtain ⟨gb, hgb⟩ : ∃ x, x = goesB nm y.s b.s := ⟨_, rfl⟩
      go_cut [10, 97] (fun s10 s97 wx => s10 = .pointer (some ⟨bb, 0, none⟩) ∧ s97 = .bool (!gb) ∧ SvAt wB g o N l M (allPc (.slice ad js.length cap) js.length (rowsA l js) :: R) fb sb s1 wx)
      case first =>
        --{
        have HGD := Lib.hid (show gb = (ob && (nm e).contains on) from by
          rw [hgb]
          unfold goesB
          rw [HB.out.2.2.2.1, ← HO.out.1, ← HO.out.2])
        clear hgb
        have hel := HB.out.2.2.2.2
        have hxe : l[e]? = some l[e] := List.getElem?_eq_getElem hel
        obtain ⟨xe, hxe2⟩ : ∃ x, x = l[e] := ⟨_, rfl⟩
        rw [← hxe2] at hxe
        have HT12 := HH.out.1.below H12.out.1.bel
        have k7 := H12.out.1.cell HB.out.2.1 7 (v := evP g o b.s.vw) rfl
        rw [HB.out.2.2.2.1, ← HBB.out] at k7
        have k7' : ∀ z : Bel w12, z.val.cell? ⟨bb, 7, none⟩ = some (.pointer (some ⟨g, o + e * 19, none⟩)) := k7
        obtain ⟨n1, n2⟩ := HT12.nms e HB.out.2.2.2.2
        rw [← hxe2] at n1 n2
        have v17 : ∀ z : Bel w12, z.val.cell? ⟨g, o + e * 19 + 17, none⟩ = some (.slice xe.na xe.nl xe.nc) := HT12.cell hxe 17 rfl
        have hkb := H12.out.1.part (p := varPc K #[.int .i64 on.1, .int .u32 (on.2 : Int)] 97 (by decide) (by decide)) List.mem_cons_self
        have kk0 := Bel.cell (show w12.cell? ⟨K, 0, none⟩ = some (.int .i64 on.1) from cell_of_row _ _ 0 _ _ _ hkb) (Array.getElem?_eq_some_iff.1 hkb).1
        have kk1 := Bel.cell (show w12.cell? ⟨K, 1, none⟩ = some (.int .u32 (on.2 : Int)) from cell_of_row _ _ 1 _ _ _ hkb) (Array.getElem?_eq_some_iff.1 hkb).1
        have hnl : xe.nl ≤ 9223372036854775807 := by have := (HH.out.2.1 xe (by rw [hxe2]; exact List.getElem_mem hel)).2; omega
        rw [← n1] at n2 v17
        have HN := Lib.hid (show ∀ W, Below w12.heap.size w12 W → Calls Tryz.prog 37 #[.slice xe.na (nm e).length xe.nc, .agg #[.int .i64 on.1, .int .u32 (on.2 : Int)]] W fun e' w' => e' = .returned (.bool ((nm e).contains on)) ∧ Below W.heap.size W w' from fun W hW => hasName_any on (nm e) xe.na xe.nc W (reads_moreE (n2.below hW) hW.size) (by rw [n1]; exact hnl))
        clear hxe hxe2 HT12 k7 n1 n2 hkb hnl hel
        generalize (nm e).length = nl at *
        generalize xe.na = na at *
        generalize xe.nc = nc at *
        generalize on.1 = o1 at *
        generalize (on.2 : Int) = o2 at *
        cases ob
        · obtain rfl : gb = false := HGD.out
          clear HN
          refine wp_region_bel (by kernel_rfl) (by kernel_rfl) ?_
          repeat (go_big_quiet_step ((fail)))
          refine wpQuiet_nil ?_
          intro w13 hw13
          have HE := Lib.hid ((H12.out.1.below (bel_out hw13)).drop (Q := [varPc K _ _ (by decide) (by decide)]))
          clear hw13 k7' v17 kk0 kk1
          go_wp2_with fail
          go_meet
          exact ⟨rfl, rfl, HE.out, H12.out.2⟩
        · rw [Bool.true_and] at HGD
          generalize (nm e).contains on = cb at *
          obtain rfl : gb = cb := HGD.out
          refine wp_region_bel (by kernel_rfl) (by kernel_rfl) ?_
          repeat (go_big_quiet_step ((go_at_call 37; rename_i y; with_reducible exact bel_call (HN.out y.val y.prop))))
          refine wpQuiet_nil ?_
          intro w13 hw13
          have HE := Lib.hid ((H12.out.1.below (bel_out hw13)).drop (Q := [varPc K _ _ (by decide) (by decide)]))
          clear hw13 k7' v17 kk0 kk1 HN
          go_wp2_with fail
          go_meet
          exact ⟨rfl, rfl, HE.out, H12.out.2⟩
        --}
      case rest =>
      obtain ⟨rfl, rfl, hcut⟩ := hcut
      have HC := Lib.hid hcut
      clear hcut H12
      cases gb
      · have HE := Lib.hid (show SvAt wB g o N l M (allPc (.slice ad js.length cap) js.length (rowsA l js) :: R) fb sb (svRun l nm (M.stays.map (·.s)) js z (k + 1)) wc from by
          rw [HST.out, HBE.out, ← hgb]
          exact HC.out)
        clear HC HST HBE hgb HO HB HBB
        go_wp2_with fail
        go_roundg (n - (k + 1))
        case measure => have := HLG.out; omega
        case rel => exact ⟨k + 1, by have := HLG.out; omega, by go_num, HE⟩
      have HBC := Lib.hid (show svRun l nm (M.stays.map (·.s)) js z (k + 1) = svC l (M.stays.map (·.s)) y.s b.s bi s1 from by rw [HST.out, HBE.out, ← hgb]; rfl)
      clear HST HBE hgb HO
      obtain ⟨zz, hzz⟩ : ∃ x, x = s1.1 := ⟨_, rfl⟩
      obtain ⟨F1, hF1⟩ : ∃ x, x = s1.2.1 := ⟨_, rfl⟩
      obtain ⟨S1, hS1⟩ : ∃ x, x = s1.2.2 := ⟨_, rfl⟩
      have HJ := Lib.hid (show JZ wB g o l (mapPc uV fb (vals (nthJ M.stays) F1) :: mapPc uV sb (vals strV S1) :: allPc (.slice ad js.length cap) js.length (rowsA l js) :: R) N M zz wc ∧ ∀ p ∈ F1, p.2 < M.stays.length from by rw [hzz, hF1, hS1]; exact HC.out)
      have HD := Lib.hid (show svC l (M.stays.map (·.s)) y.s b.s bi s1 = (rdyZ l y.s b.s (upsZ l (M.stays.map (·.s)) b.s F1 zz), put F1 (numV l b.s) bi, S1) from by rw [hzz, hF1, hS1]; rfl)
      clear hzz hF1 hS1 HC
      have hel := HB.out.2.2.2.2
      have hxe : l[e]? = some l[e] := List.getElem?_eq_getElem hel
      obtain ⟨xe, hxe2⟩ : ∃ x, x = l[e] := ⟨_, rfl⟩
      rw [← hxe2] at hxe
      have k7 := HJ.out.1.cell HB.out.2.1 7 (v := evP g o b.s.vw) rfl ⟨wc, br wc⟩
      rw [HB.out.2.2.2.1, ← HBB.out] at k7
      have k7' : wc.cell? ⟨bb, 7, none⟩ = some (.pointer (some ⟨g, o + e * 19, none⟩)) := k7
      have v13 : wc.cell? ⟨g, o + e * 19 + 13, none⟩ = some (.int .u64 (xe.vn : Int)) := (HH.out.1.below HJ.out.1.bel).cell hxe 13 rfl ⟨wc, br wc⟩
      have hnum : numV l b.s = (xe.vn : Int) := by rw [numV_some HB.out.2.2.2.1, evAt_of hxe]
      have hgm : GMap uV wc fb (vals (nthJ M.stays) F1) := HJ.out.1.part List.mem_cons_self
      have hlk0 := hgm.lookup (P := Tryz.prog) Tryz.underlying103 uLaw (Tryz.zeroValue51 wc) (xe.vn : Int)
      rw [get_vals] at hlk0
      obtain ⟨pr, hpr⟩ : ∃ pr, ((get F1 (xe.vn : Int)).map (nthJ M.stays)).getD (.pointer none) = .pointer pr := by
        cases get F1 (xe.vn : Int) with
        | none => exact ⟨none, rfl⟩
        | some i => exact ⟨_, rfl⟩
      have hlk : (Instr.lookup 103 (.map (some fb)) (.int .u64 (xe.vn : Int)) false).run Tryz.prog wc = .ok (.pointer pr) wc := by rw [← hpr]; exact hlk0
      have HPR := Lib.hid hpr
      have HNUM := Lib.hid hnum
      clear hxe hxe2 k7 hnum hgm hpr hel hlk0
      go_upto_if 110 with (fail)
      clear k7' v13 hlk
      obtain ⟨z2, hz2⟩ : ∃ x, x = upsZ l (M.stays.map (·.s)) b.s F1 zz := ⟨_, rfl⟩
      go_cut [7, 10, 13, 110] (fun s7 s10 s13 s110 wx => s7 = .pointer (some ⟨yb, 0, none⟩) ∧ s10 = .pointer (some ⟨bb, 0, none⟩) ∧ s13 = .int .u64 (xe.vn : Int) ∧ JZ wB g o l (mapPc uV fb (vals (nthJ M.stays) F1) :: mapPc uV sb (vals strV S1) :: allPc (.slice ad js.length cap) js.length (rowsA l js) :: R) N M z2 wx)
      case first =>
        --{
        have hz3 : z2 = (match get F1 (xe.vn : Int) with
          | none => zz
          | some oi => match (M.stays.map (fun x : JX => x.s))[oi]? with
            | none => zz
            | some p => wrongZ 5 zz (!sameL (upsJ l p) (upsJ l b.s))) := by rw [hz2, ← HNUM.out]; rfl
        have hpr := HPR.out
        rcases hget : get F1 (xe.vn : Int) with _ | oi
        · rw [hget] at hz3 hpr
          obtain rfl : pr = none := by injection hpr with h; exact h.symm
          have HZ3 := Lib.hid (show z2 = zz from hz3)
          clear hz3 hz2 hpr hget
          go_wp2_with fail
          go_meet
          exact ⟨rfl, rfl, rfl, by rw [HZ3.out]; exact HJ.out.1⟩
        · rw [hget] at hz3 hpr
          have hoi : oi < M.stays.length := by
            obtain ⟨q, hq, h1, h2⟩ : ∃ q ∈ F1, q.1 = (xe.vn : Int) ∧ q.2 = oi := by
              unfold GM.get at hget
              rw [Option.map_eq_some_iff] at hget
              obtain ⟨q, h1, h2⟩ := hget
              exact ⟨q, List.mem_of_find?_eq_some h1, by have := List.find?_some h1; simpa using this, h2⟩
            rw [← h2]
            exact HJ.out.2 q hq
          obtain ⟨p, hp⟩ : ∃ p : JX, M.stays[oi]? = some p := ⟨_, List.getElem?_eq_getElem hoi⟩
          have hpm : p ∈ M.stays := List.mem_of_getElem? hp
          have hnt : nthJ M.stays oi = ptrV p.b := by
            rw [nthJ_at hoi]
            rw [List.getElem?_eq_getElem hoi] at hp
            injection hp with h
            rw [h]
          have hpr2 : nthJ M.stays oi = .pointer pr := hpr
          rw [hnt] at hpr2
          obtain rfl : pr = some ⟨p.b, 0, none⟩ := by injection hpr2 with h; exact h.symm
          have HZ3 := Lib.hid (show z2 = wrongZ 5 zz (!sameL (upsJ l p.s) (upsJ l b.s)) from by
            rw [hz3]
            show (match (M.stays.map (fun x : JX => x.s))[oi]? with | none => zz | some p => wrongZ 5 zz (!sameL (upsJ l p) (upsJ l b.s))) = _
            rw [List.getElem?_map, hp]
            rfl)
          obtain ⟨r1, hlp, _⟩ := HJ.out.1.ups HH.out.1 HH.out.2.2.1 hpm
          obtain ⟨r2, hlb, _⟩ := HJ.out.1.ups HH.out.1 HH.out.2.2.1 HB.out.2.1
          have u1 := HJ.out.1.cell hpm 10 (v := .slice p.ua p.s.ups.length p.uc) rfl
          have u2 := HJ.out.1.cell HB.out.2.1 10 (v := .slice b.ua b.s.ups.length b.uc) rfl
          rw [← hlp] at u1
          rw [← hlb, ← HBB.out] at u2
          have HEQ := Lib.hid (fun (W : World) (hW : Below wc.heap.size wc W) => jeqFn_any (upsJ l p.s) (upsJ l b.s) p.ua b.ua p.uc b.uc W (r1.below hW) (r2.below hW))
          clear hz3 hz2 hpr hget hpr2 hnt hp hpm r1 r2 hlp hlb hoi
          generalize (upsJ l p.s).length = n1 at *
          generalize (upsJ l b.s).length = n2 at *
          generalize p.b = pb at *
          generalize p.ua = pa at *
          generalize p.uc = pc at *
          generalize b.ua = ba2 at *
          generalize b.uc = bc2 at *
          obtain ⟨sl, hsl⟩ : ∃ x, x = sameL (upsJ l p.s) (upsJ l b.s) := ⟨_, rfl⟩
          rw [← hsl] at HZ3 HEQ
          clear hsl
          go_upto_region 16 with (fail)
          refine wp_region_bel_tail 11 (by kernel_rfl) (by kernel_rfl) ?_
          simp only [List.take_succ_cons, List.take_zero, List.drop_succ_cons, List.drop_zero]
          repeat (go_big_quiet_step ((go_at_call 25; rename_i y; with_reducible exact bel_call (HEQ.out y.val y.prop))))
          refine wpQuiet_nil ?_
          intro w7 hw7
          have H7 := Lib.hid (HWR.out _ _ _ (HJ.out.1.below (bel_out hw7)) 5 (!sl))
          clear hw7 u1 u2 HEQ
          go_wp2_with fail
          refine H7.out.mono ?_
          rintro e7 w8 ⟨rfl, h8⟩
          have HE := Lib.hid h8
          clear h8 H7
          go_wp2_with fail
          go_meet
          exact ⟨rfl, rfl, rfl, by rw [HZ3.out]; exact HE.out⟩
        --}
      case rest =>
      obtain ⟨rfl, rfl, rfl, hcut⟩ := hcut
      have HJ2 := Lib.hid (And.intro hcut HJ.out.2)
      rw [HNUM.out, ← hz2] at HD
      clear hcut HPR HJ hz2
      have hgm : GMap uV wc fb (vals (nthJ M.stays) F1) := HJ2.out.1.part List.mem_cons_self
      obtain ⟨w9, hrun, hg9, hgr9, _⟩ := hgm.update (P := Tryz.prog) Tryz.underlying103 uLaw (xe.vn : Int) (nthJ M.stays bi)
      rw [put_vals (nthJ M.stays)] at hg9
      have hbi : bi < M.stays.length := (List.getElem?_eq_some_iff.1 HB.out.1).1
      have hnt : nthJ M.stays bi = .pointer (some ⟨bb, 0, none⟩) := by
        rw [nthJ_at hbi]
        have hp := HB.out.1
        rw [List.getElem?_eq_getElem hbi] at hp
        injection hp with h
        rw [h, HBB.out]
        rfl
      rw [hnt] at hrun
      have H9 := Lib.hid (show JZ wB g o l (mapPc uV fb (vals (nthJ M.stays) (put F1 (xe.vn : Int) bi)) :: mapPc uV sb (vals strV S1) :: allPc (.slice ad js.length cap) js.length (rowsA l js) :: R) N M z2 w9 ∧ ∀ p ∈ put F1 (xe.vn : Int) bi, p.2 < M.stays.length from ⟨HJ2.out.1.map hg9 hgr9, fun p hp => by
        rcases put_memJ hp with h | h
        · exact HJ2.out.2 p h
        · rw [h]; exact hbi⟩)
      have hrun : (Instr.mapUpdate 103 (.map (some fb)) (.int .u64 (xe.vn : Int)) (.pointer (some ⟨bb, 0, none⟩))).run Tryz.prog wc = .ok () w9 := hrun
      have HDN := Lib.hid (show svRun l nm (M.stays.map (·.s)) js z (k + 1) = (rdyZ l y.s b.s z2, put F1 (xe.vn : Int) bi, S1) from by rw [HBC.out, HD.out])
      have ky9 : w9.cell? ⟨yb, 9, none⟩ = some (evP g o y.s.rd) := by rw [HS.out.2.2.2.2.1]; exact H9.out.1.cell HS.out.2.2.2.1 9 rfl ⟨w9, br w9⟩
      have kb9 : w9.cell? ⟨bb, 9, none⟩ = some (evP g o b.s.rd) := by rw [HBB.out]; exact H9.out.1.cell HB.out.2.1 9 rfl ⟨w9, br w9⟩
      have hry := (H9.out.1.xok HS.out.2.2.2.1).rd
      have hrb := (H9.out.1.xok HB.out.2.1).rd
      clear hgm hg9 hgr9 hbi hnt HJ2 HD HBC HNUM
      rcases hrd : y.s.rd with _ | r
      · rw [hrd] at ky9
        have ky9' : w9.cell? ⟨yb, 9, none⟩ = some (.pointer none) := ky9
        have HE := Lib.hid (show SvAt wB g o N l M (allPc (.slice ad js.length cap) js.length (rowsA l js) :: R) fb sb (svRun l nm (M.stays.map (·.s)) js z (k + 1)) w9 from by
          rw [HDN.out]
          unfold rdyZ
          rw [hrd]
          exact H9.out)
        clear ky9 hrd HDN hry hrb H9
        go_wp2_with fail
        go_roundg (n - (k + 1))
        case measure => have := HLG.out; omega
        case rel => exact ⟨k + 1, by have := HLG.out; omega, by go_num, HE⟩
      rw [hrd] at ky9
      have ky9' : w9.cell? ⟨yb, 9, none⟩ = some (.pointer (some ⟨g, o + r * 19, none⟩)) := ky9
      rcases hrq : b.s.rd with _ | q
      · rw [hrq] at kb9
        have kb9' : w9.cell? ⟨bb, 9, none⟩ = some (.pointer none) := kb9
        have HE := Lib.hid (show SvAt wB g o N l M (allPc (.slice ad js.length cap) js.length (rowsA l js) :: R) fb sb (svRun l nm (M.stays.map (·.s)) js z (k + 1)) w9 from by
          rw [HDN.out]
          unfold rdyZ
          rw [hrd, hrq]
          exact H9.out)
        clear ky9 hrd HDN hry hrb H9 kb9 hrq
        go_wp2_with fail
        go_roundg (n - (k + 1))
        case measure => have := HLG.out; omega
        case rel => exact ⟨k + 1, by have := HLG.out; omega, by go_num, HE⟩
      rw [hrq] at kb9
      have kb9' : w9.cell? ⟨bb, 9, none⟩ = some (.pointer (some ⟨g, o + q * 19, none⟩)) := kb9
      have hrl := hry r hrd
      have hql := hrb q hrq
      have hxr : l[r]? = some l[r] := List.getElem?_eq_getElem hrl
      have hxq : l[q]? = some l[q] := List.getElem?_eq_getElem hql
      obtain ⟨xr, hxr2⟩ : ∃ x, x = l[r] := ⟨_, rfl⟩
      obtain ⟨xq, hxq2⟩ : ∃ x, x = l[q] := ⟨_, rfl⟩
      rw [← hxr2] at hxr
      rw [← hxq2] at hxq
      have hT9 := HH.out.1.below H9.out.1.bel
      have vr18 := hT9.cell hxr 18 (v := .string xr.st) rfl
      have vq18 := hT9.cell hxq 18 (v := .string xq.st) rfl
      have hqs : xq.st.size ≤ 140737488351232 := (hT9.ok hxq).st
      obtain ⟨r2, hlb, hpay⟩ := H9.out.1.ups HH.out.1 HH.out.2.2.1 HB.out.2.1
      have ub := H9.out.1.cell HB.out.2.1 10 (v := .slice b.ua b.s.ups.length b.uc) rfl
      rw [← hlb, ← HBB.out] at ub
      have hul : (upsJ l b.s).length ≤ 1000000 := by rw [hlb]; exact Nat.le_trans (H9.out.1.xok HB.out.2.1).ul HH.out.2.2.1
      have by9 := Bel.cell ky9' (cell_lt ky9')
      have bb9 := Bel.cell kb9' (cell_lt kb9')
      obtain ⟨bx, hbx⟩ : ∃ x, x = strNe xr.st (foldS xq.st ((upsJ l b.s).map stepJ)) := ⟨_, rfl⟩
      have HDZ := Lib.hid (show svRun l nm (M.stays.map (·.s)) js z (k + 1) = (wrongZ 6 z2 bx, put F1 (xe.vn : Int) bi, S1) from by
        rw [HDN.out]
        unfold rdyZ
        rw [hrd, hrq]
        show (wrongZ 6 z2 (strNe (evAt l r).st (foldS (evAt l q).st ((upsJ l b.s).map stepJ))), _, _) = _
        rw [evAt_of hxr, evAt_of hxq, hbx])
      have HST := Lib.hid (fun (W : World) (hW : Below w9.heap.size w9 W) => steps_any (upsJ l b.s) b.ua b.uc W (r2.below hW) (fun m hm => by have := hpay m hm; omega) (fun m hm => by have := dataI_size m.pay; have := hpay m hm; omega) hul)
      have HBX := Lib.hid hbx
      have HQS := Lib.hid (And.intro hqs hul)
      clear ky9 kb9 hry hrb hrd hrq hrl hql hxr hxq hxr2 hxq2 hT9 r2 hlb hpay hul HDN hbx hqs
      obtain ⟨UL, hUL⟩ : ∃ x, x = (upsJ l b.s).length := ⟨_, rfl⟩
      rw [← hUL] at ub HST
      have HUL := Lib.hid hUL
      generalize b.ua = ba2 at *
      generalize b.uc = bc2 at *
      clear hUL
      go_upto_region 19 with (fail)
      clear ky9' kb9'
      refine wp_region_mask (fun w' => ∃ x : Bel w9, w' = x.val) 22 4 [true, true, true, true, true, true, true, true, true, true, true, true, true, true, true, true, true, true, true, false, false, false, false] #[true, true, true, true, true, true, true, true, true, true, true, true, true, true, true, true, true, true, true, false, false, false, false] (by kernel_rfl) (by kernel_rfl) (by kernel_rfl) ⟨⟨_, (br w9).drew⟩, rfl⟩ ?_
      have HB0 := Lib.hid (show Below w9.heap.size w9 w9.drew from (br w9).drew)
      generalize w9.drew = V0 at *
      iterate 19
        refine wpMask_take _ (Or.inl ⟨by rfl, fun w' hS => by obtain ⟨z, rfl⟩ := hS; have q1 := by9 z; have q2 := bb9 z; have q3 := vr18 z; have q4 := vq18 z; have q5 := ub z; go_simp; try with_reducible rfl⟩) ?_
        simp only [Act.put, List.getElem_toArray, List.getElem_cons_succ, List.getElem_cons_zero, List.setIfInBounds_toArray, List.set_cons_zero, List.set_cons_succ]
      refine wpMask_skip (wpMask_skip (wpMask_skip (wpMask_skip (wpMask_nil ?_))))
      clear by9 bb9 vr18 vq18 ub
      refine wpAnyS_ready (rs := [19]) (by kernel_rfl) (by simp) ?_
      refine AllReadyS.cons rfl (fun K hK => ?_) AllReadyS.nil
      go_simp
      refine (HST.out V0 HB0.out).mono ?_
      rintro e5 V1 ⟨a1, c1, ⟨rfl, hr1⟩, hb1⟩
      have HB1 := Lib.hid (bt HB0.out hb1)
      have HFA := Lib.hid (foldAll_any xq.st ((upsJ l b.s).map stepJ) a1 c1 V1 (by have := HQS.out.1; omega) hr1)
      rw [List.length_map, ← HUL.out] at HFA
      rw [← HUL.out]
      refine hK.out _ _ (fun _ => ⟨⟨_, HB1.out⟩, rfl⟩) ?_
      clear hK K hb1 hr1 HB0 HST
      simp only [Act.put, List.getElem_toArray, List.getElem_cons_succ, List.getElem_cons_zero, List.setIfInBounds_toArray, List.set_cons_zero, List.set_cons_succ]
      refine wpAnyS_ready (rs := [20]) (by kernel_rfl) (by simp) ?_
      refine AllReadyS.cons rfl (fun K hK => ?_) AllReadyS.nil
      go_simp
      refine HFA.out.mono ?_
      rintro e6 V2 ⟨rfl, hb2⟩
      have HB2 := Lib.hid (bt HB1.out hb2)
      refine hK.out _ _ (fun _ => ⟨⟨_, HB2.out⟩, rfl⟩) ?_
      clear hK K hb2 HB1 HFA
      obtain ⟨ff, hff⟩ : ∃ x, x = foldS xq.st ((upsJ l b.s).map stepJ) := ⟨_, rfl⟩
      rw [← hff] at HBX ⊢
      have HFF := Lib.hid hff
      clear hff
      have hbx : (!xr.st.toList == ff.toList) = bx := HBX.out.symm
      simp only [Act.put, List.getElem_toArray, List.getElem_cons_succ, List.getElem_cons_zero, List.setIfInBounds_toArray, List.set_cons_zero, List.set_cons_succ]
      refine wpAnyS_ready (rs := [21]) (by kernel_rfl) (by simp) ?_
      refine AllReadyS.cons rfl (fun K hK => ?_) AllReadyS.nil
      go_simp
      (try rw [hbx])
      refine hK.out _ _ (fun _ => ⟨⟨_, HB2.out⟩, rfl⟩) ?_
      clear hK K hbx
      simp only [Act.put, List.getElem_toArray, List.getElem_cons_succ, List.getElem_cons_zero, List.setIfInBounds_toArray, List.set_cons_zero, List.set_cons_succ]
      refine wpAnyS_ready (rs := [22]) (by kernel_rfl) (by simp) ?_
      refine AllReadyS.cons rfl (fun K hK => ?_) AllReadyS.nil
      go_simp
      refine (HWR.out _ _ _ (H9.out.1.below HB2.out) 6 bx).mono ?_
      rintro e7 V3 ⟨rfl, h3⟩
      have HE := Lib.hid (show SvAt wB g o N l M (allPc (.slice ad js.length cap) js.length (rowsA l js) :: R) fb sb (svRun l nm (M.stays.map (·.s)) js z (k + 1)) V3 from by
        rw [HDZ.out]
        exact ⟨h3, H9.out.2⟩)
      refine hK.out _ _ (fun h => absurd h (by omega)) ?_
      clear hK K h3 HB2 H9 HDZ
      simp only [Act.put, List.getElem_toArray, List.getElem_cons_succ, List.getElem_cons_zero, List.setIfInBounds_toArray, List.set_cons_zero, List.set_cons_succ]
      refine wpAnyS_done (by kernel_rfl) ?_ _
      go_wp2_with fail
      go_roundg (n - (k + 1))
      case measure => have := HLG.out; omega
      case rel => exact ⟨k + 1, by have := HLG.out; omega, by go_num, HE⟩
    · have hdc : decide ((k : Int) < (n : Int)) = false := by rw [decide_eq_false_iff_not]; omega
      have hdn : decide (k < n) = false := by rw [decide_eq_false_iff_not]; omega
      have HE := Lib.hid (show FIN wr from by
        rw [HFIN.out]
        have h := HW.out
        rw [show k = n by omega] at h
        exact h.1.drop (Q := [mapPc uV fb _, mapPc uV sb _]))
      clear HW H0 hlt
      go_wp2_with fail
      go_end0
      exact ⟨rfl, HE.out⟩
end
end Go.Proofs.YtogagkgkmoppmaaGreatDoor
