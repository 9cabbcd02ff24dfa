/-
  The judge: those who went the same way delivered the same.
  Conditions: those that each theorem names.
-/
import Derived.Deep.CutBlock
import Derived.Test.YtogagkgkmoppmaaGreatDoorJuKZs
import Derived.Test.YtogagkgkmoppmaaGreatDoorJuT
namespace Go.Proofs.YtogagkgkmoppmaaGreatDoor
set_option linter.unusedVariables false
set_option linter.unusedSimpArgs false
open Go.RowKit GM
theorem pairs_at {l : List Ev} {t : J} {a : JS} {n : Nat} {b : JS} (h : t.stays[n]? = some b) : t.pairs l a (n + 1) = (t.pairs l a n).pair l a b := by
  show (match t.stays[n]? with
    | none => J.pairs l t a n
    | some b => (J.pairs l t a n).pair l a b) = _
  rw [h]
theorem safes_at {l : List Ev} {t : J} {a : JS} {n : Nat} {b : JS} (h : t.stays[n]? = some b) : t.safes l a (n + 1) = if decide (a.cf = b.cf) && b.nx.isSome then (t.safes l a n).safe l a b a.gots.length else t.safes l a n := by
  show (match t.stays[n]? with
    | none => J.safes l t a n
    | some b => if decide (a.cf = b.cf) && b.nx.isSome then (J.safes l t a n).safe l a b a.gots.length else J.safes l t a n) = _
  rw [h]
theorem tog_at {l : List Ev} {t : J} {i : Nat} {a : JS} (h : (t.tog l i).stays[i]? = some a) : t.tog l (i + 1) = ((t.tog l i).pairs l a i).safes l a (t.tog l i).stays.length := by
  show (J.tog l t i).tog1 l i = _
  unfold J.tog1
  rw [h]
theorem JB.at_ {wB w : World} {g o n : Nat} {l : List Ev} {R : List Pc} {M : JM} {t : J} (h : JB wB g o l R n M t w) {k : Nat} (hk : k < M.stays.length) : t.stays[k]? = some M.stays[k].s := by
  rw [h.stays]
  simp [hk]
theorem JB.cap {wB w : World} {g o n : Nat} {l : List Ev} {R : List Pc} {M : JM} {t : J} (h : JB wB g o l R n M t w) (h0 : 0 < M.stays.length) : M.stays.length ≤ M.sc := by
  obtain ⟨b, h1, _⟩ := h
  have hp := jown_ptr (M := M.bd b) h1.own
  rcases hp.2 with ⟨_, e⟩ | ⟨g, cap, cur, hv, _, _, hc, _⟩
  · have e : M.stays.length = 0 := e
    omega
  · injection hv with e1 e2 e3
    have e3 : M.sc = cap := e3
    have hc : M.stays.length ≤ cap := hc
    omega
set_option maxRecDepth 100000 in
set_option maxHeartbeats 16000000 in
theorem together_any {wB w : World} {g o N : Nat} {l : List Ev} {nm : Nat → List NameK} {R : List Pc} {M : JM} {t : J} (h : JB wB g o l R N M t w) (hT : Tr wB g o l nm) (hN : N ≤ 5000) (hgt : ∀ a ∈ M.stays, ∀ p ∈ a.s.gots, p.2 = true → a.s.tr.isSome = true) :
    Calls Tryz.prog 13 #[.pointer (some ⟨M.h.T, 0, none⟩)] w fun e w' => e = .returned (.tuple #[]) ∧ JB wB g o l R N M (t.tog l M.stays.length) w' := by
  obtain ⟨ns, hns⟩ : ∃ k, k = M.stays.length := ⟨_, rfl⟩
  obtain ⟨sa, hsa⟩ : ∃ a, a = M.sa := ⟨_, rfl⟩
  obtain ⟨sc, hsc⟩ : ∃ a, a = M.sc := ⟨_, rfl⟩
  obtain ⟨TT, hTT⟩ : ∃ T, T = M.h.T := ⟨_, rfl⟩
  have c1 : w.cell? ⟨TT, 1, none⟩ = some (.slice sa ns sc) := by rw [hTT, h.trace.2.2.2 ⟨w, br w⟩, hns, hsa, hsc]
  have hns9 : ns ≤ 5000 := by rw [hns]; exact Nat.le_trans h.cnt hN
  have H0 := Lib.hid (show JB wB g o l R N M (t.tog l 0) w from h)
  have HH := Lib.hid (And.intro hT (And.intro hN (And.intro hgt (And.intro hns (And.intro hsa (And.intro hsc hTT))))))
  rw [← hTT, ← hns]
  clear h hT hN hgt hns hsa hsc hTT
  go_enter Tryz.func13, Tryz.ntmps13
  go_wp2_with fail
  clear c1
  go_loopw [13] (fun i wr => ∃ k : Nat, k ≤ ns ∧ i = .int .i64 (k : Int) ∧ Hid (JB wB g o l R N M (t.tog l k) wr)) (fun i _ => ns - (intOf i).toNat)
  case atStart => exact ⟨0, by omega, rfl, H0⟩
  case round =>
    obtain ⟨k, hk, rfl, HW⟩ := hrel
    by_cases hkn : k < ns
    · have hq1 : decide ((k : Int) < (ns : Int)) = true := by rw [decide_eq_true_eq]; omega
      have hq2 : decide (k < ns) = true := by rw [decide_eq_true_eq]; omega
      have hq3 : (k : Int) < (ns : Int) := by omega
      have hkl : k < M.stays.length := by rw [← HH.out.2.2.2.1]; exact hkn
      obtain ⟨b, hsb, hbl, hcell⟩ := HW.out.nth hkl
      obtain ⟨a, ha⟩ : ∃ a, a = M.stays[k] := ⟨_, rfl⟩
      have ham : a ∈ M.stays := ha ▸ List.getElem_mem hkl
      have hta : (t.tog l k).stays[k]? = some a.s := by rw [ha]; exact HW.out.at_ hkl
      rw [← ha] at hcell
      have hsa' : sa = some ⟨b, 0, none⟩ := HH.out.2.2.2.2.1.trans hsb
      have c1 : wr.cell? ⟨TT, 1, none⟩ = some (.slice (some ⟨b, 0, none⟩) ns sc) := by rw [HH.out.2.2.2.2.2.2, HW.out.trace.2.2.2 ⟨wr, br wr⟩, HH.out.2.2.2.1, HH.out.2.2.2.2.2.1, hsb]
      have htl : (t.tog l k).stays.length = ns := by rw [HW.out.stays, List.length_map, ← HH.out.2.2.2.1]
      have HA := Lib.hid (And.intro ham (And.intro hta (And.intro hkn (And.intro hsb htl))))
      obtain ⟨ab, hab⟩ : ∃ z, z = a.b := ⟨_, rfl⟩
      unfold ptrV at hcell
      rw [← hab] at hcell
      have HAB := Lib.hid hab
      have H1 := Lib.hid (show JB wB g o l R N M ((t.tog l k).pairs l a.s 0) wr from HW.out)
      have hcap : k ≤ sc := by
        have h1 := HW.out.cap (by omega)
        have h2 := HH.out.2.2.2.1
        have h3 := HH.out.2.2.2.2.2.1
        omega
      have hcap2 : (k : Int) ≤ (sc : Int) := by omega
      rw [hsa']
      clear hkl hbl ha ham hta hkn hsb hsa' hab htl HW H0
      go_upto_block 2 with (fail)
      clear c1 hcell hcap hcap2
      have hk9 : k ≤ 5000 := by omega
      go_cut [] (fun wx => JB wB g o l R N M ((t.tog l k).pairs l a.s k) wx)
      case first =>
        go_wp2_with fail
        go_loopw [25] (fun i wr => ∃ e : Nat, e ≤ k ∧ i = .int .i64 (e : Int) ∧ Hid (JB wB g o l R N M ((t.tog l k).pairs l a.s e) wr)) (fun i _ => k - (intOf i).toNat)
        case atStart => exact ⟨0, by omega, rfl, H1⟩
        case round =>
          obtain ⟨e, he, rfl, HW⟩ := hrel
          by_cases hek : e < k
          ·
            --ROUND25
            have hr1 : decide ((e : Int) < (k : Int)) = true := by rw [decide_eq_true_eq]; omega
            have hr2 : decide (e < k) = true := by rw [decide_eq_true_eq]; omega
            have hr3 : (e : Int) < (k : Int) := by omega
            have hel : e < M.stays.length := by rw [← HH.out.2.2.2.1]; have := HA.out.2.2.1; omega
            obtain ⟨b2, hsb2, _, hcell⟩ := HW.out.nth hel
            obtain rfl : b = b2 := by
              have h := HA.out.2.2.2.1.symm.trans hsb2
              injection h with h
              injection h
            obtain ⟨y, hy⟩ : ∃ y, y = M.stays[e] := ⟨_, rfl⟩
            have hym : y ∈ M.stays := hy ▸ List.getElem_mem hel
            rw [← hy] at hcell
            obtain ⟨yb, hyb⟩ : ∃ z, z = y.b := ⟨_, rfl⟩
            unfold ptrV at hcell
            rw [← hyb] at hcell
            have hty : (t.tog l k).stays[e]? = some y.s := by rw [hy]; exact H1.out.at_ hel
            obtain ⟨tq, htq⟩ : ∃ q, q = (t.tog l k).pairs l a.s e := ⟨_, rfl⟩
            have hstep : (t.tog l k).pairs l a.s (e + 1) = tq.pair l a.s y.s := by rw [pairs_at hty, htq]
            rw [← htq] at HW
            have HY := Lib.hid (And.intro hym (And.intro hstep hyb))
            have HEK := Lib.hid (show e + 1 ≤ k from hek)
            have hsta := HW.out.st HA.out.1
            have hsty := HW.out.st hym
            rw [← HAB.out] at hsta
            rw [← hyb] at hsty
            have la := (Array.getElem?_eq_some_iff.1 hsta).1
            have ly := (Array.getElem?_eq_some_iff.1 hsty).1
            have a0 : ∀ z : Bel wr, z.val.cell? ⟨ab, 0, none⟩ = some (.int .i64 a.s.proc) := Bel.cell (cell_of_row _ _ 0 _ _ _ hsta) la
            have a1 : ∀ z : Bel wr, z.val.cell? ⟨ab, 1, none⟩ = some (.int .u64 a.s.cf.1) := Bel.cell (cell_of_row _ _ 1 _ _ _ hsta) la
            have a2 : ∀ z : Bel wr, z.val.cell? ⟨ab, 2, none⟩ = some (.int .i64 a.s.cf.2) := Bel.cell (cell_of_row _ _ 2 _ _ _ hsta) la
            have a5 : ∀ z : Bel wr, z.val.cell? ⟨ab, 5, none⟩ = some (evP g o a.s.tr) := Bel.cell (cell_of_row _ _ 5 _ _ _ hsta) la
            have a6 : ∀ z : Bel wr, z.val.cell? ⟨ab, 6, none⟩ = some (evP g o a.s.nx) := Bel.cell (cell_of_row _ _ 6 _ _ _ hsta) la
            have y0 : ∀ z : Bel wr, z.val.cell? ⟨yb, 0, none⟩ = some (.int .i64 y.s.proc) := Bel.cell (cell_of_row _ _ 0 _ _ _ hsty) ly
            have y1 : ∀ z : Bel wr, z.val.cell? ⟨yb, 1, none⟩ = some (.int .u64 y.s.cf.1) := Bel.cell (cell_of_row _ _ 1 _ _ _ hsty) ly
            have y2 : ∀ z : Bel wr, z.val.cell? ⟨yb, 2, none⟩ = some (.int .i64 y.s.cf.2) := Bel.cell (cell_of_row _ _ 2 _ _ _ hsty) ly
            have y5 : ∀ z : Bel wr, z.val.cell? ⟨yb, 5, none⟩ = some (evP g o y.s.tr) := Bel.cell (cell_of_row _ _ 5 _ _ _ hsty) ly
            have y6 : ∀ z : Bel wr, z.val.cell? ⟨yb, 6, none⟩ = some (evP g o y.s.nx) := Bel.cell (cell_of_row _ _ 6 _ _ _ hsty) ly
            have HTR := Lib.hid (HH.out.1.below HW.out.bel)
            have hta1 : ∀ q, a.s.tr = some q → q < l.length := fun q => (HW.out.xok HA.out.1).tr q
            have hty1 : ∀ q, y.s.tr = some q → q < l.length := fun q => (HW.out.xok hym).tr q
            have HTE := Lib.hid (And.intro hta1 hty1)
            have HC := Lib.hid (fun (w5 : World) (hb : Below wr.heap.size wr w5) (bv : Bool) => (HW.out.below hb).br1 5 bv)
            rw [← HH.out.2.2.2.2.2.2] at HC
            have HPA := Lib.hid (fun (w5 : World) (hb : Below wr.heap.size wr w5) (bv : Bool) => part_any a w5 bv ((HW.out.below hb).st HA.out.1) ((HW.out.below hb).gots HH.out.1 (by have := HH.out.2.1; omega) HA.out.1))
            have HPY := Lib.hid (fun (w5 : World) (hb : Below wr.heap.size wr w5) (bv : Bool) => part_any y w5 bv ((HW.out.below hb).st HY.out.1) ((HW.out.below hb).gots HH.out.1 (by have := HH.out.2.1; omega) HY.out.1))
            unfold ptrV at HPA HPY
            rw [← HAB.out] at HPA
            rw [← HY.out.2.2] at HPY
            have HSK := Lib.hid (fun (w5 : World) (hb : Below wr.heap.size wr w5) (hp : pairJ l a.s y.s = false) => show JB wB g o l R N M ((t.tog l k).pairs l a.s (e + 1)) w5 from by
              rw [HY.out.2.1]
              unfold J.pair
              rw [hp]
              exact HW.out.below hb)
            clear hel hsb2 hy hym hyb hty htq hstep hek hsta hsty la ly hta1 hty1
            have hce := fun W => confNeq W a.s.cf.1 a.s.cf.2 y.s.cf.1 y.s.cf.2
            obtain ⟨DC, hDC⟩ : ∃ c, c = (a.s.cf.1 == y.s.cf.1 && a.s.cf.2 == y.s.cf.2) := ⟨_, rfl⟩
            rw [← hDC] at hce
            have hcf : decide (a.s.cf = y.s.cf) = DC := by
              rw [hDC, Bool.eq_iff_iff]
              simp [Prod.ext_iff]
            have hpj : pairJ l a.s y.s = (DC && !decide (a.s.proc = y.s.proc) && a.s.nx.isSome && y.s.nx.isSome && (match a.s.tr, y.s.tr with
              | some e, some f => decide (evN l e = evN l f)
              | _, _ => false)) := by
              unfold pairJ
              rw [hcf]
              cases a.s.tr <;> cases y.s.tr <;> rfl
            clear hDC hcf
            have HPJ := Lib.hid hpj
            clear hpj
            generalize a.s.cf.1 = ae at *
            generalize a.s.cf.2 = ar at *
            generalize y.s.cf.1 = ye at *
            generalize y.s.cf.2 = yr at *
            generalize hap : a.s.proc = ap at *
            generalize hyp : y.s.proc = yp at *
            generalize hax : a.s.nx = ax at *
            generalize hyx : y.s.nx = yx at *
            generalize hat : a.s.tr = atr at *
            generalize hyt : y.s.tr = ytr at *
            have HDF := Lib.hid (And.intro hat hyt)
            clear hap hyp hax hyx hat hyt HW
            go_wp2_with fail
            clear hcell
            cases DC
            · refine wp_region_bel (by kernel_rfl) (by kernel_rfl) ?_
              simp only [List.append_eq, List.cons_append, List.nil_append]
              repeat (go_big_quiet_step ((fail)))
              refine wpQuiet_nil ?_
              intro w5 hw5
              have HE := Lib.hid (HSK.out w5 (bel_out hw5) (by rw [HPJ.out]; rfl))
              clear hw5 a0 a1 a2 a5 a6 y0 y1 y2 y5 y6 hce HC HPA HPY H1
              go_wp2_with fail
              exact ⟨⟨e + 1, HEK.out, by go_num, HE⟩, by have := HEK.out; simp [intOf]; omega⟩
            · by_cases hpp : ap = yp
              · have hp1 : decide (ap = yp) = true := by simpa using hpp
                have hp2 : (ap == yp) = true := by simpa using hpp
                refine wp_region_bel (by kernel_rfl) (by kernel_rfl) ?_
                simp only [List.append_eq, List.cons_append, List.nil_append]
                repeat (go_big_quiet_step ((fail)))
                refine wpQuiet_nil ?_
                intro w5 hw5
                have HE := Lib.hid (HSK.out w5 (bel_out hw5) (by rw [HPJ.out, hp1]; rfl))
                clear hw5 a0 a1 a2 a5 a6 y0 y1 y2 y5 y6 hce HC HPA HPY H1 hp1 hp2 hpp
                go_wp2_with fail
                exact ⟨⟨e + 1, HEK.out, by go_num, HE⟩, by have := HEK.out; simp [intOf]; omega⟩
              · have hp1 : decide (ap = yp) = false := by simpa using hpp
                have hp2 : (ap == yp) = false := by simpa using hpp
                cases ax with
                | none =>
                  replace a6 : ∀ z : Bel wr, z.val.cell? ⟨ab, 6, none⟩ = some (.pointer none) := a6
                  refine wp_region_bel (by kernel_rfl) (by kernel_rfl) ?_
                  simp only [List.append_eq, List.cons_append, List.nil_append]
                  repeat (go_big_quiet_step ((fail)))
                  refine wpQuiet_nil ?_
                  intro w5 hw5
                  have HE := Lib.hid (HSK.out w5 (bel_out hw5) (by rw [HPJ.out, hp1]; rfl))
                  clear hw5 a0 a1 a2 a5 a6 y0 y1 y2 y5 y6 hce HC HPA HPY H1 hp1 hp2 hpp
                  go_wp2_with fail
                  exact ⟨⟨e + 1, HEK.out, by go_num, HE⟩, by have := HEK.out; simp [intOf]; omega⟩
                | some axk =>
                  replace a6 : ∀ z : Bel wr, z.val.cell? ⟨ab, 6, none⟩ = some (.pointer (some ⟨g, o + axk * 19, none⟩)) := a6
                  cases yx with
                  | none =>
                    replace y6 : ∀ z : Bel wr, z.val.cell? ⟨yb, 6, none⟩ = some (.pointer none) := y6
                    refine wp_region_bel (by kernel_rfl) (by kernel_rfl) ?_
                    simp only [List.append_eq, List.cons_append, List.nil_append]
                    repeat (go_big_quiet_step ((fail)))
                    refine wpQuiet_nil ?_
                    intro w5 hw5
                    have HE := Lib.hid (HSK.out w5 (bel_out hw5) (by rw [HPJ.out, hp1]; rfl))
                    clear hw5 a0 a1 a2 a5 a6 y0 y1 y2 y5 y6 hce HC HPA HPY H1 hp1 hp2 hpp
                    go_wp2_with fail
                    exact ⟨⟨e + 1, HEK.out, by go_num, HE⟩, by have := HEK.out; simp [intOf]; omega⟩
                  | some yxk =>
                    replace y6 : ∀ z : Bel wr, z.val.cell? ⟨yb, 6, none⟩ = some (.pointer (some ⟨g, o + yxk * 19, none⟩)) := y6
                    cases atr with
                    | none =>
                      replace a5 : ∀ z : Bel wr, z.val.cell? ⟨ab, 5, none⟩ = some (.pointer none) := a5
                      refine wp_region_bel (by kernel_rfl) (by kernel_rfl) ?_
                      simp only [List.append_eq, List.cons_append, List.nil_append]
                      repeat (go_big_quiet_step ((fail)))
                      refine wpQuiet_nil ?_
                      intro w5 hw5
                      have HE := Lib.hid (HSK.out w5 (bel_out hw5) (by rw [HPJ.out, hp1]; rfl))
                      clear hw5 a0 a1 a2 a5 a6 y0 y1 y2 y5 y6 hce HC HPA HPY H1 hp1 hp2 hpp
                      go_wp2_with fail
                      exact ⟨⟨e + 1, HEK.out, by go_num, HE⟩, by have := HEK.out; simp [intOf]; omega⟩
                    | some ai =>
                      replace a5 : ∀ z : Bel wr, z.val.cell? ⟨ab, 5, none⟩ = some (.pointer (some ⟨g, o + ai * 19, none⟩)) := a5
                      cases ytr with
                      | none =>
                        replace y5 : ∀ z : Bel wr, z.val.cell? ⟨yb, 5, none⟩ = some (.pointer none) := y5
                        refine wp_region_bel (by kernel_rfl) (by kernel_rfl) ?_
                        simp only [List.append_eq, List.cons_append, List.nil_append]
                        repeat (go_big_quiet_step ((fail)))
                        refine wpQuiet_nil ?_
                        intro w5 hw5
                        have HE := Lib.hid (HSK.out w5 (bel_out hw5) (by rw [HPJ.out, hp1]; rfl))
                        clear hw5 a0 a1 a2 a5 a6 y0 y1 y2 y5 y6 hce HC HPA HPY H1 hp1 hp2 hpp
                        go_wp2_with fail
                        exact ⟨⟨e + 1, HEK.out, by go_num, HE⟩, by have := HEK.out; simp [intOf]; omega⟩
                      | some yi =>
                        replace y5 : ∀ z : Bel wr, z.val.cell? ⟨yb, 5, none⟩ = some (.pointer (some ⟨g, o + yi * 19, none⟩)) := y5
                        have hai := HTE.out.1 ai rfl
                        have hyi := HTE.out.2 yi rfl
                        obtain ⟨xa, hxa⟩ : ∃ x, l[ai]? = some x := ⟨_, List.getElem?_eq_getElem hai⟩
                        obtain ⟨xy, hxy⟩ : ∃ x, l[yi]? = some x := ⟨_, List.getElem?_eq_getElem hyi⟩
                        have u4 := HTR.out.cell hxa 4 (v := .int .u64 (xa.ne : Int)) rfl
                        have u5 := HTR.out.cell hxa 5 (v := .int .i64 xa.nr) rfl
                        have u6 := HTR.out.cell hxa 6 (v := .int .u64 (xa.mem : Int)) rfl
                        have v4 := HTR.out.cell hxy 4 (v := .int .u64 (xy.ne : Int)) rfl
                        have v5 := HTR.out.cell hxy 5 (v := .int .i64 xy.nr) rfl
                        have v6 := HTR.out.cell hxy 6 (v := .int .u64 (xy.mem : Int)) rfl
                        have hne := fun W => confNeq W (xa.ne : Int) xa.nr (xy.ne : Int) xy.nr
                        obtain ⟨DN, hDN⟩ : ∃ c, c = ((xa.ne : Int) == (xy.ne : Int) && xa.nr == xy.nr) := ⟨_, rfl⟩
                        rw [← hDN] at hne
                        have HPK := Lib.hid (show pairJ l a.s y.s = DN from by
                          rw [HPJ.out, hp1, hDN]
                          simp only [evN, hxa, hxy, Bool.not_false, Bool.and_true, Bool.true_and, Option.isSome_some]
                          rw [Bool.eq_iff_iff]
                          simp [next, Prod.ext_iff])
                        have hnm : ∀ o : JS, diffJ.newMem l o = (match o.tr with
                          | none => 0
                          | some e => evM l e) := fun _ => rfl
                        have HDJ := Lib.hid (show diffJ l a.s y.s = ((!(xa.mem == xy.mem) || !sameL (partJ l a.s false) (partJ l y.s false)) || !sameL (partJ l a.s true) (partJ l y.s true)) from by
                          unfold diffJ
                          rw [hnm, hnm, HDF.out.1, HDF.out.2]
                          simp only [evM, hxa, hxy])
                        clear hDN hxa hxy hai hyi hnm
                        generalize (xa.ne : Int) = ane at *
                        generalize xa.nr = anr at *
                        generalize (xy.ne : Int) = yne at *
                        generalize xy.nr = ynr at *
                        generalize xa.mem = am at *
                        generalize xy.mem = ym at *
                        cases DN
                        · refine wp_region_bel (by kernel_rfl) (by kernel_rfl) ?_
                          simp only [List.append_eq, List.cons_append, List.nil_append]
                          repeat (go_big_quiet_step ((fail)))
                          refine wpQuiet_nil ?_
                          intro w5 hw5
                          have HE := Lib.hid (HSK.out w5 (bel_out hw5) (HPK.out))
                          clear hw5 a0 a1 a2 a5 a6 y0 y1 y2 y5 y6 hce HC HPA HPY H1 u4 u5 u6 v4 v5 v6 hne hp1 hp2 hpp
                          go_wp2_with fail
                          exact ⟨⟨e + 1, HEK.out, by go_num, HE⟩, by have := HEK.out; simp [intOf]; omega⟩
                        · as_aux_lemma =>
                            refine wp_region_bel (by kernel_rfl) (by kernel_rfl) ?_
                            simp only [List.append_eq, List.cons_append, List.nil_append]
                            repeat (go_big_quiet_step ((fail)))
                            refine wpQuiet_nil ?_
                            intro w4 hw4
                            have hb4 := bel_out hw4
                            have hz : ∀ {ad : Addr} {v : Value}, (∀ z : Bel wr, z.val.cell? ad = some v) → ∀ z : Bel w4, z.val.cell? ad = some v := fun h z => h ⟨z.val, bt hb4 z.prop⟩
                            replace a5 := hz a5
                            replace y5 := hz y5
                            replace u6 := hz u6
                            replace v6 := hz v6
                            have HC4 := Lib.hid (fun (w5 : World) (hb : Below w4.heap.size w4 w5) => HC.out w5 (bt hb4 hb))
                            have HPA4 := Lib.hid (fun (w5 : World) (hb : Below w4.heap.size w4 w5) => HPA.out w5 (bt hb4 hb))
                            have HPY4 := Lib.hid (fun (w5 : World) (hb : Below w4.heap.size w4 w5) => HPY.out w5 (bt hb4 hb))
                            clear HC HPA HPY HTR HSK
                            have HC := HC4
                            have HPA := HPA4
                            have HPY := HPY4
                            clear hz hb4 HC4 HPA4 HPY4 hw4 a0 a1 a2 a6 y0 y1 y2 y6 hce u4 u5 v4 v5 hne hp1 hp2 hpp H1
                            have HPP := Lib.hid (fun (w9 : World) (h : JB wB g o l R N M (tq.br 5 (diffJ l a.s y.s)) w9) => show JB wB g o l R N M ((t.tog l k).pairs l a.s (e + 1)) w9 from by
                              rw [HY.out.2.1]
                              unfold J.pair
                              rw [HPK.out]
                              exact h)
                            rw [HDJ.out] at HPP
                            have HEQ1 := Lib.hid (fun xa ya xc yc w hx hy => jeqFn_any (partJ l a.s false) (partJ l y.s false) xa ya xc yc w hx hy)
                            have HEQ2 := Lib.hid (fun xa ya xc yc w hx hy => jeqFn_any (partJ l a.s true) (partJ l y.s true) xa ya xc yc w hx hy)
                            generalize sameL (partJ l a.s false) (partJ l y.s false) = r1 at *
                            generalize sameL (partJ l a.s true) (partJ l y.s true) = r2 at *
                            clear HPK HDJ HPJ HDF HTE
                            go_upto_region 7 with (fail)
                            by_cases hmm : am = ym
                            · subst hmm
                              simp only [beq_self_eq_true, Bool.not_true, Bool.false_or] at HPP
                              cases r1
                              · as_aux_lemma =>
                                  refine wp_region_mask (fun w' => ∃ z : Bel w4, w' = z.val) 32 14 [true, true, true, true, true, true, true, true, true, true, true, true, true, true, true, true, true, true, false, true, false, false, false, false, false, false, false, false, false, false, false, false, false] #[true, true, true, true, true, true, true, true, true, true, true, true, true, true, true, true, true, true, false, true, false, false, false, false, false, false, false, false, false, false, false, false, false] (by kernel_rfl) (by kernel_rfl) (by kernel_rfl) ⟨⟨_, (br w4).drew⟩, rfl⟩ ?_
                                  have HB0 := Lib.hid (show Below w4.heap.size w4 w4.drew from (br w4).drew)
                                  generalize w4.drew = w0 at *
                                  iterate 15
                                    refine wpMask_take _ (Or.inl ⟨by rfl, fun w' hS => by obtain ⟨z, rfl⟩ := hS; have q1 := a5 z; have q2 := y5 z; have q3 := u6 z; have q4 := v6 z; go_simp; try with_reducible rfl⟩) ?_
                                    simp only [Act.put, List.getElem_toArray, List.getElem_cons_succ, List.getElem_cons_zero, List.setIfInBounds_toArray, List.set_cons_zero, List.set_cons_succ]
                                  refine wpMask_take (.bool false) (Or.inl ⟨by rfl, fun w' hS => by clear hS; go_simp; try with_reducible rfl⟩) ?_
                                  simp only [Act.put, List.getElem_toArray, List.getElem_cons_succ, List.getElem_cons_zero, List.setIfInBounds_toArray, List.set_cons_zero, List.set_cons_succ]
                                  iterate 2
                                    refine wpMask_take _ (Or.inl ⟨by rfl, fun w' hS => by clear hS; go_simp; try with_reducible rfl⟩) ?_
                                    simp only [Act.put, List.getElem_toArray, List.getElem_cons_succ, List.getElem_cons_zero, List.setIfInBounds_toArray, List.set_cons_zero, List.set_cons_succ]
                                  refine wpMask_skip ?_
                                  refine wpMask_take _ (Or.inl ⟨by rfl, fun w' hS => by clear hS; go_simp; try with_reducible rfl⟩) ?_
                                  simp only [Act.put, List.getElem_toArray, List.getElem_cons_succ, List.getElem_cons_zero, List.setIfInBounds_toArray, List.set_cons_zero, List.set_cons_succ]
                                  iterate 13 refine wpMask_skip ?_
                                  refine wpMask_nil ?_
                                  clear a5 y5 u6 v6
                                  refine wpAnyS_ready (rs := [18]) (by kernel_rfl) (by simp) ?_
                                  refine AllReadyS.cons rfl (fun K hK => ?_) AllReadyS.nil
                                  go_simp
                                  refine (HPA.out _ HB0.out false).mono ?_
                                  rintro e9 w1 ⟨d1, n1, ⟨rfl, hr1⟩, hb9⟩
                                  have HB1 := Lib.hid (bt HB0.out hb9)
                                  refine hK.out _ _ (fun _ => ⟨⟨_, HB1.out⟩, rfl⟩) ?_
                                  clear hK K hb9
                                  simp only [Act.put, List.getElem_toArray, List.getElem_cons_succ, List.getElem_cons_zero, List.setIfInBounds_toArray, List.set_cons_zero, List.set_cons_succ]
                                  refine wpAnyS_ready (rs := [20]) (by kernel_rfl) (by simp) ?_
                                  refine AllReadyS.cons rfl (fun K hK => ?_) AllReadyS.nil
                                  go_simp
                                  refine (HPY.out _ HB1.out false).mono ?_
                                  rintro e9 w2 ⟨d2, n2, ⟨rfl, hr2⟩, hb9⟩
                                  have HB2 := Lib.hid (bt HB1.out hb9)
                                  refine hK.out _ _ (fun _ => ⟨⟨_, HB2.out⟩, rfl⟩) ?_
                                  have hb12 := hb9
                                  clear hK K hb9
                                  simp only [Act.put, List.getElem_toArray, List.getElem_cons_succ, List.getElem_cons_zero, List.setIfInBounds_toArray, List.set_cons_zero, List.set_cons_succ]
                                  have HQ1 := Lib.hid (HEQ1.out d1 d2 n1 n2 w2 (hr1.below hb12) hr2)
                                  clear hr1 hr2 hb12
                                  refine wpAnyS_ready (rs := [21]) (by kernel_rfl) (by simp) ?_
                                  refine AllReadyS.cons rfl (fun K hK => ?_) AllReadyS.nil
                                  go_simp
                                  refine (HQ1.out).mono ?_
                                  rintro e9 w3 ⟨rfl, hb9⟩
                                  have HB3 := Lib.hid (bt HB2.out hb9)
                                  refine hK.out _ _ (fun _ => ⟨⟨_, HB3.out⟩, rfl⟩) ?_
                                  clear hK K hb9
                                  simp only [Act.put, List.getElem_toArray, List.getElem_cons_succ, List.getElem_cons_zero, List.setIfInBounds_toArray, List.set_cons_zero, List.set_cons_succ]
                                  clear HQ1
                                  refine wpAnyS_take (i := 22) (.bool true) rfl (by kernel_rfl) (Or.inl ⟨by rfl, fun w' hS => by clear hS; go_simp; try with_reducible rfl⟩) ⟨⟨_, HB3.out⟩, rfl⟩ ?_
                                  simp only [Act.put, List.getElem_toArray, List.getElem_cons_succ, List.getElem_cons_zero, List.setIfInBounds_toArray, List.set_cons_zero, List.set_cons_succ]
                                  refine wpAnyS_take (i := 23) (.bool true) rfl (by kernel_rfl) (Or.inl ⟨by rfl, fun w' hS => by clear hS; go_simp; try with_reducible rfl⟩) ⟨⟨_, HB3.out⟩, rfl⟩ ?_
                                  simp only [Act.put, List.getElem_toArray, List.getElem_cons_succ, List.getElem_cons_zero, List.setIfInBounds_toArray, List.set_cons_zero, List.set_cons_succ]
                                  refine wpAnyS_take (i := 24) (.bool true) rfl (by kernel_rfl) (Or.inl ⟨by rfl, fun w' hS => by clear hS; go_simp; try with_reducible rfl⟩) ⟨⟨_, HB3.out⟩, rfl⟩ ?_
                                  simp only [Act.put, List.getElem_toArray, List.getElem_cons_succ, List.getElem_cons_zero, List.setIfInBounds_toArray, List.set_cons_zero, List.set_cons_succ]
                                  refine wpAnyS_take (i := 25) _ rfl (by kernel_rfl) (Or.inr ⟨by rfl, rfl⟩) ⟨⟨_, HB3.out⟩, rfl⟩ ?_
                                  simp only [Act.put, List.getElem_toArray, List.getElem_cons_succ, List.getElem_cons_zero, List.setIfInBounds_toArray, List.set_cons_zero, List.set_cons_succ]
                                  refine wpAnyS_take (i := 26) _ rfl (by kernel_rfl) (Or.inr ⟨by rfl, rfl⟩) ⟨⟨_, HB3.out⟩, rfl⟩ ?_
                                  simp only [Act.put, List.getElem_toArray, List.getElem_cons_succ, List.getElem_cons_zero, List.setIfInBounds_toArray, List.set_cons_zero, List.set_cons_succ]
                                  refine wpAnyS_take (i := 27) _ rfl (by kernel_rfl) (Or.inr ⟨by rfl, rfl⟩) ⟨⟨_, HB3.out⟩, rfl⟩ ?_
                                  simp only [Act.put, List.getElem_toArray, List.getElem_cons_succ, List.getElem_cons_zero, List.setIfInBounds_toArray, List.set_cons_zero, List.set_cons_succ]
                                  refine wpAnyS_take (i := 28) _ rfl (by kernel_rfl) (Or.inr ⟨by rfl, rfl⟩) ⟨⟨_, HB3.out⟩, rfl⟩ ?_
                                  simp only [Act.put, List.getElem_toArray, List.getElem_cons_succ, List.getElem_cons_zero, List.setIfInBounds_toArray, List.set_cons_zero, List.set_cons_succ]
                                  refine wpAnyS_take (i := 29) _ rfl (by kernel_rfl) (Or.inr ⟨by rfl, rfl⟩) ⟨⟨_, HB3.out⟩, rfl⟩ ?_
                                  simp only [Act.put, List.getElem_toArray, List.getElem_cons_succ, List.getElem_cons_zero, List.setIfInBounds_toArray, List.set_cons_zero, List.set_cons_succ]
                                  refine wpAnyS_take (i := 30) _ rfl (by kernel_rfl) (Or.inr ⟨by rfl, rfl⟩) ⟨⟨_, HB3.out⟩, rfl⟩ ?_
                                  simp only [Act.put, List.getElem_toArray, List.getElem_cons_succ, List.getElem_cons_zero, List.setIfInBounds_toArray, List.set_cons_zero, List.set_cons_succ]
                                  refine wpAnyS_take (i := 31) (.bool true) rfl (by kernel_rfl) (Or.inl ⟨by rfl, fun w' hS => by clear hS; go_simp; try with_reducible rfl⟩) ⟨⟨_, HB3.out⟩, rfl⟩ ?_
                                  simp only [Act.put, List.getElem_toArray, List.getElem_cons_succ, List.getElem_cons_zero, List.setIfInBounds_toArray, List.set_cons_zero, List.set_cons_succ]
                                  refine wpAnyS_ready (rs := [32]) (by kernel_rfl) (by simp) ?_
                                  refine AllReadyS.cons rfl (fun K hK => ?_) AllReadyS.nil
                                  go_simp
                                  refine (HC.out _ HB3.out true).mono ?_
                                  rintro e9 w9 ⟨rfl, hE⟩
                                  refine hK.out _ _ (fun h => absurd h (by omega)) ?_
                                  clear hK K
                                  simp only [Act.put, List.getElem_toArray, List.getElem_cons_succ, List.getElem_cons_zero, List.setIfInBounds_toArray, List.set_cons_zero, List.set_cons_succ]
                                  refine wpAnyS_done (by kernel_rfl) ?_ _
                                  have HE := Lib.hid (HPP.out _ hE)
                                  clear hE HC
                                  go_wp2_with fail
                                  exact ⟨⟨e + 1, HEK.out, by go_num, HE⟩, by have := HEK.out; simp [intOf]; omega⟩
                              · as_aux_lemma =>
                                  refine wp_region_mask (fun w' => ∃ z : Bel w4, w' = z.val) 32 14 [true, true, true, true, true, true, true, true, true, true, true, true, true, true, true, true, true, true, false, true, false, false, false, false, false, false, false, false, false, false, false, false, false] #[true, true, true, true, true, true, true, true, true, true, true, true, true, true, true, true, true, true, false, true, false, false, false, false, false, false, false, false, false, false, false, false, false] (by kernel_rfl) (by kernel_rfl) (by kernel_rfl) ⟨⟨_, (br w4).drew⟩, rfl⟩ ?_
                                  have HB0 := Lib.hid (show Below w4.heap.size w4 w4.drew from (br w4).drew)
                                  generalize w4.drew = w0 at *
                                  iterate 15
                                    refine wpMask_take _ (Or.inl ⟨by rfl, fun w' hS => by obtain ⟨z, rfl⟩ := hS; have q1 := a5 z; have q2 := y5 z; have q3 := u6 z; have q4 := v6 z; go_simp; try with_reducible rfl⟩) ?_
                                    simp only [Act.put, List.getElem_toArray, List.getElem_cons_succ, List.getElem_cons_zero, List.setIfInBounds_toArray, List.set_cons_zero, List.set_cons_succ]
                                  refine wpMask_take (.bool false) (Or.inl ⟨by rfl, fun w' hS => by clear hS; go_simp; try with_reducible rfl⟩) ?_
                                  simp only [Act.put, List.getElem_toArray, List.getElem_cons_succ, List.getElem_cons_zero, List.setIfInBounds_toArray, List.set_cons_zero, List.set_cons_succ]
                                  iterate 2
                                    refine wpMask_take _ (Or.inl ⟨by rfl, fun w' hS => by clear hS; go_simp; try with_reducible rfl⟩) ?_
                                    simp only [Act.put, List.getElem_toArray, List.getElem_cons_succ, List.getElem_cons_zero, List.setIfInBounds_toArray, List.set_cons_zero, List.set_cons_succ]
                                  refine wpMask_skip ?_
                                  refine wpMask_take _ (Or.inl ⟨by rfl, fun w' hS => by clear hS; go_simp; try with_reducible rfl⟩) ?_
                                  simp only [Act.put, List.getElem_toArray, List.getElem_cons_succ, List.getElem_cons_zero, List.setIfInBounds_toArray, List.set_cons_zero, List.set_cons_succ]
                                  iterate 13 refine wpMask_skip ?_
                                  refine wpMask_nil ?_
                                  clear a5 y5 u6 v6
                                  refine wpAnyS_ready (rs := [18]) (by kernel_rfl) (by simp) ?_
                                  refine AllReadyS.cons rfl (fun K hK => ?_) AllReadyS.nil
                                  go_simp
                                  refine (HPA.out _ HB0.out false).mono ?_
                                  rintro e9 w1 ⟨d1, n1, ⟨rfl, hr1⟩, hb9⟩
                                  have HB1 := Lib.hid (bt HB0.out hb9)
                                  refine hK.out _ _ (fun _ => ⟨⟨_, HB1.out⟩, rfl⟩) ?_
                                  clear hK K hb9
                                  simp only [Act.put, List.getElem_toArray, List.getElem_cons_succ, List.getElem_cons_zero, List.setIfInBounds_toArray, List.set_cons_zero, List.set_cons_succ]
                                  refine wpAnyS_ready (rs := [20]) (by kernel_rfl) (by simp) ?_
                                  refine AllReadyS.cons rfl (fun K hK => ?_) AllReadyS.nil
                                  go_simp
                                  refine (HPY.out _ HB1.out false).mono ?_
                                  rintro e9 w2 ⟨d2, n2, ⟨rfl, hr2⟩, hb9⟩
                                  have HB2 := Lib.hid (bt HB1.out hb9)
                                  refine hK.out _ _ (fun _ => ⟨⟨_, HB2.out⟩, rfl⟩) ?_
                                  have hb12 := hb9
                                  clear hK K hb9
                                  simp only [Act.put, List.getElem_toArray, List.getElem_cons_succ, List.getElem_cons_zero, List.setIfInBounds_toArray, List.set_cons_zero, List.set_cons_succ]
                                  have HQ1 := Lib.hid (HEQ1.out d1 d2 n1 n2 w2 (hr1.below hb12) hr2)
                                  clear hr1 hr2 hb12
                                  refine wpAnyS_ready (rs := [21]) (by kernel_rfl) (by simp) ?_
                                  refine AllReadyS.cons rfl (fun K hK => ?_) AllReadyS.nil
                                  go_simp
                                  refine (HQ1.out).mono ?_
                                  rintro e9 w3 ⟨rfl, hb9⟩
                                  have HB3 := Lib.hid (bt HB2.out hb9)
                                  refine hK.out _ _ (fun _ => ⟨⟨_, HB3.out⟩, rfl⟩) ?_
                                  clear hK K hb9
                                  simp only [Act.put, List.getElem_toArray, List.getElem_cons_succ, List.getElem_cons_zero, List.setIfInBounds_toArray, List.set_cons_zero, List.set_cons_succ]
                                  clear HQ1
                                  refine wpAnyS_take (i := 22) (.bool false) rfl (by kernel_rfl) (Or.inl ⟨by rfl, fun w' hS => by clear hS; go_simp; try with_reducible rfl⟩) ⟨⟨_, HB3.out⟩, rfl⟩ ?_
                                  simp only [Act.put, List.getElem_toArray, List.getElem_cons_succ, List.getElem_cons_zero, List.setIfInBounds_toArray, List.set_cons_zero, List.set_cons_succ]
                                  refine wpAnyS_take (i := 23) (.bool false) rfl (by kernel_rfl) (Or.inl ⟨by rfl, fun w' hS => by clear hS; go_simp; try with_reducible rfl⟩) ⟨⟨_, HB3.out⟩, rfl⟩ ?_
                                  simp only [Act.put, List.getElem_toArray, List.getElem_cons_succ, List.getElem_cons_zero, List.setIfInBounds_toArray, List.set_cons_zero, List.set_cons_succ]
                                  refine wpAnyS_take (i := 24) (.bool false) rfl (by kernel_rfl) (Or.inl ⟨by rfl, fun w' hS => by clear hS; go_simp; try with_reducible rfl⟩) ⟨⟨_, HB3.out⟩, rfl⟩ ?_
                                  simp only [Act.put, List.getElem_toArray, List.getElem_cons_succ, List.getElem_cons_zero, List.setIfInBounds_toArray, List.set_cons_zero, List.set_cons_succ]
                                  refine wpAnyS_take (i := 25) _ rfl (by kernel_rfl) (Or.inl ⟨by rfl, fun w' hS => by clear hS; go_simp; try with_reducible rfl⟩) ⟨⟨_, HB3.out⟩, rfl⟩ ?_
                                  simp only [Act.put, List.getElem_toArray, List.getElem_cons_succ, List.getElem_cons_zero, List.setIfInBounds_toArray, List.set_cons_zero, List.set_cons_succ]
                                  refine wpAnyS_take (i := 27) _ rfl (by kernel_rfl) (Or.inl ⟨by rfl, fun w' hS => by clear hS; go_simp; try with_reducible rfl⟩) ⟨⟨_, HB3.out⟩, rfl⟩ ?_
                                  simp only [Act.put, List.getElem_toArray, List.getElem_cons_succ, List.getElem_cons_zero, List.setIfInBounds_toArray, List.set_cons_zero, List.set_cons_succ]
                                  refine wpAnyS_ready (rs := [26]) (by kernel_rfl) (by simp) ?_
                                  refine AllReadyS.cons rfl (fun K hK => ?_) AllReadyS.nil
                                  go_simp
                                  refine (HPA.out _ HB3.out true).mono ?_
                                  rintro e9 w4 ⟨d3, n3, ⟨rfl, hr3⟩, hb9⟩
                                  have HB4 := Lib.hid (bt HB3.out hb9)
                                  refine hK.out _ _ (fun _ => ⟨⟨_, HB4.out⟩, rfl⟩) ?_
                                  clear hK K hb9
                                  simp only [Act.put, List.getElem_toArray, List.getElem_cons_succ, List.getElem_cons_zero, List.setIfInBounds_toArray, List.set_cons_zero, List.set_cons_succ]
                                  refine wpAnyS_ready (rs := [28]) (by kernel_rfl) (by simp) ?_
                                  refine AllReadyS.cons rfl (fun K hK => ?_) AllReadyS.nil
                                  go_simp
                                  refine (HPY.out _ HB4.out true).mono ?_
                                  rintro e9 w5 ⟨d4, n4, ⟨rfl, hr4⟩, hb9⟩
                                  have HB5 := Lib.hid (bt HB4.out hb9)
                                  refine hK.out _ _ (fun _ => ⟨⟨_, HB5.out⟩, rfl⟩) ?_
                                  have hb45 := hb9
                                  clear hK K hb9
                                  simp only [Act.put, List.getElem_toArray, List.getElem_cons_succ, List.getElem_cons_zero, List.setIfInBounds_toArray, List.set_cons_zero, List.set_cons_succ]
                                  have HQ2 := Lib.hid (HEQ2.out d3 d4 n3 n4 w5 (hr3.below hb45) hr4)
                                  clear hr3 hr4 hb45
                                  refine wpAnyS_ready (rs := [29]) (by kernel_rfl) (by simp) ?_
                                  refine AllReadyS.cons rfl (fun K hK => ?_) AllReadyS.nil
                                  go_simp
                                  refine (HQ2.out).mono ?_
                                  rintro e9 w6 ⟨rfl, hb9⟩
                                  have HB6 := Lib.hid (bt HB5.out hb9)
                                  refine hK.out _ _ (fun _ => ⟨⟨_, HB6.out⟩, rfl⟩) ?_
                                  clear hK K hb9
                                  simp only [Act.put, List.getElem_toArray, List.getElem_cons_succ, List.getElem_cons_zero, List.setIfInBounds_toArray, List.set_cons_zero, List.set_cons_succ]
                                  clear HQ2
                                  refine wpAnyS_take (i := 30) (.bool (!r2)) rfl (by kernel_rfl) (Or.inl ⟨by rfl, fun w' hS => by clear hS; go_simp; try with_reducible rfl⟩) ⟨⟨_, HB6.out⟩, rfl⟩ ?_
                                  simp only [Act.put, List.getElem_toArray, List.getElem_cons_succ, List.getElem_cons_zero, List.setIfInBounds_toArray, List.set_cons_zero, List.set_cons_succ]
                                  refine wpAnyS_take (i := 31) (.bool (!r2)) rfl (by kernel_rfl) (Or.inl ⟨by rfl, fun w' hS => by clear hS; go_simp; try with_reducible rfl⟩) ⟨⟨_, HB6.out⟩, rfl⟩ ?_
                                  simp only [Act.put, List.getElem_toArray, List.getElem_cons_succ, List.getElem_cons_zero, List.setIfInBounds_toArray, List.set_cons_zero, List.set_cons_succ]
                                  refine wpAnyS_ready (rs := [32]) (by kernel_rfl) (by simp) ?_
                                  refine AllReadyS.cons rfl (fun K hK => ?_) AllReadyS.nil
                                  go_simp
                                  refine (HC.out _ HB6.out (!r2)).mono ?_
                                  rintro e9 w9 ⟨rfl, hE⟩
                                  refine hK.out _ _ (fun h => absurd h (by omega)) ?_
                                  clear hK K
                                  simp only [Act.put, List.getElem_toArray, List.getElem_cons_succ, List.getElem_cons_zero, List.setIfInBounds_toArray, List.set_cons_zero, List.set_cons_succ]
                                  refine wpAnyS_done (by kernel_rfl) ?_ _
                                  have HE := Lib.hid (HPP.out _ hE)
                                  clear hE HC
                                  go_wp2_with fail
                                  exact ⟨⟨e + 1, HEK.out, by go_num, HE⟩, by have := HEK.out; simp [intOf]; omega⟩
                            · have hm1 : (am == ym) = false := by simpa using hmm
                              rw [hm1] at HPP
                              have hm2 : ((am : Int) != (ym : Int)) = true := by rw [bne_iff_ne]; omega
                              refine wp_region_bel_tail 32 (by kernel_rfl) (by kernel_rfl) ?_
                              simp only [List.take_succ_cons, List.take_zero, List.drop_succ_cons, List.drop_zero]
                              repeat (go_big_quiet_step ((fail)))
                              refine wpQuiet_nil ?_
                              intro w5 hw5
                              have HC5 := Lib.hid (HC.out w5 (bel_out hw5) true)
                              clear hw5 HC HPA HPY a5 y5 u6 v6 hm1 hm2 hmm
                              go_wp2_with fail
                              refine HC5.out.mono ?_
                              rintro e9 w9 ⟨rfl, hE⟩
                              have HE := Lib.hid (HPP.out _ hE)
                              clear hE HC5
                              go_wp2_with fail
                              exact ⟨⟨e + 1, HEK.out, by go_num, HE⟩, by have := HEK.out; simp [intOf]; omega⟩
            --END
          · have hr1 : decide ((e : Int) < (k : Int)) = false := by simpa using hek
            have hr2 : decide (e < k) = false := by simpa using hek
            have HE := Lib.hid (show JB wB g o l R N M ((t.tog l k).pairs l a.s k) wr from by
              have hw := HW.out
              rw [show e = k by omega] at hw
              exact hw)
            clear HW H1
            go_wp2_with fail
            go_meet
            exact HE.out
      case rest =>
      obtain ⟨wd, rfl⟩ : ∃ z, z = wc := ⟨_, rfl⟩
      obtain ⟨tp, htp⟩ : ∃ tp, tp = (t.tog l k).pairs l a.s k := ⟨_, rfl⟩
      rw [← htp] at hcut
      have HTP := Lib.hid htp
      have H2 := Lib.hid (show JB wB g o l R N M (tp.safes l a.s 0) wd from hcut)
      have c1 : wd.cell? ⟨TT, 1, none⟩ = some (.slice (some ⟨b, 0, none⟩) ns sc) := by rw [HH.out.2.2.2.2.2.2, hcut.trace.2.2.2 ⟨wd, br wd⟩, HH.out.2.2.2.1, HH.out.2.2.2.2.2.1, HA.out.2.2.2.1]
      clear hcut htp H1
      go_wp2_with fail
      clear c1
      go_loopw [133] (fun i wr => ∃ e : Nat, e ≤ ns ∧ i = .int .i64 (e : Int) ∧ Hid (JB wB g o l R N M (tp.safes l a.s e) wr)) (fun i _ => ns - (intOf i).toNat)
      case atStart => exact ⟨0, by omega, rfl, H2⟩
      case round =>
        obtain ⟨e, he, rfl, HW⟩ := hrel
        by_cases hek : e < ns
        ·
          --ROUND133
          have hr1 : decide ((e : Int) < (ns : Int)) = true := by rw [decide_eq_true_eq]; omega
          have hr2 : decide (e < ns) = true := by rw [decide_eq_true_eq]; omega
          have hr3 : (e : Int) < (ns : Int) := by omega
          have hel : e < M.stays.length := by rw [← HH.out.2.2.2.1]; exact hek
          obtain ⟨b2, hsb2, _, hcell⟩ := HW.out.nth hel
          obtain rfl : b = b2 := by
            have h := HA.out.2.2.2.1.symm.trans hsb2
            injection h with h
            injection h
          obtain ⟨y, hy⟩ : ∃ y, y = M.stays[e] := ⟨_, rfl⟩
          have hym : y ∈ M.stays := hy ▸ List.getElem_mem hel
          rw [← hy] at hcell
          obtain ⟨yb, hyb⟩ : ∃ z, z = y.b := ⟨_, rfl⟩
          unfold ptrV at hcell
          rw [← hyb] at hcell
          have hty : tp.stays[e]? = some y.s := by rw [hy]; exact H2.out.at_ hel
          obtain ⟨tq, htq⟩ : ∃ q, q = tp.safes l a.s e := ⟨_, rfl⟩
          have hstep : tp.safes l a.s (e + 1) = if decide (a.s.cf = y.s.cf) && y.s.nx.isSome then tq.safe l a.s y.s a.s.gots.length else tq := by rw [safes_at hty, htq]
          rw [← htq] at HW
          have HY := Lib.hid (And.intro hym (And.intro hstep hyb))
          have HEK := Lib.hid (show e + 1 ≤ ns from hek)
          have hsta := HW.out.st HA.out.1
          have hsty := HW.out.st hym
          rw [← HAB.out] at hsta
          rw [← hyb] at hsty
          have la := (Array.getElem?_eq_some_iff.1 hsta).1
          have ly := (Array.getElem?_eq_some_iff.1 hsty).1
          have a1 : ∀ z : Bel wr, z.val.cell? ⟨ab, 1, none⟩ = some (.int .u64 a.s.cf.1) := Bel.cell (cell_of_row _ _ 1 _ _ _ hsta) la
          have a2 : ∀ z : Bel wr, z.val.cell? ⟨ab, 2, none⟩ = some (.int .i64 a.s.cf.2) := Bel.cell (cell_of_row _ _ 2 _ _ _ hsta) la
          have y1 : ∀ z : Bel wr, z.val.cell? ⟨yb, 1, none⟩ = some (.int .u64 y.s.cf.1) := Bel.cell (cell_of_row _ _ 1 _ _ _ hsty) ly
          have y2 : ∀ z : Bel wr, z.val.cell? ⟨yb, 2, none⟩ = some (.int .i64 y.s.cf.2) := Bel.cell (cell_of_row _ _ 2 _ _ _ hsty) ly
          have y6 : ∀ z : Bel wr, z.val.cell? ⟨yb, 6, none⟩ = some (evP g o y.s.nx) := Bel.cell (cell_of_row _ _ 6 _ _ _ hsty) ly
          have HSF := Lib.hid (fun (w5 : World) (hb : Below wr.heap.size wr w5) => safe_any (HW.out.below hb) HH.out.1 HH.out.2.1 a y HA.out.1 HY.out.1 (HH.out.2.2.1 a HA.out.1))
          unfold ptrV at HSF
          rw [← HAB.out, ← HY.out.2.2, ← HH.out.2.2.2.2.2.2] at HSF
          have HSK := Lib.hid (fun (w5 : World) (hb : Below wr.heap.size wr w5) => HW.out.below hb)
          clear hel hsb2 hy hym hyb hty htq hek hsta hsty la ly
          have hce := fun W => confEq W a.s.cf.1 a.s.cf.2 y.s.cf.1 y.s.cf.2
          obtain ⟨DC, hDC⟩ : ∃ c, c = (a.s.cf.1 == y.s.cf.1 && a.s.cf.2 == y.s.cf.2) := ⟨_, rfl⟩
          rw [← hDC] at hce
          have hcf : decide (a.s.cf = y.s.cf) = DC := by
            rw [hDC, Bool.eq_iff_iff]
            simp [Prod.ext_iff]
          rw [hcf] at hstep
          clear hDC hcf
          generalize a.s.cf.1 = ae at *
          generalize a.s.cf.2 = ar at *
          generalize y.s.cf.1 = ye at *
          generalize y.s.cf.2 = yr at *
          generalize y.s.nx = yx at *
          clear HW
          have HST := Lib.hid hstep
          clear hstep
          go_wp2_with fail
          clear hcell
          cases DC
          · refine wp_region_bel (by kernel_rfl) (by kernel_rfl) ?_
            repeat (go_big_quiet_step ((fail)))
            refine wpQuiet_nil ?_
            intro w5 hw5
            have HE := Lib.hid (show JB wB g o l R N M (tp.safes l a.s (e + 1)) w5 from by
              rw [HST.out]
              exact HSK.out w5 (bel_out hw5))
            clear hw5 a1 a2 y1 y2 y6 hce HSF HSK H2
            go_wp2_with fail
            exact ⟨⟨e + 1, HEK.out, by go_num, HE⟩, by have := HEK.out; simp [intOf]; omega⟩
          · cases yx with
            | none =>
              replace y6 : ∀ z : Bel wr, z.val.cell? ⟨yb, 6, none⟩ = some (.pointer none) := y6
              refine wp_region_bel (by kernel_rfl) (by kernel_rfl) ?_
              repeat (go_big_quiet_step ((fail)))
              refine wpQuiet_nil ?_
              intro w5 hw5
              have HE := Lib.hid (show JB wB g o l R N M (tp.safes l a.s (e + 1)) w5 from by
                rw [HST.out]
                exact HSK.out w5 (bel_out hw5))
              clear hw5 a1 a2 y1 y2 y6 hce HSF HSK H2
              go_wp2_with fail
              exact ⟨⟨e + 1, HEK.out, by go_num, HE⟩, by have := HEK.out; simp [intOf]; omega⟩
            | some yi =>
              replace y6 : ∀ z : Bel wr, z.val.cell? ⟨yb, 6, none⟩ = some (.pointer (some ⟨g, o + yi * 19, none⟩)) := y6
              refine wp_region_bel (by kernel_rfl) (by kernel_rfl) ?_
              repeat (go_big_quiet_step ((fail)))
              refine wpQuiet_nil ?_
              intro w5 hw5
              have HS := Lib.hid (HSF.out w5 (bel_out hw5))
              clear hw5 a1 a2 y1 y2 y6 hce HSF HSK H2
              go_wp2_with fail
              refine HS.out.mono ?_
              rintro e9 w9 ⟨rfl, hE⟩
              have HE := Lib.hid (show JB wB g o l R N M (tp.safes l a.s (e + 1)) w9 from by
                rw [HST.out]
                exact hE)
              clear hE HS
              go_wp2_with fail
              exact ⟨⟨e + 1, HEK.out, by go_num, HE⟩, by have := HEK.out; simp [intOf]; omega⟩
          --END
        · have hr1 : decide ((e : Int) < (ns : Int)) = false := by simpa using hek
          have hr2 : decide (e < ns) = false := by simpa using hek
          have HE := Lib.hid (show JB wB g o l R N M (t.tog l (k + 1)) wr from by
            have hw := HW.out
            rw [tog_at HA.out.2.1, ← HTP.out]
            rw [HA.out.2.2.2.2, show ns = e by omega]
            exact hw)
          clear HW H2
          go_wp2_with fail
          exact ⟨⟨k + 1, by have := HA.out.2.2.1; omega, by go_num, HE⟩, by have := HA.out.2.2.1; simp [intOf]; omega⟩
    · have hq1 : decide ((k : Int) < (ns : Int)) = false := by simpa using hkn
      have hq2 : decide (k < ns) = false := by simpa using hkn
      have HE := Lib.hid (show JB wB g o l R N M (t.tog l ns) wr from by rw [show ns = k by omega]; exact HW.out)
      clear HW H0
      go_wp2_with fail
      go_end0
      exact ⟨rfl, HE.out⟩
end Go.Proofs.YtogagkgkmoppmaaGreatDoor
