/-
  A stay goes on: close.
  Conditions: those that each theorem names.
-/
import Derived.Test.YtogagkgkmoppmaaMonO
import Derived.LaidEqlPtr
namespace Go.Proofs.Ytogagkgkmoppmaa
set_option linter.unusedVariables false
set_option linter.unusedSimpArgs false
open Go.RowKit GM
/-- what one stay makes of one that goes on -/
def closeZ (b : PS) (same : Bool) (o : PS) (z : Int) : Int :=
  if o.conf = b.conf then
    let z1 := oweZ b.proc (b.p0 ++ b.p1) o.mem o.p0 z
    let z2 := match o.tr with
      | some t => oweZ b.proc (b.p0 ++ b.p1) t.2 o.p1 z1
      | none => z1
    if same = true ∨ o.went = false ∨ o.proc = b.proc then z2 else
    match o.tr, b.tr with
    | some t, some u => if t.1 = u.1 then brk 5 z2 (!(t.2 == u.2) || (!sameL o.p0 b.p0 || !sameL o.p1 b.p1)) else z2
    | _, _ => z2
  else z
def closeTo (l : List PS) (b : PS) (k : Nat) : Nat → Int → Int
  | 0, z => z
  | n + 1, z => closeZ b (decide (n = k)) (l.getD n b) (closeTo l b k n z)
def pclose (P : PM) (k : Nat) : PM := match P.stays[k]? with
  | none => P
  | some s => { P with stays := P.stays.set k { s with went := true }, broken := closeTo (P.stays.set k { s with went := true }) { s with went := true } k P.stays.length P.broken }
set_option maxRecDepth 100000 in
theorem passNeq (w : World) (a0 a1 a2 a3 b0 b1 b2 b3 : Int) : (Go.binOp .neq 121 (.agg #[.int .u64 a0, .int .i64 a1, .int .u64 a2, .int .i64 a3]) (.agg #[.int .u64 b0, .int .i64 b1, .int .u64 b2, .int .i64 b3])).run Try.prog w = .ok (.bool (!(a0 == b0 && a1 == b1 && a2 == b2 && a3 == b3))) w := by
  by_cases h0 : a0 = b0
  rotate_left
  · have d : (a0 == b0) = false := by simpa using h0
    rw [d]
    (try simp only [Bool.and_false, Bool.false_and])
    go_simp
  subst h0
  have e0 : (a0 == a0) = true := by simp
  by_cases h1 : a1 = b1
  rotate_left
  · have d : (a1 == b1) = false := by simpa using h1
    rw [d]
    (try simp only [Bool.and_false, Bool.false_and])
    go_simp
  subst h1
  have e1 : (a1 == a1) = true := by simp
  by_cases h2 : a2 = b2
  rotate_left
  · have d : (a2 == b2) = false := by simpa using h2
    rw [d]
    (try simp only [Bool.and_false, Bool.false_and])
    go_simp
  subst h2
  have e2 : (a2 == a2) = true := by simp
  by_cases h3 : a3 = b3
  rotate_left
  · have d : (a3 == b3) = false := by simpa using h3
    rw [d]
    (try simp only [Bool.and_false, Bool.false_and])
    go_simp
  subst h3
  have e3 : (a3 == a3) = true := by simp
  rw [e0, e1, e2, e3]
  (try simp only [Bool.and_self])
  go_simp
def went (x : SX) : SX := { x with s := { x.s with went := true } }
theorem proj_close (M : MM) (k : Nat) (hk : k < M.stays.length) : proj ((M.setS k (went M.stays[k])).bz (closeTo (proj (M.setS k (went M.stays[k]))).stays (projS (went M.stays[k])) k M.stays.length M.c.broken)) = pclose (proj M) k := by
  have e1 : (proj M).stays[k]? = some (projS M.stays[k]) := by simp [proj, hk]
  unfold pclose
  rw [e1]
  have e2 : (proj (M.setS k (went M.stays[k]))).stays = (proj M).stays.set k (projS (went M.stays[k])) := by rw [proj_setS]
  have e3 : projS (went M.stays[k]) = { projS M.stays[k] with went := true } := rfl
  have e4 : (proj M).stays.length = M.stays.length := by simp [proj]
  simp only [e4]
  rw [← e3, ← e2]
  rfl
theorem stayInfo : ∃ j, Try.prog.info? 66 = some j ∧ j.size ≠ 0 := by
  have h : (Try.prog.info? 66).map (fun i => i.size) = some 9 := by kernel_rfl
  cases hj : Try.prog.info? 66 with
  | none => rw [hj] at h; cases h
  | some j =>
    rw [hj] at h
    injection h with h
    exact ⟨j, rfl, by have h : j.size = 9 := h; omega⟩
theorem stayEq {w : World} {a b : Nat} {x y : ST} (ha : StAt w a x) (hb : StAt w b y) : (Go.binOp .eql 57 (.pointer (some ⟨a, 0, none⟩)) (.pointer (some ⟨b, 0, none⟩))).run Try.prog w = .ok (.bool (decide (a = b))) w := by
  obtain ⟨j, hj, hz⟩ := stayInfo
  by_cases h : a = b
  · subst h
    rw [decide_eq_true rfl]
    exact run_eql_ptr_same w _ Try.underlying57 hj
  · rw [decide_eq_false h]
    exact run_eql_ptr_other w Try.underlying57 hj hz (fun e => h (by injection e)) ha hb
theorem own_inj {w : World} {B b0 i j : Nat} {M : MM} {R : List Pc} (h : Own w b0 (parts B M ++ R)) (hi : i < M.stays.length) (hj : j < M.stays.length) (he : M.stays[i].b = M.stays[j].b) : i = j := by
  have h1 := (List.pairwise_append.1 h.ap).1
  unfold parts at h1
  simp only [List.pairwise_cons] at h1
  have h2 := (List.pairwise_flatMap.1 (List.pairwise_append.1 h1.2.2.2.2.2.2.2).1).2
  rw [List.pairwise_iff_getElem] at h2
  have key : ∀ i j (hi : i < M.stays.length) (hj : j < M.stays.length), i < j → M.stays[i].b ≠ M.stays[j].b := fun i j hi hj hlt e =>
    h2 i j hi hj hlt (stayPc M.stays[i].b M.stays[i].s M.stays[i].ev) (by simp [stP]) (stayPc M.stays[j].b M.stays[j].s M.stays[j].ev) (by simp [stP]) _ rfl (congrArg some e.symm)
  rcases Nat.lt_trichotomy i j with h | h | h
  · exact absurd he (key i j hi hj h)
  · exact h
  · exact absurd he.symm (key j i hj hi h)
theorem went_own {w : World} {B b0 k : Nat} {M : MM} {R : List Pc} (h : Own w b0 (parts B M ++ R)) (hb0 : b0 ≤ w.heap.size) (hk : k < M.stays.length) :
    Own (w.setCell ⟨M.stays[k].b, 8, none⟩ (.bool true)) b0 (parts B (M.setS k (went M.stays[k])) ++ R) ∧ Kept (fun k => b0 ≤ k) w (w.setCell ⟨M.stays[k].b, 8, none⟩ (.bool true)) := by
  have hst := own_stay h (List.getElem_mem hk)
  have hK := keptS w ⟨M.stays[k].b, 8, none⟩ (.bool true)
  refine own_cell h hb0 hk (x := went M.stays[k]) rfl rfl rfl rfl rfl hK ?_ ?_
  · have := setCell_block hst 8 (.bool true)
    exact this
  · intro b' hb'
    have he := own_tr h (List.getElem_mem hk) hb'
    refine hK.keep he ?_
    rintro rfl
    unfold EvAt at he
    unfold StAt at hst
    simp only at he
    rw [hst] at he
    injection he with he
    injection he with _ he _
    exact absurd he (by decide)
set_option maxRecDepth 100000 in
set_option maxHeartbeats 16000000 in
theorem close_any (w : World) (B b0 k : Nat) (M : MM) (R : List Pc) (hO : Own w b0 (parts B M ++ R)) (hM : MOk M) (hb0 : b0 ≤ w.heap.size) (hk : k < M.stays.length) (hl : ∀ x ∈ M.stays, x.s.p0.length ≤ 10000 ∧ x.s.p1.length ≤ 10000) (hn9 : M.stays.length ≤ 10000) :
    Calls Try.prog 33 #[.pointer (some ⟨B, 0, none⟩), ptrV M.stays[k].b] w fun e w' => e = .returned (.tuple #[]) ∧
      Own w' b0 (parts B ((M.setS k (went M.stays[k])).bz (closeTo (proj (M.setS k (went M.stays[k]))).stays (projS (went M.stays[k])) k M.stays.length M.c.broken)) ++ R) ∧ Kept (fun k => b0 ≤ k) w w' := by
  obtain ⟨h1, hk1⟩ := went_own hO hb0 hk
  have f8 : w.frozen? ⟨M.stays[k].b, 8, none⟩ = false := frozen_of_row _ _ _ _ _ (own_stay hO (List.getElem_mem hk))
  have g8 : w.cell? ⟨M.stays[k].b, 8, none⟩ = some (.bool M.stays[k].s.went) := cell_of_row _ _ 8 _ _ _ (own_stay hO (List.getElem_mem hk))
  obtain ⟨w1, hw1⟩ : ∃ w1, w1 = w.setCell ⟨M.stays[k].b, 8, none⟩ (.bool true) := ⟨_, rfl⟩
  rw [← hw1] at h1 hk1
  obtain ⟨M1, hM1⟩ : ∃ M1, M1 = M.setS k (went M.stays[k]) := ⟨_, rfl⟩
  have hMo : MOk M1 := by rw [hM1]; exact setS_ok hM _ _
  have hl1 : ∀ x ∈ M1.stays, x.s.p0.length ≤ 10000 ∧ x.s.p1.length ≤ 10000 := by
    rw [hM1]
    intro x hx
    rcases List.mem_or_eq_of_mem_set hx with hx | rfl
    · exact hl x hx
    · exact (hl M.stays[k] (List.getElem_mem hk))
  have hlen : M.stays.length = M1.stays.length := by rw [hM1]; simp [MM.setS]
  have hkM : k < M1.stays.length := by rw [← hlen]; exact hk
  have hbk : M1.stays[k] = went M.stays[k] := by subst hM1; simp [MM.setS]
  have hbr : M.c.broken = M1.c.broken := by rw [hM1]; rfl
  have hS : M.stays[k].b = M1.stays[k].b := by rw [hbk]; rfl
  rw [← hM1, ← hbk, hbr, hlen]
  rw [← hM1] at h1
  rw [hlen] at hn9
  rw [hS] at f8 g8 hw1 ⊢
  obtain ⟨wt, hwt⟩ : ∃ wt, wt = M.stays[k].s.went := ⟨_, rfl⟩
  rw [← hwt] at g8
  clear hwt hbk hbr hS hM1 hl hk hO hM hlen
  obtain ⟨n, hn⟩ : ∃ n, n = M1.stays.length := ⟨_, rfl⟩
  obtain ⟨S, hS⟩ : ∃ S, S = M1.stays[k].b := ⟨_, rfl⟩
  rw [← hS] at f8 g8 hw1 ⊢
  rw [← hn] at hn9 ⊢
  have hcn : M1.c.n = n := by rw [hn]; exact hMo.n
  have c3 : w1.cell? ⟨B, 3, none⟩ = some (.slice M1.c.sa n M1.c.sc) := by rw [← hcn]; exact cell_of_row _ _ 3 _ _ _ (own_mon h1)
  obtain ⟨sa, hsa⟩ : ∃ sa, sa = M1.c.sa := ⟨_, rfl⟩
  obtain ⟨sc, hsc⟩ : ∃ sc, sc = M1.c.sc := ⟨_, rfl⟩
  rw [← hsa, ← hsc] at c3
  obtain ⟨z0, hz0⟩ : ∃ z, z = M1.c.broken := ⟨_, rfl⟩
  have h1' : Own w1 b0 (parts B (M1.bz (closeTo (proj M1).stays (projS M1.stays[k]) k 0 M1.c.broken)) ++ R) := h1
  obtain ⟨b, hb⟩ : ∃ b, b = M1.stays[k] := ⟨_, rfl⟩
  rw [← hz0, ← hb] at h1' ⊢
  have HI := Lib.hid (And.intro h1' hk1)
  have HB := Lib.hid (And.intro hb (And.intro hMo (And.intro hl1 (And.intro hn (And.intro hsa (And.intro hb0 hS))))))
  have HkM := Lib.hid hkM
  clear h1 h1' hk1 hb hMo hl1 hn hsa hS hcn hz0 hsc hb0
  unfold ptrV
  go_enter Try.func33, Try.ntmps33
  rw [hw1] at c3
  have HW1 := Lib.hid hw1
  clear hw1
  go_wp2_with fail
  rw [← HW1.out]
  clear HW1 f8 g8 c3
  go_loopw [15] (fun i wr => ∃ j : Nat, j ≤ n ∧ i = .int .i64 (j : Int) ∧ Hid (Own wr b0 (parts B (M1.bz (closeTo (proj M1).stays (projS b) k j z0)) ++ R) ∧ Kept (fun k => b0 ≤ k) w wr)) (fun i _ => n - (intOf i).toNat)
  case atStart => exact ⟨0, by omega, rfl, HI⟩
  case round =>
    obtain ⟨j, hj, rfl, HW⟩ := hrel
    by_cases hlt : j < n
    · have hd : decide ((j : Int) < (n : Int)) = true := by simpa using hlt
      have hi1 : (j : Int) < (n : Int) := by omega
      have hjl : j < M1.stays.length := by rw [← HB.out.2.2.2.1]; exact hlt
      obtain ⟨g, hg0, hgl, hgc0⟩ := own_ptr HW.out.1 (bz_ok HB.out.2.1 _) hjl
      have hg : sa = some ⟨g, 0, none⟩ := HB.out.2.2.2.2.1.trans hg0
      subst hg
      have hgc : wr.cell? ⟨g, j, none⟩ = some (ptrV M1.stays[j].b) := hgc0
      clear hgc0 hg0
      obtain ⟨o, ho⟩ : ∃ o, o = M1.stays[j] := ⟨_, rfl⟩
      rw [← ho] at hgc
      have hom : o ∈ M1.stays := by rw [ho]; exact List.getElem_mem hjl
      have hbm : b ∈ M1.stays := by rw [HB.out.1]; exact List.getElem_mem HkM.out
      have hstep : closeTo (proj M1).stays (projS b) k (j + 1) z0 = closeZ (projS b) (decide (j = k)) (projS o) (closeTo (proj M1).stays (projS b) k j z0) := by
        show closeZ _ _ _ _ = _
        congr 1
        rw [ho]
        simp [proj, hjl]
      have hSo := own_stay HW.out.1 hom
      have hSb := own_stay HW.out.1 hbm
      have hSS : S = b.b := by rw [HB.out.1]; exact HB.out.2.2.2.2.2.2
      rw [← hSS] at hSb
      obtain ⟨So, hSo'⟩ : ∃ So, So = o.b := ⟨_, rfl⟩
      rw [← hSo'] at hSo hgc
      unfold ptrV at hgc
      have o1 := Bel.cell (show wr.cell? ⟨So, 1, none⟩ = some (.int .u64 (o.s.ce : Int)) from cell_of_row _ _ 1 _ _ _ hSo) hSo.lt
      have o2 := Bel.cell (show wr.cell? ⟨So, 2, none⟩ = some (.int .i64 o.s.cr) from cell_of_row _ _ 2 _ _ _ hSo) hSo.lt
      have b1 := Bel.cell (show wr.cell? ⟨S, 1, none⟩ = some (.int .u64 (b.s.ce : Int)) from cell_of_row _ _ 1 _ _ _ hSb) hSb.lt
      have b2 := Bel.cell (show wr.cell? ⟨S, 2, none⟩ = some (.int .i64 b.s.cr) from cell_of_row _ _ 2 _ _ _ hSb) hSb.lt
      have hcn := fun (W : World) => confNeq W (o.s.ce : Int) o.s.cr (b.s.ce : Int) b.s.cr
      have HD := Lib.hid (show (!(((o.s.ce : Int) == (b.s.ce : Int)) && (o.s.cr == b.s.cr))) = false ↔ (projS o).conf = (projS b).conf from by simp [projS, Prod.mk.injEq])
      generalize (!(((o.s.ce : Int) == (b.s.ce : Int)) && (o.s.cr == b.s.cr))) = D at *
      have HO := Lib.hid (And.intro hom (And.intro hbm (And.intro hSS (And.intro hSo' (And.intro ho hjl)))))
      have HT := Lib.hid hstep
      clear hom hbm hSS hSo' hstep ho hSo hSb hgl
      generalize o.s.ce = oce at *
      generalize o.s.cr = ocr at *
      generalize b.s.ce = bce at *
      generalize b.s.cr = bcr at *
      go_wp2_with fail
      refine wp_region_bel (by kernel_rfl) (by kernel_rfl) ?_
      repeat (go_big_quiet_step ((fail)))
      refine wpQuiet_nil ?_
      intro w2 hw2
      have hb2 := bel_out hw2
      clear hw2 o1 o2 b1 b2 hcn hgc
      cases D
      rotate_left
      · have HE := Lib.hid (show Own w2 b0 (parts B (M1.bz (closeTo (proj M1).stays (projS b) k (j + 1) z0)) ++ R) ∧ Kept (fun k => b0 ≤ k) w w2 from by
          rw [HT.out]
          unfold closeZ
          rw [if_neg (fun h => Bool.noConfusion (HD.out.2 h))]
          exact ⟨HW.out.1.below hb2, HW.out.2.trans (Kept.of_below hb2)⟩)
        clear hb2
        go_wp2_with fail
        exact ⟨⟨j + 1, by omega, by go_num, HE⟩, by simp [intOf]; omega⟩
      · as_aux_lemma =>
          have hcf := HD.out.1 rfl
          have hO2 := HW.out.1.below hb2
          have hW2 := HW.out.2.trans (Kept.of_below (S := fun k => b0 ≤ k) hb2)
          have hSo := own_stay hO2 HO.out.1
          rw [← HO.out.2.2.2.1] at hSo
          have o3 := Bel.cell (show w2.cell? ⟨So, 3, none⟩ = some (.int .u64 (o.s.mem : Int)) from cell_of_row _ _ 3 _ _ _ hSo) hSo.lt
          have o4 := Bel.cell (show w2.cell? ⟨So, 4, none⟩ = some (.slice o.s.a0 o.s.p0.length o.s.c0) from cell_of_row _ _ 4 _ _ _ hSo) hSo.lt
          have HW2 := Lib.hid (And.intro hO2 hW2)
          have HCF := Lib.hid hcf
          obtain ⟨z, hz⟩ : ∃ z, z = closeTo (proj M1).stays (projS b) k j z0 := ⟨_, rfl⟩
          rw [← hz] at HW2 HT
          have hob := Lib.hid (And.intro (HB.out.2.2.1 o HO.out.1) (HB.out.2.2.1 b HO.out.2.1))
          have HS5 := Lib.hid (show ∀ (w5 : World), Below w2.heap.size w2 w5 → Calls Try.prog 38 #[.pointer (some ⟨B, 0, none⟩), .pointer (some ⟨S, 0, none⟩), .pointer (some ⟨So, 0, none⟩), .slice o.s.a0 o.s.p0.length o.s.c0, .int .u64 (o.s.mem : Int)] w5 fun e w' =>
              e = .returned (.tuple #[]) ∧ Own w' b0 (parts B (M1.bz (oweZ (projS b).proc ((projS b).p0 ++ (projS b).p1) (projS o).mem (projS o).p0 z)) ++ R) ∧ Kept (fun k => b0 ≤ k) w w' from fun w5 hb5 => by
            have hO5 := HW2.out.1.below hb5
            have hk5 := HW2.out.2.trans (Kept.of_below (S := fun k => b0 ≤ k) hb5)
            rw [HO.out.2.2.1]
            have e1 : oweZ (projS b).proc ((projS b).p0 ++ (projS b).p1) (projS o).mem (projS o).p0 z = oweZ b.s.proc (b.s.p0 ++ b.s.p1) o.s.mem o.s.p0 z := by
              show oweZ b.s.proc (b.s.p0.map bare ++ b.s.p1.map bare) o.s.mem (o.s.p0.map bare) z = _
              rw [← List.map_append, oweZ_bare]
            rw [e1]
            exact (owes_own w5 B b0 _ R hO5 (Nat.le_trans HB.out.2.2.2.2.2.1 hk5.size) b HO.out.2.1 hob.out.2.1 hob.out.2.2 _ o.s.a0 o.s.c0 o.s.p0 ((own_r0 hO5 HO.out.1).row (Nat.le_trans hob.out.1.1 (by decide))) o.s.mem).mono fun e w' ⟨h1, h2, h3⟩ => ⟨h1, h2, hk5.trans h3⟩)
          clear hz hO2 hW2 hSo hcf hb2
          generalize o.s.p0.length = q0 at *
          generalize o.s.a0 = oa0 at *
          generalize o.s.c0 = oc0 at *
          generalize o.s.mem = omem at *
          go_wp2_with fail
          refine wp_region_bel_tail 12 (by kernel_rfl) (by kernel_rfl) ?_
          simp only [List.take_succ_cons, List.take_zero, List.drop_succ_cons, List.drop_zero]
          repeat (go_big_quiet_step ((fail)))
          refine wpQuiet_nil ?_
          intro w5 hw5
          have HC := Lib.hid (HS5.out w5 (bel_out hw5))
          clear hw5 o3 o4 HS5 HW2
          go_wp2_with fail
          refine HC.out.mono ?_
          rintro e w6 ⟨rfl, hE⟩
          have HE := Lib.hid hE
          clear hE HC
          have hSo := own_stay HE.out.1 HO.out.1
          have hSo7 : w6.cell? ⟨o.b, 7, none⟩ = some (.pointer (o.s.tr.map fun b => ⟨b, 0, none⟩)) := cell_of_row _ _ 7 _ _ _ hSo
          rw [← HO.out.2.2.2.1] at hSo hSo7
          obtain ⟨z1, hz1⟩ : ∃ z1, z1 = oweZ (projS b).proc ((projS b).p0 ++ (projS b).p1) (projS o).mem (projS o).p0 z := ⟨_, rfl⟩
          rw [← hz1] at HE
          have HZ1 := Lib.hid hz1
          clear hz1
          cases htr : o.s.tr with
          | none =>
            as_aux_lemma =>
              rw [htr] at hSo7
              simp only [Option.map_none] at hSo7
              have HTR := Lib.hid (show (projS o).tr = none from by simp [projS, trOf, htr])
              clear hSo
              go_wp2_with fail
              clear hSo7
              have HF := Lib.hid (show closeTo (proj M1).stays (projS b) k (j + 1) z0 = z1 from by
                rw [HT.out]
                unfold closeZ
                rw [if_pos HCF.out]
                simp only [HTR.out]
                rw [← HZ1.out]
                split <;> rfl)
              have hSo := own_stay HE.out.1 HO.out.1
              have hSb := own_stay HE.out.1 HO.out.2.1
              rw [← HO.out.2.2.2.1] at hSo
              rw [← HO.out.2.2.1] at hSb
              have o0 := Bel.cell (show w6.cell? ⟨So, 0, none⟩ = some (.int .i64 o.s.proc) from cell_of_row _ _ 0 _ _ _ hSo) hSo.lt
              have o8 := Bel.cell (show w6.cell? ⟨So, 8, none⟩ = some (.bool o.s.went) from cell_of_row _ _ 8 _ _ _ hSo) hSo.lt
              have o7 := Bel.cell (show w6.cell? ⟨So, 7, none⟩ = some (.pointer none) from by rw [cell_of_row _ _ 7 _ _ _ hSo]; simp [stC, htr]) hSo.lt
              have b0' := Bel.cell (show w6.cell? ⟨S, 0, none⟩ = some (.int .i64 b.s.proc) from cell_of_row _ _ 0 _ _ _ hSb) hSb.lt
              have heq : ∀ y : Bel w6, (Go.binOp .eql 57 (.pointer (some ⟨So, 0, none⟩)) (.pointer (some ⟨S, 0, none⟩))).run Try.prog y.val = .ok (.bool (decide (So = S))) y.val := fun y => stayEq (hSo.below y.prop) (hSb.below y.prop)
              clear hSo hSb htr
              have HN := Lib.hid (show ∀ (w5 : World), Below w6.heap.size w6 w5 → Own w5 b0 (parts B (M1.bz (closeTo (proj M1).stays (projS b) k (j + 1) z0)) ++ R) ∧ Kept (fun k => b0 ≤ k) w w5 from fun w5 hb5 => by
                rw [HF.out]
                exact ⟨HE.out.1.below hb5, HE.out.2.trans (Kept.of_below hb5)⟩)
              generalize o.s.proc = po at *
              generalize b.s.proc = pb at *
              generalize o.s.went = wt at *
              generalize decide (So = S) = E at *
              have hcase : E = true ∨ (E = false ∧ (wt = false ∨ (wt = true ∧ (po = pb ∨ po ≠ pb)))) := by
                cases E
                · refine .inr ⟨rfl, ?_⟩
                  cases wt
                  · exact .inl rfl
                  · exact .inr ⟨rfl, Classical.em _⟩
                · exact .inl rfl
              rcases hcase with hEE | ⟨hEE, hwt | ⟨hwt, hpp | hpne⟩⟩
              · subst hEE
                refine wp_region_bel (by kernel_rfl) (by kernel_rfl) ?_
                repeat (go_big_quiet_step ((fail)))
                refine wpQuiet_nil ?_
                intro w9 hw9
                have hE := Lib.hid (HN.out w9 (bel_out hw9))
                clear hw9 o0 o8 o7 b0' HN heq
                go_wp2_with fail
                exact ⟨⟨j + 1, by omega, by go_num, hE⟩, by simp [intOf]; omega⟩
              · subst hEE
                subst hwt
                refine wp_region_bel (by kernel_rfl) (by kernel_rfl) ?_
                repeat (go_big_quiet_step ((fail)))
                refine wpQuiet_nil ?_
                intro w9 hw9
                have hE := Lib.hid (HN.out w9 (bel_out hw9))
                clear hw9 o0 o8 o7 b0' HN heq
                go_wp2_with fail
                exact ⟨⟨j + 1, by omega, by go_num, hE⟩, by simp [intOf]; omega⟩
              · subst hEE
                subst hwt
                subst hpp
                refine wp_region_bel (by kernel_rfl) (by kernel_rfl) ?_
                repeat (go_big_quiet_step ((fail)))
                refine wpQuiet_nil ?_
                intro w9 hw9
                have hE := Lib.hid (HN.out w9 (bel_out hw9))
                clear hw9 o0 o8 o7 b0' HN heq
                go_wp2_with fail
                exact ⟨⟨j + 1, by omega, by go_num, hE⟩, by simp [intOf]; omega⟩
              · subst hEE
                subst hwt
                have hpd : (po == pb) = false := by simpa using hpne
                refine wp_region_bel (by kernel_rfl) (by kernel_rfl) ?_
                repeat (go_big_quiet_step ((fail)))
                refine wpQuiet_nil ?_
                intro w9 hw9
                have hE := Lib.hid (HN.out w9 (bel_out hw9))
                clear hw9 o0 o8 o7 b0' HN heq
                go_wp2_with fail
                exact ⟨⟨j + 1, by omega, by go_num, hE⟩, by simp [intOf]; omega⟩
          | some tb =>
            as_aux_lemma =>
              rw [htr] at hSo7
              simp only [Option.map_some] at hSo7
              have HTR := Lib.hid (show (projS o).tr = some (next o.ev, o.ev.mem) from by simp [projS, trOf, htr])
              have htrA := own_tr HE.out.1 HO.out.1 htr
              have HTB := Lib.hid htr
              have HP := Lib.hid (own_r1 HE.out.1 HO.out.1)
              clear htr
              go_wp2_with fail
              have o5 := Bel.cell (show w6.cell? ⟨So, 5, none⟩ = some (.slice o.s.a1 o.s.p1.length o.s.c1) from cell_of_row _ _ 5 _ _ _ hSo) hSo.lt
              have o7 := Bel.cell hSo7 hSo.lt
              have t6 := Bel.cell (show w6.cell? ⟨tb, 6, none⟩ = some (.int .u64 (o.ev.mem : Int)) from cell_of_row _ _ 6 _ _ _ htrA) (Array.getElem?_eq_some_iff.1 htrA).1
              clear hSo7 htrA hSo
              have HS5 := Lib.hid (show ∀ (w5 : World), Below w6.heap.size w6 w5 → Calls Try.prog 38 #[.pointer (some ⟨B, 0, none⟩), .pointer (some ⟨S, 0, none⟩), .pointer (some ⟨So, 0, none⟩), .slice o.s.a1 o.s.p1.length o.s.c1, .int .u64 (o.ev.mem : Int)] w5 fun e w' =>
                  e = .returned (.tuple #[]) ∧ Own w' b0 (parts B (M1.bz (oweZ (projS b).proc ((projS b).p0 ++ (projS b).p1) o.ev.mem (projS o).p1 z1)) ++ R) ∧ Kept (fun k => b0 ≤ k) w w' from fun w5 hb5 => by
                have hO5 := HE.out.1.below hb5
                have hk5 := HE.out.2.trans (Kept.of_below (S := fun k => b0 ≤ k) hb5)
                rw [HO.out.2.2.1]
                have e1 : oweZ (projS b).proc ((projS b).p0 ++ (projS b).p1) o.ev.mem (projS o).p1 z1 = oweZ b.s.proc (b.s.p0 ++ b.s.p1) o.ev.mem o.s.p1 z1 := by
                  show oweZ b.s.proc (b.s.p0.map bare ++ b.s.p1.map bare) o.ev.mem (o.s.p1.map bare) z1 = _
                  rw [← List.map_append, oweZ_bare]
                rw [e1]
                exact (owes_own w5 B b0 _ R hO5 (Nat.le_trans HB.out.2.2.2.2.2.1 hk5.size) b HO.out.2.1 hob.out.2.1 hob.out.2.2 _ o.s.a1 o.s.c1 o.s.p1 ((own_r1 hO5 HO.out.1).row (Nat.le_trans hob.out.1.2 (by decide))) o.ev.mem).mono fun e w' ⟨h1, h2, h3⟩ => ⟨h1, h2, hk5.trans h3⟩)
              generalize o.s.p1.length = q1 at *
              generalize o.s.a1 = oa1 at *
              generalize o.s.c1 = oc1 at *
              obtain ⟨tm, htm⟩ : ∃ tm, tm = o.ev.mem := ⟨_, rfl⟩
              rw [← htm] at t6 HS5
              have HTM := Lib.hid htm
              clear htm
              refine wp_region_bel_tail 15 (by kernel_rfl) (by kernel_rfl) ?_
              simp only [List.take_succ_cons, List.take_zero, List.drop_succ_cons, List.drop_zero]
              repeat (go_big_quiet_step ((fail)))
              refine wpQuiet_nil ?_
              intro w5 hw5
              have HC := Lib.hid (HS5.out w5 (bel_out hw5))
              clear hw5 HS5 o5 o7 t6
              go_wp2_with fail
              refine HC.out.mono ?_
              rintro e w7 ⟨rfl, hE⟩
              have HE7 := Lib.hid hE
              clear hE HC
              go_wp2_with fail
              obtain ⟨z2, hz2⟩ : ∃ z2, z2 = oweZ (projS b).proc ((projS b).p0 ++ (projS b).p1) o.ev.mem (projS o).p1 z1 := ⟨_, rfl⟩
              rw [HTM.out, ← hz2] at HE7
              have HF0 := Lib.hid (show closeTo (proj M1).stays (projS b) k (j + 1) z0 = if decide (j = k) = true ∨ o.s.went = false ∨ o.s.proc = b.s.proc then z2 else match (projS b).tr with
                  | some u => if next o.ev = u.1 then brk 5 z2 (!(o.ev.mem == u.2) || (!sameL (projS o).p0 (projS b).p0 || !sameL (projS o).p1 (projS b).p1)) else z2
                  | none => z2 from by
                rw [HT.out]
                unfold closeZ
                rw [if_pos HCF.out]
                simp only [HTR.out]
                rw [← HZ1.out, ← hz2]
                cases (projS b).tr <;> rfl)
              have hSo := own_stay HE7.out.1 HO.out.1
              have hSb := own_stay HE7.out.1 HO.out.2.1
              have hTb := own_tr HE7.out.1 HO.out.1 HTB.out
              have HEK : (So = S) = (j = k) := propext ⟨fun h => own_inj HE7.out.1 (i := j) (j := k) HO.out.2.2.2.2.2 HkM.out (by
                have e1 : M1.stays[j]'HO.out.2.2.2.2.2 = o := HO.out.2.2.2.2.1.symm
                have e2 : M1.stays[k]'HkM.out = b := HB.out.1.symm
                exact (congrArg SX.b e1).trans (((HO.out.2.2.2.1.symm.trans h).trans HO.out.2.2.1).trans (congrArg SX.b e2).symm)), fun h => by
                have e1 : M1.stays[j]'HO.out.2.2.2.2.2 = o := HO.out.2.2.2.2.1.symm
                have e2 : M1.stays[k]'HkM.out = b := HB.out.1.symm
                subst h
                exact HO.out.2.2.2.1.trans ((congrArg SX.b (e1.symm.trans e2)).trans HO.out.2.2.1.symm)⟩
              rw [← HO.out.2.2.2.1] at hSo
              rw [← HO.out.2.2.1] at hSb
              have htb := HTB.out
              have o0 := Bel.cell (show w7.cell? ⟨So, 0, none⟩ = some (.int .i64 o.s.proc) from cell_of_row _ _ 0 _ _ _ hSo) hSo.lt
              have o1 := Bel.cell (show w7.cell? ⟨So, 1, none⟩ = some (.int .u64 (o.s.ce : Int)) from cell_of_row _ _ 1 _ _ _ hSo) hSo.lt
              have o2 := Bel.cell (show w7.cell? ⟨So, 2, none⟩ = some (.int .i64 o.s.cr) from cell_of_row _ _ 2 _ _ _ hSo) hSo.lt
              have o8 := Bel.cell (show w7.cell? ⟨So, 8, none⟩ = some (.bool o.s.went) from cell_of_row _ _ 8 _ _ _ hSo) hSo.lt
              have o7 := Bel.cell (show w7.cell? ⟨So, 7, none⟩ = some (.pointer (some ⟨tb, 0, none⟩)) from by rw [cell_of_row _ _ 7 _ _ _ hSo]; simp [stC, htb]) hSo.lt
              have b0' := Bel.cell (show w7.cell? ⟨S, 0, none⟩ = some (.int .i64 b.s.proc) from cell_of_row _ _ 0 _ _ _ hSb) hSb.lt
              have b1 := Bel.cell (show w7.cell? ⟨S, 1, none⟩ = some (.int .u64 (b.s.ce : Int)) from cell_of_row _ _ 1 _ _ _ hSb) hSb.lt
              have b2 := Bel.cell (show w7.cell? ⟨S, 2, none⟩ = some (.int .i64 b.s.cr) from cell_of_row _ _ 2 _ _ _ hSb) hSb.lt
              have b7 := Bel.cell (show w7.cell? ⟨S, 7, none⟩ = some (.pointer (b.s.tr.map fun b => ⟨b, 0, none⟩)) from cell_of_row _ _ 7 _ _ _ hSb) hSb.lt
              have t4 := Bel.cell (show w7.cell? ⟨tb, 4, none⟩ = some (.int .u64 (o.ev.ne : Int)) from cell_of_row _ _ 4 _ _ _ hTb) (Array.getElem?_eq_some_iff.1 hTb).1
              have t5 := Bel.cell (show w7.cell? ⟨tb, 5, none⟩ = some (.int .i64 o.ev.nr) from cell_of_row _ _ 5 _ _ _ hTb) (Array.getElem?_eq_some_iff.1 hTb).1
              have heq : ∀ y : Bel w7, (Go.binOp .eql 57 (.pointer (some ⟨So, 0, none⟩)) (.pointer (some ⟨S, 0, none⟩))).run Try.prog y.val = .ok (.bool (decide (So = S))) y.val := fun y => stayEq (hSo.below y.prop) (hSb.below y.prop)
              have HSS := Lib.hid (And.intro hSo hSb)
              have HN := Lib.hid (show closeTo (proj M1).stays (projS b) k (j + 1) z0 = z2 → ∀ (w5 : World), Below w7.heap.size w7 w5 → Own w5 b0 (parts B (M1.bz (closeTo (proj M1).stays (projS b) k (j + 1) z0)) ++ R) ∧ Kept (fun k => b0 ≤ k) w w5 from fun hf w5 hb5 => by
                rw [hf]
                exact ⟨HE7.out.1.below hb5, HE7.out.2.trans (Kept.of_below hb5)⟩)
              have HE0 := Lib.hid (show decide (So = S) = decide (j = k) from by simp only [HEK])
              clear hSo hSb hTb htb HEK hz2
              generalize decide (So = S) = E at *
              rw [← HE0.out] at HF0
              generalize o.s.proc = po at *
              generalize b.s.proc = pb at *
              generalize o.s.went = wt at *
              have hcase : E = true ∨ (E = false ∧ (wt = false ∨ (wt = true ∧ (po = pb ∨ po ≠ pb)))) := by
                cases E
                · refine .inr ⟨rfl, ?_⟩
                  cases wt
                  · exact .inl rfl
                  · exact .inr ⟨rfl, Classical.em _⟩
                · exact .inl rfl
              rcases hcase with hEE | ⟨hEE, hwt | ⟨hwt, hpp | hpne⟩⟩
              · subst hEE
                have HF := Lib.hid (HF0.out.trans (if_pos (.inl rfl)))
                clear HF0
                refine wp_region_bel (by kernel_rfl) (by kernel_rfl) ?_
                repeat (go_big_quiet_step ((fail)))
                refine wpQuiet_nil ?_
                intro w9 hw9
                have hE := Lib.hid (HN.out HF.out w9 (bel_out hw9))
                clear hw9 o0 o8 o7 b0' HN heq o1 o2 b1 b2 t4 t5 b7
                go_wp2_with fail
                exact ⟨⟨j + 1, by omega, by go_num, hE⟩, by simp [intOf]; omega⟩
              · subst hEE
                subst hwt
                have HF := Lib.hid (HF0.out.trans (if_pos (.inr (.inl rfl))))
                clear HF0
                refine wp_region_bel (by kernel_rfl) (by kernel_rfl) ?_
                repeat (go_big_quiet_step ((fail)))
                refine wpQuiet_nil ?_
                intro w9 hw9
                have hE := Lib.hid (HN.out HF.out w9 (bel_out hw9))
                clear hw9 o0 o8 o7 b0' HN heq o1 o2 b1 b2 t4 t5 b7
                go_wp2_with fail
                exact ⟨⟨j + 1, by omega, by go_num, hE⟩, by simp [intOf]; omega⟩
              · subst hEE
                subst hwt
                subst hpp
                have HF := Lib.hid (HF0.out.trans (if_pos (.inr (.inr rfl))))
                clear HF0
                refine wp_region_bel (by kernel_rfl) (by kernel_rfl) ?_
                repeat (go_big_quiet_step ((fail)))
                refine wpQuiet_nil ?_
                intro w9 hw9
                have hE := Lib.hid (HN.out HF.out w9 (bel_out hw9))
                clear hw9 o0 o8 o7 b0' HN heq o1 o2 b1 b2 t4 t5 b7
                go_wp2_with fail
                exact ⟨⟨j + 1, by omega, by go_num, hE⟩, by simp [intOf]; omega⟩
              · as_aux_lemma =>
                  subst hEE
                  subst hwt
                  have HF1 := Lib.hid (HF0.out.trans (if_neg (fun h => by
                    rcases h with h | h | h
                    · exact Bool.noConfusion h
                    · exact Bool.noConfusion h
                    · exact hpne h)))
                  clear HF0
                  have hpd : (po == pb) = false := by simpa using hpne
                  clear hpne
                  cases hub : b.s.tr with
                  | none =>
                    as_aux_lemma =>
                      rw [hub] at b7
                      simp only [Option.map_none] at b7
                      have hut : (projS b).tr = none := by simp [projS, trOf, hub]
                      have HF := Lib.hid (show closeTo (proj M1).stays (projS b) k (j + 1) z0 = z2 from by rw [HF1.out, hut])
                      clear HF1 hut hub
                      refine wp_region_bel (by kernel_rfl) (by kernel_rfl) ?_
                      repeat (go_big_quiet_step ((fail)))
                      refine wpQuiet_nil ?_
                      intro w9 hw9
                      have hE := Lib.hid (HN.out HF.out w9 (bel_out hw9))
                      clear hw9 o0 o8 o7 b0' HN heq o1 o2 b1 b2 t4 t5 b7
                      go_wp2_with fail
                      exact ⟨⟨j + 1, by omega, by go_num, hE⟩, by simp [intOf]; omega⟩
                  | some ub =>
                    as_aux_lemma =>
                      rw [hub] at b7
                      simp only [Option.map_some] at b7
                      have hut : (projS b).tr = some (next b.ev, b.ev.mem) := by simp [projS, trOf, hub]
                      have hUb := own_tr HE7.out.1 HO.out.2.1 hub
                      have HF2 := HF1.out
                      rw [hut] at HF2
                      have HF2 := Lib.hid HF2
                      have u4 := Bel.cell (show w7.cell? ⟨ub, 4, none⟩ = some (.int .u64 (b.ev.ne : Int)) from cell_of_row _ _ 4 _ _ _ hUb) (Array.getElem?_eq_some_iff.1 hUb).1
                      have u5 := Bel.cell (show w7.cell? ⟨ub, 5, none⟩ = some (.int .i64 b.ev.nr) from cell_of_row _ _ 5 _ _ _ hUb) (Array.getElem?_eq_some_iff.1 hUb).1
                      have hps := fun (W : World) => passNeq W (o.s.ce : Int) o.s.cr (o.ev.ne : Int) o.ev.nr (b.s.ce : Int) b.s.cr (b.ev.ne : Int) b.ev.nr
                      have HPS := Lib.hid (show (!((o.s.ce : Int) == (b.s.ce : Int) && o.s.cr == b.s.cr && (o.ev.ne : Int) == (b.ev.ne : Int) && o.ev.nr == b.ev.nr)) = decide (¬ next o.ev = next b.ev) from by
                        have hc := HCF.out
                        simp only [projS, Prod.mk.injEq] at hc
                        rw [hc.1, hc.2, Bool.eq_iff_iff]
                        simp [next, Prod.mk.injEq])
                      have HUB := Lib.hid (And.intro hub hUb)
                      clear HF1 hut hub hUb
                      rw [HPS.out] at hps
                      clear HPS
                      by_cases hnx : next o.ev = next b.ev
                      rotate_left
                      · rw [decide_eq_true hnx] at hps
                        have HF := Lib.hid (HF2.out.trans (if_neg hnx))
                        clear HF2 hnx
                        refine wp_region_bel (by kernel_rfl) (by kernel_rfl) ?_
                        repeat (go_big_quiet_step ((fail)))
                        refine wpQuiet_nil ?_
                        intro w9 hw9
                        have hE := Lib.hid (HN.out HF.out w9 (bel_out hw9))
                        clear hps u4 u5 hw9 o0 o8 o7 b0' HN heq o1 o2 b1 b2 t4 t5 b7
                        go_wp2_with fail
                        exact ⟨⟨j + 1, by omega, by go_num, hE⟩, by simp [intOf]; omega⟩
                      · as_aux_lemma =>
                          rw [decide_eq_false (fun h => h hnx)] at hps
                          have HF := Lib.hid (HF2.out.trans (if_pos hnx))
                          clear HF2 hnx
                          refine wp_region_bel (by kernel_rfl) (by kernel_rfl) ?_
                          repeat (go_big_quiet_step ((fail)))
                          refine wpQuiet_nil ?_
                          intro w9 hw9
                          have hb9 := bel_out hw9
                          clear hw9
                          have hO9 := HE7.out.1.below hb9
                          have hK9 := HE7.out.2.trans (Kept.of_below (S := fun k => b0 ≤ k) hb9)
                          have hSo := HSS.out.1.below hb9
                          have hSb := HSS.out.2.below hb9
                          have hTb := own_tr hO9 HO.out.1 HTB.out
                          have hUb := own_tr hO9 HO.out.2.1 HUB.out.1
                          have o7 : ∀ y : Bel w9, y.val.cell? ⟨So, 7, none⟩ = _ := fun y => o7 ⟨y.val, bt hb9 y.prop⟩
                          have b7 : ∀ y : Bel w9, y.val.cell? ⟨S, 7, none⟩ = _ := fun y => b7 ⟨y.val, bt hb9 y.prop⟩
                          have t6 := Bel.cell (show w9.cell? ⟨tb, 6, none⟩ = some (.int .u64 (o.ev.mem : Int)) from cell_of_row _ _ 6 _ _ _ hTb) (Array.getElem?_eq_some_iff.1 hTb).1
                          have u6 := Bel.cell (show w9.cell? ⟨ub, 6, none⟩ = some (.int .u64 (b.ev.mem : Int)) from cell_of_row _ _ 6 _ _ _ hUb) (Array.getElem?_eq_some_iff.1 hUb).1
                          have o4 := Bel.cell (show w9.cell? ⟨So, 4, none⟩ = some (.slice o.s.a0 o.s.p0.length o.s.c0) from cell_of_row _ _ 4 _ _ _ hSo) hSo.lt
                          have o5 := Bel.cell (show w9.cell? ⟨So, 5, none⟩ = some (.slice o.s.a1 o.s.p1.length o.s.c1) from cell_of_row _ _ 5 _ _ _ hSo) hSo.lt
                          have b4 := Bel.cell (show w9.cell? ⟨S, 4, none⟩ = some (.slice b.s.a0 b.s.p0.length b.s.c0) from cell_of_row _ _ 4 _ _ _ hSb) hSb.lt
                          have b5 := Bel.cell (show w9.cell? ⟨S, 5, none⟩ = some (.slice b.s.a1 b.s.p1.length b.s.c1) from cell_of_row _ _ 5 _ _ _ hSb) hSb.lt
                          have HQ0 := Lib.hid (fun y : Bel w9 => eqFn_any o.s.p0 b.s.p0 o.s.a0 b.s.a0 o.s.c0 b.s.c0 y.val ((own_r0 (hO9.below y.prop) HO.out.1).row (Nat.le_trans (HB.out.2.2.1 o HO.out.1).1 (by decide))).r ((own_r0 (hO9.below y.prop) HO.out.2.1).row (Nat.le_trans (HB.out.2.2.1 b HO.out.2.1).1 (by decide))).r)
                          have HQ1 := Lib.hid (fun y : Bel w9 => eqFn_any o.s.p1 b.s.p1 o.s.a1 b.s.a1 o.s.c1 b.s.c1 y.val ((own_r1 (hO9.below y.prop) HO.out.1).row (Nat.le_trans (HB.out.2.2.1 o HO.out.1).2 (by decide))).r ((own_r1 (hO9.below y.prop) HO.out.2.1).row (Nat.le_trans (HB.out.2.2.1 b HO.out.2.1).2 (by decide))).r)
                          have hS0 : sameL (projS o).p0 (projS b).p0 = sameL o.s.p0 b.s.p0 := sameL_bare _ _
                          have hS1 : sameL (projS o).p1 (projS b).p1 = sameL o.s.p1 b.s.p1 := sameL_bare _ _
                          have hmm : ((o.ev.mem : Int) == (b.ev.mem : Int)) = (o.ev.mem == b.ev.mem) := by
                            rw [Bool.eq_iff_iff]
                            simp [Int.natCast_inj]
                          have HF := Lib.hid (show closeTo (proj M1).stays (projS b) k (j + 1) z0 = brk 5 z2 (!((o.ev.mem : Int) == (b.ev.mem : Int)) || (!sameL o.s.p0 b.s.p0 || !sameL o.s.p1 b.s.p1)) from by
                            rw [hmm, ← hS0, ← hS1]
                            exact HF.out)
                          have HBK := Lib.hid (show ∀ (bb : Bool) (w10 : World), Below w9.heap.size w9 w10 → Calls Try.prog 20 #[.pointer (some ⟨B, 0, none⟩), .int .i64 5, .bool bb] w10 fun e w' => e = .returned (.tuple #[]) ∧
                              (bb = (!((o.ev.mem : Int) == (b.ev.mem : Int)) || (!sameL o.s.p0 b.s.p0 || !sameL o.s.p1 b.s.p1)) → Own w' b0 (parts B (M1.bz (closeTo (proj M1).stays (projS b) k (j + 1) z0)) ++ R) ∧ Kept (fun k => b0 ≤ k) w w') from fun bb w10 hb10 => by
                            have hk10 := hK9.trans (Kept.of_below (S := fun k => b0 ≤ k) hb10)
                            refine (breaks_own (hO9.below hb10) (Nat.le_trans HB.out.2.2.2.2.2.1 hk10.size) 5 bb).mono ?_
                            rintro e w' ⟨h1, h2, h3⟩
                            refine ⟨h1, fun hbb => ?_⟩
                            rw [HF.out, ← hbb]
                            exact ⟨h2, hk10.trans h3⟩)
                          clear hO9 hK9 hSo hSb hTb hUb hS0 hS1 hmm hb9 HF heq o0 o1 o2 o8 b0' b1 b2 t4 t5 u4 u5 hps
                          generalize (o.ev.mem : Int) = om at *
                          generalize (b.ev.mem : Int) = bm at *
                          generalize sameL o.s.p0 b.s.p0 = s0 at *
                          generalize sameL o.s.p1 b.s.p1 = s1 at *
                          generalize o.s.p0.length = q0 at *
                          generalize o.s.p1.length = q1 at *
                          generalize b.s.p0.length = q2 at *
                          generalize b.s.p1.length = q3 at *
                          go_wp2_with fail
                          by_cases hom : om = bm
                          rotate_left
                          · as_aux_lemma =>
                              have hod : (om == bm) = false := by simpa using hom
                              have hod2 : (om != bm) = true := by simpa using hom
                              have hod3 : decide (om = bm) = false := by simpa using hom
                              clear hom
                              refine wp_region_bel_tail 44 (by kernel_rfl) (by kernel_rfl) ?_
                              simp only [List.take_succ_cons, List.take_zero, List.drop_succ_cons, List.drop_zero]
                              repeat (go_big_quiet_step ((go_at_call 46; (first | (with_reducible exact bel_call (HQ0.out _)) | (with_reducible exact bel_call (HQ1.out _))))))
                              refine wpQuiet_nil ?_
                              intro w10 hw10
                              have HC := Lib.hid (HBK.out true w10 (bel_out hw10))
                              clear hw10 o4 o5 o7 b4 b5 b7 t6 u6 HQ0 HQ1
                              go_wp2_with fail
                              refine HC.out.mono ?_
                              rintro e w11 ⟨rfl, hE⟩
                              have HE := Lib.hid hE
                              clear hE HC
                              go_wp2_with fail
                              exact ⟨⟨j + 1, by omega, by go_num, Lib.hid (HE.out (by rw [hod]; rfl))⟩, by simp [intOf]; omega⟩
                          · subst hom
                            cases s0
                            · as_aux_lemma =>
                                refine wp_region_bel_tail 44 (by kernel_rfl) (by kernel_rfl) ?_
                                simp only [List.take_succ_cons, List.take_zero, List.drop_succ_cons, List.drop_zero]
                                repeat (go_big_quiet_step ((go_at_call 46; (first | (with_reducible exact bel_call (HQ0.out _)) | (with_reducible exact bel_call (HQ1.out _))))))
                                refine wpQuiet_nil ?_
                                intro w10 hw10
                                have HC := Lib.hid (HBK.out true w10 (bel_out hw10))
                                clear hw10 o4 o5 o7 b4 b5 b7 t6 u6 HQ0 HQ1
                                go_wp2_with fail
                                refine HC.out.mono ?_
                                rintro e w11 ⟨rfl, hE⟩
                                have HE := Lib.hid hE
                                clear hE HC
                                go_wp2_with fail
                                exact ⟨⟨j + 1, by omega, by go_num, Lib.hid (HE.out (by simp))⟩, by simp [intOf]; omega⟩
                            · as_aux_lemma =>
                                refine wp_region_bel_tail 44 (by kernel_rfl) (by kernel_rfl) ?_
                                simp only [List.take_succ_cons, List.take_zero, List.drop_succ_cons, List.drop_zero]
                                repeat (go_big_quiet_step ((go_at_call 46; (first | (with_reducible exact bel_call (HQ0.out _)) | (with_reducible exact bel_call (HQ1.out _))))))
                                refine wpQuiet_nil ?_
                                intro w10 hw10
                                have HC := Lib.hid (HBK.out (!s1) w10 (bel_out hw10))
                                clear hw10 o4 o5 o7 b4 b5 b7 t6 u6 HQ0 HQ1
                                go_wp2_with fail
                                refine HC.out.mono ?_
                                rintro e w11 ⟨rfl, hE⟩
                                have HE := Lib.hid hE
                                clear hE HC
                                go_wp2_with fail
                                exact ⟨⟨j + 1, by omega, by go_num, Lib.hid (HE.out (by simp))⟩, by simp [intOf]; omega⟩
    · have hd : decide ((j : Int) < (n : Int)) = false := by simpa using hlt
      obtain rfl : j = n := by omega
      go_wp2_with fail
      go_end0
      exact ⟨rfl, HW.out⟩
end Go.Proofs.Ytogagkgkmoppmaa
