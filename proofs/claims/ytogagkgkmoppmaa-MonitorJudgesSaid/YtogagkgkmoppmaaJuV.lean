/-
  The judge: Evs, the first rule that a trace breaks.
  Conditions: those that each theorem names.
-/
import Derived.Test.YtogagkgkmoppmaaJuL
import Derived.Test.YtogagkgkmoppmaaJuQ
import Derived.Test.YtogagkgkmoppmaaJuU
namespace Go.Proofs.Ytogagkgkmoppmaa
set_option linter.unusedVariables false
set_option linter.unusedSimpArgs false
open Go.RowKit GM
/-- a delivery counted behind the transitional has one -/
def GtS (s : JS) : Prop := ∀ p ∈ s.gots, p.2 = true → s.tr.isSome = true
def Gt (t : J) : Prop := ∀ s ∈ t.stays, GtS s
theorem Gt.same {t t' : J} (h : Gt t) (e : t'.stays = t.stays) : Gt t' := fun s hs => h s (e ▸ hs)
theorem Gt.br {t : J} (h : Gt t) (r : Int) (b : Bool) : Gt (t.br r b) := h.same (t.br_stays r b).1
theorem Gt.at_ {t : J} (h : Gt t) {k : Nat} {s : JS} (hk : t.stays[k]? = some s) : GtS s := h s (List.mem_of_getElem? hk)
theorem Gt.setS {t : J} (h : Gt t) {k : Nat} {s : JS} (hs : GtS s) : Gt (t.setS k s) := fun u hu => by
  rcases List.mem_or_eq_of_mem_set hu with hu | rfl
  · exact h u hu
  · exact hs
theorem Gt.upd {t : J} (h : Gt t) {k : Nat} {o s : JS} (hk : t.stays[k]? = some o) (h1 : s.gots = o.gots) (h2 : s.tr = o.tr) : Gt (t.setS k s) := h.setS (by
  intro p hp hp2
  rw [h2]
  rw [h1] at hp
  exact h.at_ hk p hp hp2)
theorem Gt.went {l : List Ev} {t : J} (h : Gt t) (x : Ev) (i : Nat) (b : Option Nat) : Gt (t.went l x i b) := by
  unfold J.went
  split
  · exact h
  · split
    · exact h
    · rename_i o ho
      exact ((h.upd ho (s := { o with nx := some i }) rfl rfl).br _ _).br _ _
theorem Gt.enter {t : J} (h : Gt t) (x : Ev) (b : Option Nat) : Gt (t.enter x b) := fun s hs => by
  rcases List.mem_append.1 hs with hs | hs
  · exact h s hs
  · obtain rfl := List.mem_singleton.1 hs
    exact fun p hp => by cases hp
theorem Gt.regular {l : List Ev} {t : J} (h : Gt t) (i : Nat) (x : Ev) (lv : Bool) (b : Option Nat) : Gt (t.regular l i x lv b) :=
  Gt.enter (Gt.went ((h.br _ _).same (dups_stays x t.stays _).1) x i b) x b
theorem Gt.innerAt {l : List Ev} {t : J} (h : Gt t) (i : Nat) (x : Ev) (k : Nat) (o : JS) (ho : t.stays[k]? = some o) : Gt (t.innerAt l i x k o) := by
  unfold J.innerAt
  split
  · exact h.br _ _
  · split
    · exact (h.br _ _).setS (fun p _ _ => rfl)
    · split
      · refine (h.br _ _).setS (fun p hp hp2 => ?_)
        rcases List.mem_append.1 hp with hp | hp
        · exact (show GtS o from h.at_ ho) p hp hp2
        · obtain rfl := List.mem_singleton.1 hp
          exact hp2
      · exact h
theorem Gt.inner {l : List Ev} {t : J} (h : Gt t) (i : Nat) (x : Ev) (lv : Bool) (s : Option Nat) : Gt (t.inner l i x lv s) := by
  unfold J.inner
  split
  · exact h.br _ _
  · split
    · exact h
    · rename_i o ho
      split
      · exact h.innerAt i x _ o ho
      · exact h.br _ _
theorem Gt.mineTo {t : J} (h : Gt t) (i : Nat) (x : Ev) (k : Nat) (o : JS) (ho : t.stays[k]? = some o) : Gt (t.mineTo i x k o) := by
  unfold J.mineTo
  split
  · exact (h.same (t' := t.wr 3 _) rfl).upd (show (t.wr 3 _).stays[k]? = some o from ho) rfl rfl
  · split
    · exact h.same rfl
    · split
      · exact (h.same (t' := t.wr 3 _) rfl).upd (show (t.wr 3 _).stays[k]? = some o from ho) rfl rfl
      · split
        · exact h.upd ho rfl rfl
        · exact h
theorem Gt.mine {l : List Ev} {nm : Nat → List NameK} {t : J} (h : Gt t) (i : Nat) (x : Ev) (s : Option Nat) : Gt (t.mine l nm i x s) := by
  unfold J.mine
  split
  · exact h.same rfl
  · split
    · exact h
    · rename_i o ho
      split
      · exact h.same rfl
      · exact h.mineTo i x _ o ho
theorem Gt.upper {l : List Ev} {nm : Nat → List NameK} {t : J} (h : Gt t) (i : Nat) (x : Ev) (s : Option Nat) : Gt (t.upper l nm i x s) := by
  unfold J.upper
  split
  · split
    · exact h
    · split
      · exact h
      · rename_i o ho
        exact h.upd ho rfl rfl
  · split
    · exact h.mine i x s
    · exact h
theorem Gt.step {l : List Ev} {nm : Nat → List NameK} {t : J} (h : Gt t) (i : Nat) (x : Ev) : Gt (t.step l nm i x) := by
  unfold J.step
  split
  · exact h.same rfl
  · split
    · exact h.same rfl
    · split
      · exact h.regular i x _ _
      · split
        · exact h.inner i x _ _
        · exact h.upper i x _
theorem thru_gt (l : List Ev) (nm : Nat → List NameK) : ∀ n, Gt (thru l nm n)
  | 0 => fun s hs => by cases hs
  | n + 1 => by
    unfold thru
    split
    · exact thru_gt l nm n
    · exact (thru_gt l nm n).step n _
theorem behind_stays {l : List Ev} {t : J} : ∀ n, (t.behind l n).stays = t.stays
  | 0 => rfl
  | n + 1 => by
    have h := behind_stays (l := l) (t := t) n
    show ((t.behind l n).behind1 l n).stays = _
    unfold J.behind1
    split
    · exact h
    · split
      · exact h
      · split
        · exact (J.br_stays _ _ _).1.trans h
        · exact h
theorem twice_stays {l : List Ev} {t : J} : ∀ n, (t.twice l n).stays = t.stays
  | 0 => rfl
  | n + 1 => by
    have h := twice_stays (l := l) (t := t) n
    show ((t.twice l n).twice1 l n).stays = _
    unfold J.twice1
    split
    · exact h
    · split
      · exact (J.br_stays _ _ _).1.trans h
      · exact h
/-- what is broken of a judge -/
theorem JB.bad {wB w : World} {g o n : Nat} {l : List Ev} {R : List Pc} {M : JM} {t : J} (h : JB wB g o l R n M t w) : w.cell? ⟨M.h.T, 2, none⟩ = some (.map (some M.h.bb)) ∧ GMap intV w M.h.bb (vals boolV t.bad) := by
  obtain ⟨b, h1, h2, rfl⟩ := h
  exact ⟨tcell h1.own 2 (v := .map (some M.h.bb)) rfl ⟨w, br w⟩, jown_bad h1.own⟩
theorem JB.at0 {wB w : World} {g o n : Nat} {l : List Ev} {R : List Pc} {M : JM} {t : J} (h : JB wB g o l R n M t w) : At wB R w := by
  obtain ⟨b, h1, h2, _⟩ := h
  exact ⟨h1.own.sub (List.sublist_append_right _ _), h1.bel⟩
theorem JB.look {wB w : World} {g o n : Nat} {l : List Ev} {R : List Pc} {M : JM} {t : J} (h : JB wB g o l R n M t w) (i : Int) : (Instr.lookup 51 (.map (some M.h.bb)) (.int .i64 i) false).run Try.prog w = .ok (.bool ((get t.bad i).getD false)) w := by
  have := h.bad.2.lookup (P := Try.prog) Try.underlying51 intLaw (z := .bool false) (by kernel_rfl) i
  rw [get_vals] at this
  rw [this]
  cases get t.bad i <;> rfl
theorem firstBad_at (t : J) (n : Nat) (r : Int) : firstBad t (n + 1) r = if (get t.bad r).getD false = true then r else firstBad t n (r + 1) := rfl
set_option maxRecDepth 100000 in
set_option maxHeartbeats 16000000 in
theorem evs_any {wB w : World} {g o : Nat} {l : List Ev} {nm : Nat → List NameK} {R : List Pc} (h : At wB R w) (hT : Tr wB g o l nm) (ad : Option Addr) (had : 0 < l.length → ad = some ⟨g, o, none⟩) (cap : Nat) (hl : l.length ≤ 5000) :
    Calls Try.prog 14 #[.slice ad l.length cap] w fun e w' => e = .returned (.int .i64 (evsJ l nm)) ∧ At wB R w' := by
  have HT := Lib.hid (And.intro hT hl)
  have HR := Lib.hid (through_any h hT ad had cap hl)
  obtain ⟨r, hr⟩ : ∃ r, r = evsJ l nm := ⟨_, rfl⟩
  rw [← hr]
  have HRR := Lib.hid hr
  clear hr
  obtain ⟨n, hn⟩ : ∃ n, n = l.length := ⟨_, rfl⟩
  rw [← hn] at HR ⊢
  have HN := Lib.hid hn
  clear h hT had hl hn
  go_enter Try.func14, Try.ntmps14
  go_wp2_with fail
  refine HR.out.mono ?_
  rintro e w1 ⟨H, rfl, h1⟩
  obtain ⟨T, hT⟩ : ∃ T, T = H.T := ⟨_, rfl⟩
  have HB := Lib.hid (behind_any h1 HT.out.1 HT.out.2)
  rw [← hT] at HB ⊢
  have HH := Lib.hid hT
  clear hT h1 HR
  go_wp2_with fail
  refine HB.out.mono ?_
  rintro e w2 ⟨rfl, h2⟩
  obtain ⟨M, h3, hMH⟩ := JB.of h2
  obtain ⟨t1, ht1⟩ : ∃ t, t = (thru l nm n).behind l l.length := ⟨_, rfl⟩
  rw [← ht1] at h3
  have hns : M.stays.length = t1.stays.length := by rw [h3.stays, List.length_map]
  have hgt : ∀ a ∈ M.stays, ∀ p ∈ a.s.gots, p.2 = true → a.s.tr.isSome = true := fun a ha => by
    refine (show Gt t1 from ?_) a.s (by rw [h3.stays]; exact List.mem_map_of_mem ha)
    rw [ht1]
    exact (thru_gt l nm n).same (behind_stays _)
  have HO := Lib.hid (once_any h3 HT.out.1 HT.out.2 (by rw [HN.out]; exact HT.out.2))
  rw [hMH, ← HH.out] at HO
  have HM := Lib.hid (And.intro hMH (And.intro hns (And.intro hgt ht1)))
  clear hMH hns hgt ht1 h2 h3 HB
  go_wp2_with fail
  refine HO.out.mono ?_
  rintro e w3 ⟨rfl, h4⟩
  have HG := Lib.hid (together_any h4 HT.out.1 (by rw [HN.out]; exact HT.out.2) HM.out.2.2.1)
  have hj : ((t1.twice l l.length).once l M.stays.length).tog l M.stays.length = judged l nm := by
    have e0 : judged l nm = (((((thru l nm l.length).behind l l.length).twice l l.length).once l (((thru l nm l.length).behind l l.length).twice l l.length).stays.length).tog l ((((thru l nm l.length).behind l l.length).twice l l.length).once l (((thru l nm l.length).behind l l.length).twice l l.length).stays.length).stays.length) := rfl
    have e1 : t1 = (thru l nm l.length).behind l l.length := by rw [HM.out.2.2.2, HN.out]
    have e2 : (t1.twice l l.length).stays.length = M.stays.length := by rw [twice_stays, HM.out.2.1]
    have e3 : ((t1.twice l l.length).once l M.stays.length).stays.length = M.stays.length := by rw [h4.stays, List.length_map]
    rw [e0, ← e1, e2, e3]
  rw [HM.out.1, ← HH.out, hj] at HG
  clear HO h4 hj
  go_wp2_with fail
  refine HG.out.mono ?_
  rintro e w4 ⟨rfl, h5⟩
  obtain ⟨tj, htj⟩ : ∃ t, t = judged l nm := ⟨_, rfl⟩
  rw [← htj] at h5
  obtain ⟨bb, hbb⟩ : ∃ b, b = M.h.bb := ⟨_, rfl⟩
  have HE := Lib.hid (And.intro h5.at0 (show ∀ i : Int, (Instr.lookup 51 (.map (some bb)) (.int .i64 i) false).run Try.prog w4 = .ok (.bool ((get tj.bad i).getD false)) w4 from fun i => by rw [hbb]; exact h5.look i))
  have c2 := h5.bad.1
  rw [HM.out.1, ← HH.out, ← HM.out.1, ← hbb] at c2
  have HF := Lib.hid (show firstBad tj 6 1 = r from by rw [HRR.out, htj]; rfl)
  clear h5 htj hbb HG HM
  go_wp2_with fail
  go_loopw [4] (fun i wr => ∃ k : Nat, k ≤ 6 ∧ i = .int .i64 ((k : Int) + 1) ∧ wr = w4 ∧ Hid (firstBad tj (6 - k) ((k : Int) + 1) = r)) (fun i _ => 7 - (intOf i).toNat)
  case atStart => exact ⟨0, by omega, rfl, rfl, HF⟩
  case round =>
    obtain ⟨k, hk, rfl, rfl, HW⟩ := hrel
    by_cases hk6 : k < 6
    · have hq1 : decide ((k : Int) + 1 ≤ 6) = true := by rw [decide_eq_true_eq]; omega
      have hq3 : (k : Int) + 1 ≤ 6 := by omega
      have hlk := HE.out.2 ((k : Int) + 1)
      have HS := Lib.hid (show (if (get tj.bad ((k : Int) + 1)).getD false = true then ((k : Int) + 1) else firstBad tj (6 - (k + 1)) ((k : Int) + 1 + 1)) = r from by
        rw [← firstBad_at, show 6 - (k + 1) + 1 = 6 - k by omega]
        exact HW.out)
      clear HW HF
      generalize (get tj.bad ((k : Int) + 1)).getD false = bv at *
      cases bv
      · replace HS := Lib.hid (show firstBad tj (6 - (k + 1)) ((k : Int) + 1 + 1) = r from HS.out)
        go_wp2_with fail
        exact ⟨⟨k + 1, by omega, by go_num, trivial, by rw [show ((k + 1 : Nat) : Int) = (k : Int) + 1 by omega]; exact HS⟩, by simp [intOf]; omega⟩
      · replace HS := Lib.hid (show (k : Int) + 1 = r from HS.out)
        go_wp2_with fail
        go_ret
        rw [← HS.out]
        exact ⟨rfl, HE.out.1⟩
    · have hq1 : decide ((k : Int) + 1 ≤ 6) = false := by rw [decide_eq_false_iff_not]; omega
      have hq3 : ¬ (k : Int) + 1 ≤ 6 := by omega
      have HS := Lib.hid (show r = 0 from by
        have h := HW.out
        rw [show 6 - k = 0 by omega] at h
        exact h.symm)
      clear HW HF
      go_wp2_with fail
      go_ret
      rw [HS.out]
      exact ⟨rfl, HE.out.1⟩
end Go.Proofs.Ytogagkgkmoppmaa
