/-
  The judge: Evs, the first rule that a trace breaks.
  Conditions: those that each theorem names.
-/
import Derived.Test.YtogagkgkmoppmaaGreatDoorJuKZs
import Derived.Test.YtogagkgkmoppmaaGreatDoorJuQ
import Derived.Test.YtogagkgkmoppmaaGreatDoorJuU
import Derived.Test.YtogagkgkmoppmaaGreatDoorMonBZs
import Derived.LaidEqlPtr
import Derived.Deep.CutBlock
namespace Go.Proofs.YtogagkgkmoppmaaGreatDoor
set_option linter.unusedVariables false
set_option linter.unusedSimpArgs false
open Go.RowKit GM
/-- a delivery counted behind the transitional has one -/
def GtS (s : JS) : Prop := ∀ p ∈ s.gots, p.2 = true → s.tr.isSome = true
def Gt (t : J) : Prop := ∀ s ∈ t.stays, GtS s
theorem Gt.same {t t' : J} (h : Gt t) (e : t'.stays = t.stays) : Gt t' := fun s hs => h s (e ▸ hs)
theorem Gt.br {t : J} (h : Gt t) (r : Int) (b : Bool) : Gt (t.br r b) := h.same (t.br_stays r b).1
theorem Gt.at_ {t : J} (h : Gt t) {k : Nat} {s : JS} (hk : t.stays[k]? = some s) : GtS s := h s (List.mem_of_getElem? hk)
theorem Gt.setS {t : J} (h : Gt t) {k : Nat} {s : JS} (hs : GtS s) : Gt (t.setS k s) := fun u hu => by
  rcases List.mem_or_eq_of_mem_set hu with hu | rfl
  · exact h u hu
  · exact hs
theorem Gt.upd {t : J} (h : Gt t) {k : Nat} {o s : JS} (hk : t.stays[k]? = some o) (h1 : s.gots = o.gots) (h2 : s.tr = o.tr) : Gt (t.setS k s) := h.setS (by
  intro p hp hp2
  rw [h2]
  rw [h1] at hp
  exact h.at_ hk p hp hp2)
theorem Gt.went {l : List Ev} {t : J} (h : Gt t) (x : Ev) (i : Nat) (b : Option Nat) : Gt (t.went l x i b) := by
  unfold J.went
  split
  · exact h
  · split
    · exact h
    · rename_i o ho
      exact ((h.upd ho (s := { o with nx := some i }) rfl rfl).br _ _).br _ _
theorem Gt.enter {t : J} (h : Gt t) (x : Ev) (b : Option Nat) : Gt (t.enter x b) := fun s hs => by
  rcases List.mem_append.1 hs with hs | hs
  · exact h s hs
  · obtain rfl := List.mem_singleton.1 hs
    exact fun p hp => by cases hp
theorem Gt.regular {l : List Ev} {t : J} (h : Gt t) (i : Nat) (x : Ev) (lv : Bool) (b : Option Nat) : Gt (t.regular l i x lv b) :=
  Gt.enter (Gt.went ((h.br _ _).same (dups_stays x t.stays _).1) x i b) x b
theorem Gt.innerAt {l : List Ev} {t : J} (h : Gt t) (i : Nat) (x : Ev) (k : Nat) (o : JS) (ho : t.stays[k]? = some o) : Gt (t.innerAt l i x k o) := by
  unfold J.innerAt
  split
  · exact h.br _ _
  · split
    · exact (h.br _ _).setS (fun p _ _ => rfl)
    · split
      · refine (h.br _ _).setS (fun p hp hp2 => ?_)
        rcases List.mem_append.1 hp with hp | hp
        · exact (show GtS o from h.at_ ho) p hp hp2
        · obtain rfl := List.mem_singleton.1 hp
          exact hp2
      · exact h
theorem Gt.inner {l : List Ev} {t : J} (h : Gt t) (i : Nat) (x : Ev) (lv : Bool) (s : Option Nat) : Gt (t.inner l i x lv s) := by
  unfold J.inner
  split
  · exact h.br _ _
  · split
    · exact h
    · rename_i o ho
      split
      · exact h.innerAt i x _ o ho
      · exact h.br _ _
theorem Gt.mineTo {t : J} (h : Gt t) (i : Nat) (x : Ev) (k : Nat) (o : JS) (ho : t.stays[k]? = some o) : Gt (t.mineTo i x k o) := by
  unfold J.mineTo
  split
  · exact (h.same (t' := t.wr 3 _) rfl).upd (show (t.wr 3 _).stays[k]? = some o from ho) rfl rfl
  · split
    · exact h.same rfl
    · split
      · exact (h.same (t' := t.wr 3 _) rfl).upd (show (t.wr 3 _).stays[k]? = some o from ho) rfl rfl
      · split
        · exact h.upd ho rfl rfl
        · exact h
theorem Gt.mine {l : List Ev} {nm : Nat → List NameK} {t : J} (h : Gt t) (i : Nat) (x : Ev) (s : Option Nat) : Gt (t.mine l nm i x s) := by
  unfold J.mine
  split
  · exact h.same rfl
  · split
    · exact h
    · rename_i o ho
      split
      · exact h.same rfl
      · exact h.mineTo i x _ o ho
theorem Gt.upper {l : List Ev} {nm : Nat → List NameK} {t : J} (h : Gt t) (i : Nat) (x : Ev) (s : Option Nat) : Gt (t.upper l nm i x s) := by
  unfold J.upper
  split
  · split
    · exact h
    · split
      · exact h
      · rename_i o ho
        exact h.upd ho rfl rfl
  · split
    · exact h.mine i x s
    · exact h
theorem Gt.step {l : List Ev} {nm : Nat → List NameK} {t : J} (h : Gt t) (i : Nat) (x : Ev) : Gt (t.step l nm i x) := by
  unfold J.step
  split
  · exact h.same rfl
  · split
    · exact h.same rfl
    · split
      · exact h.regular i x _ _
      · split
        · exact h.inner i x _ _
        · exact h.upper i x _
theorem thru_gt (l : List Ev) (nm : Nat → List NameK) : ∀ n, Gt (thru l nm n)
  | 0 => fun s hs => by cases hs
  | n + 1 => by
    unfold thru
    split
    · exact thru_gt l nm n
    · exact (thru_gt l nm n).step n _
theorem behind_stays {l : List Ev} {t : J} : ∀ n, (t.behind l n).stays = t.stays
  | 0 => rfl
  | n + 1 => by
    have h := behind_stays (l := l) (t := t) n
    show ((t.behind l n).behind1 l n).stays = _
    unfold J.behind1
    split
    · exact h
    · split
      · exact h
      · split
        · exact (J.br_stays _ _ _).1.trans h
        · exact h
theorem twice_stays {l : List Ev} {t : J} : ∀ n, (t.twice l n).stays = t.stays
  | 0 => rfl
  | n + 1 => by
    have h := twice_stays (l := l) (t := t) n
    show ((t.twice l n).twice1 l n).stays = _
    unfold J.twice1
    split
    · exact h
    · split
      · exact (J.br_stays _ _ _).1.trans h
      · exact h
/-- what is broken of a judge -/
theorem JB.bad {wB w : World} {g o n : Nat} {l : List Ev} {R : List Pc} {M : JM} {t : J} (h : JB wB g o l R n M t w) : w.cell? ⟨M.h.T, 2, none⟩ = some (.map (some M.h.bb)) ∧ GMap intV w M.h.bb (vals boolV t.bad) := by
  obtain ⟨b, h1, h2, rfl⟩ := h
  exact ⟨tcell h1.own 2 (v := .map (some M.h.bb)) rfl ⟨w, br w⟩, jown_bad h1.own⟩
theorem JB.at0 {wB w : World} {g o n : Nat} {l : List Ev} {R : List Pc} {M : JM} {t : J} (h : JB wB g o l R n M t w) : At wB R w := by
  obtain ⟨b, h1, h2, _⟩ := h
  exact ⟨h1.own.sub (List.sublist_append_right _ _), h1.bel⟩
theorem JB.look {wB w : World} {g o n : Nat} {l : List Ev} {R : List Pc} {M : JM} {t : J} (h : JB wB g o l R n M t w) (i : Int) : (Instr.lookup 46 (.map (some M.h.bb)) (.int .i64 i) false).run Tryz.prog w = .ok (.bool ((get t.bad i).getD false)) w := by
  have := h.bad.2.lookup (P := Tryz.prog) Tryz.underlying46 intLaw (z := .bool false) (by kernel_rfl) i
  rw [get_vals] at this
  rw [this]
  cases get t.bad i <;> rfl
theorem firstBad_at (t : J) (n : Nat) (r : Int) : firstBad t (n + 1) r = if (get t.bad r).getD false = true then r else firstBad t n (r + 1) := rfl
set_option maxRecDepth 100000 in
set_option maxHeartbeats 16000000 in
theorem evs_any {wB w : World} {g o : Nat} {l : List Ev} {nm : Nat → List NameK} {R : List Pc} (h : At wB R w) (hT : Tr wB g o l nm) (ad : Option Addr) (had : 0 < l.length → ad = some ⟨g, o, none⟩) (cap : Nat) (hl : l.length ≤ 5000) :
    Calls Tryz.prog 7 #[.slice ad l.length cap] w fun e w' => e = .returned (.int .i64 (evsJ l nm)) ∧ At wB R w' := by
  have HT := Lib.hid (And.intro hT hl)
  have HR := Lib.hid (through_any h hT ad had cap hl)
  obtain ⟨r, hr⟩ : ∃ r, r = evsJ l nm := ⟨_, rfl⟩
  rw [← hr]
  have HRR := Lib.hid hr
  clear hr
  obtain ⟨n, hn⟩ : ∃ n, n = l.length := ⟨_, rfl⟩
  rw [← hn] at HR ⊢
  have HN := Lib.hid hn
  clear h hT had hl hn
  go_enter Tryz.func7, Tryz.ntmps7
  go_wp2_with fail
  refine HR.out.mono ?_
  rintro e w1 ⟨H, rfl, h1⟩
  obtain ⟨T, hT⟩ : ∃ T, T = H.T := ⟨_, rfl⟩
  have HB := Lib.hid (behind_any h1 HT.out.1 HT.out.2)
  rw [← hT] at HB ⊢
  have HH := Lib.hid hT
  clear hT h1 HR
  go_wp2_with fail
  refine HB.out.mono ?_
  rintro e w2 ⟨rfl, h2⟩
  obtain ⟨M, h3, hMH⟩ := JB.of h2
  obtain ⟨t1, ht1⟩ : ∃ t, t = (thru l nm n).behind l l.length := ⟨_, rfl⟩
  rw [← ht1] at h3
  have hns : M.stays.length = t1.stays.length := by rw [h3.stays, List.length_map]
  have hgt : ∀ a ∈ M.stays, ∀ p ∈ a.s.gots, p.2 = true → a.s.tr.isSome = true := fun a ha => by
    refine (show Gt t1 from ?_) a.s (by rw [h3.stays]; exact List.mem_map_of_mem ha)
    rw [ht1]
    exact (thru_gt l nm n).same (behind_stays _)
  have HO := Lib.hid (once_any h3 HT.out.1 HT.out.2 (by rw [HN.out]; exact HT.out.2))
  rw [hMH, ← HH.out] at HO
  have HM := Lib.hid (And.intro hMH (And.intro hns (And.intro hgt ht1)))
  clear hMH hns hgt ht1 h2 h3 HB
  go_wp2_with fail
  refine HO.out.mono ?_
  rintro e w3 ⟨rfl, h4⟩
  have HG := Lib.hid (together_any h4 HT.out.1 (by rw [HN.out]; exact HT.out.2) HM.out.2.2.1)
  have hj : ((t1.twice l l.length).once l M.stays.length).tog l M.stays.length = judged l nm := by
    have e0 : judged l nm = (((((thru l nm l.length).behind l l.length).twice l l.length).once l (((thru l nm l.length).behind l l.length).twice l l.length).stays.length).tog l ((((thru l nm l.length).behind l l.length).twice l l.length).once l (((thru l nm l.length).behind l l.length).twice l l.length).stays.length).stays.length) := rfl
    have e1 : t1 = (thru l nm l.length).behind l l.length := by rw [HM.out.2.2.2, HN.out]
    have e2 : (t1.twice l l.length).stays.length = M.stays.length := by rw [twice_stays, HM.out.2.1]
    have e3 : ((t1.twice l l.length).once l M.stays.length).stays.length = M.stays.length := by rw [h4.stays, List.length_map]
    rw [e0, ← e1, e2, e3]
  rw [HM.out.1, ← HH.out, hj] at HG
  clear HO h4 hj
  go_wp2_with fail
  refine HG.out.mono ?_
  rintro e w4 ⟨rfl, h5⟩
  obtain ⟨tj, htj⟩ : ∃ t, t = judged l nm := ⟨_, rfl⟩
  rw [← htj] at h5
  obtain ⟨bb, hbb⟩ : ∃ b, b = M.h.bb := ⟨_, rfl⟩
  have HE := Lib.hid (And.intro h5.at0 (show ∀ i : Int, (Instr.lookup 46 (.map (some bb)) (.int .i64 i) false).run Tryz.prog w4 = .ok (.bool ((get tj.bad i).getD false)) w4 from fun i => by rw [hbb]; exact h5.look i))
  have c2 := h5.bad.1
  rw [HM.out.1, ← HH.out, ← HM.out.1, ← hbb] at c2
  have HF := Lib.hid (show firstBad tj 6 1 = r from by rw [HRR.out, htj]; rfl)
  clear h5 htj hbb HG HM
  go_wp2_with fail
  go_loopw [4] (fun i wr => ∃ k : Nat, k ≤ 6 ∧ i = .int .i64 ((k : Int) + 1) ∧ wr = w4 ∧ Hid (firstBad tj (6 - k) ((k : Int) + 1) = r)) (fun i _ => 7 - (intOf i).toNat)
  case atStart => exact ⟨0, by omega, rfl, rfl, HF⟩
  case round =>
    obtain ⟨k, hk, rfl, rfl, HW⟩ := hrel
    by_cases hk6 : k < 6
    · have hq1 : decide ((k : Int) + 1 ≤ 6) = true := by rw [decide_eq_true_eq]; omega
      have hq3 : (k : Int) + 1 ≤ 6 := by omega
      have hlk := HE.out.2 ((k : Int) + 1)
      have HS := Lib.hid (show (if (get tj.bad ((k : Int) + 1)).getD false = true then ((k : Int) + 1) else firstBad tj (6 - (k + 1)) ((k : Int) + 1 + 1)) = r from by
        rw [← firstBad_at, show 6 - (k + 1) + 1 = 6 - k by omega]
        exact HW.out)
      clear HW HF
      generalize (get tj.bad ((k : Int) + 1)).getD false = bv at *
      cases bv
      · replace HS := Lib.hid (show firstBad tj (6 - (k + 1)) ((k : Int) + 1 + 1) = r from HS.out)
        go_wp2_with fail
        exact ⟨⟨k + 1, by omega, by go_num, trivial, by rw [show ((k + 1 : Nat) : Int) = (k : Int) + 1 by omega]; exact HS⟩, by simp [intOf]; omega⟩
      · replace HS := Lib.hid (show (k : Int) + 1 = r from HS.out)
        go_wp2_with fail
        go_ret
        rw [← HS.out]
        exact ⟨rfl, HE.out.1⟩
    · have hq1 : decide ((k : Int) + 1 ≤ 6) = false := by rw [decide_eq_false_iff_not]; omega
      have hq3 : ¬ (k : Int) + 1 ≤ 6 := by omega
      have HS := Lib.hid (show r = 0 from by
        have h := HW.out
        rw [show 6 - k = 0 by omega] at h
        exact h.symm)
      clear HW HF
      go_wp2_with fail
      go_ret
      rw [HS.out]
      exact ⟨rfl, HE.out.1⟩
end Go.Proofs.YtogagkgkmoppmaaGreatDoor
namespace Go.Proofs.YtogagkgkmoppmaaGreatDoor
set_option linter.unusedVariables false
set_option linter.unusedSimpArgs false
open Go.RowKit GM
/-- what one stay makes of one that goes on -/
def closeZ (b : PS) (same : Bool) (o : PS) (z : Int) : Int :=
  if o.conf = b.conf then
    let z1 := oweZ b.proc (b.p0 ++ b.p1) o.mem o.p0 z
    let z2 := match o.tr with
      | some t => oweZ b.proc (b.p0 ++ b.p1) t.2 o.p1 z1
      | none => z1
    if same = true ∨ o.went = false ∨ o.proc = b.proc then z2 else
    match o.tr, b.tr with
    | some t, some u => if t.1 = u.1 then brk 5 z2 (!(t.2 == u.2) || (!sameL o.p0 b.p0 || !sameL o.p1 b.p1)) else z2
    | _, _ => z2
  else z
def closeTo (l : List PS) (b : PS) (k : Nat) : Nat → Int → Int
  | 0, z => z
  | n + 1, z => closeZ b (decide (n = k)) (l.getD n b) (closeTo l b k n z)
def pclose (P : PM) (k : Nat) : PM := match P.stays[k]? with
  | none => P
  | some s => { P with stays := P.stays.set k { s with went := true }, broken := closeTo (P.stays.set k { s with went := true }) { s with went := true } k P.stays.length P.broken }
def went (x : SX) : SX := { x with s := { x.s with went := true } }
theorem proj_close (M : MM) (k : Nat) (hk : k < M.stays.length) : proj ((M.setS k (went M.stays[k])).bz (closeTo (proj (M.setS k (went M.stays[k]))).stays (projS (went M.stays[k])) k M.stays.length M.c.broken)) = pclose (proj M) k := by
  have e1 : (proj M).stays[k]? = some (projS M.stays[k]) := by simp [proj, hk]
  unfold pclose
  rw [e1]
  have e2 : (proj (M.setS k (went M.stays[k]))).stays = (proj M).stays.set k (projS (went M.stays[k])) := by rw [proj_setS]
  have e3 : projS (went M.stays[k]) = { projS M.stays[k] with went := true } := rfl
  have e4 : (proj M).stays.length = M.stays.length := by simp [proj]
  simp only [e4]
  rw [← e3, ← e2]
  rfl
end Go.Proofs.YtogagkgkmoppmaaGreatDoor
namespace Go.Proofs.YtogagkgkmoppmaaGreatDoor
set_option linter.unusedVariables false
set_option linter.unusedSimpArgs false
open Go.RowKit GM
def newS (S C : Nat) (x : Ev) : SX := ⟨S, ⟨x.proc, x.ce, x.cr, x.mem, [], none, 0, [], none, 0, C, none, false⟩, [], x⟩
/-- of a configuration's members that were told twice, and of a process's stay that comes twice -/
def toldB (l : List (ConfK × Nat)) (x : Ev) : Bool := match get l (conf x) with
  | some n => !(n == x.mem)
  | none => false
def dupB (x : Ev) (o : PS) : Bool := decide (o.conf = conf x) && decide (o.proc = x.proc)
def dupZ (x : Ev) (l : List PS) (z : Int) : Int := l.foldl (fun z o => brk 1 z (dupB x o)) z
/-- what the way there breaks -/
def wayB (x : Ev) (o : PS) : Bool := match o.tr with
  | none => true
  | some t => (!decide (t.1 = conf x) || !inB t.2 x.mem) || !hasB t.2 x.proc
def wayZ (x : Ev) (o : PS) (z : Int) : Int := brk 1 (brk 1 z (decide (keyZ (x.ce : Int) x.cr o.conf.1 o.conf.2 ≤ 0))) (wayB x o)
def MM.tell (M : MM) (x : Ev) : MM := { M with mems := put M.mems (conf x) x.mem }
def goneM (M : MM) (k : Nat) (z : Int) : MM := if hk : k < M.stays.length then (M.setS k (went M.stays[k])).bz (closeTo (proj (M.setS k (went M.stays[k]))).stays (projS (went M.stays[k])) k M.stays.length (z)) else M.bz z
def regMid (M : MM) (x : Ev) (z : Int) : MM := match get M.now x.proc with
  | none => M.bz z
  | some k => match (proj M).stays[k]? with
    | none => M.bz z
    | some o => goneM M k (wayZ x o z)
theorem regMid_keep (M : MM) (x : Ev) (z : Int) : (regMid M x z).now = M.now ∧ (regMid M x z).stays.length = M.stays.length ∧ (regMid M x z).c.n = M.c.n := by
  unfold regMid goneM
  split
  · exact ⟨rfl, rfl, rfl⟩
  · split
    · exact ⟨rfl, rfl, rfl⟩
    · split
      · exact ⟨rfl, by simp [MM.bz, MM.setS], rfl⟩
      · exact ⟨rfl, rfl, rfl⟩
theorem vals_now (l : List SX) (s : SX) (L : List (Int × Nat)) (h : ∀ p ∈ L, p.2 < l.length) : vals (nthV l) L = vals (nthV (l ++ [s])) L := by
  unfold vals
  refine List.map_congr_left fun p hp => ?_
  have := h p hp
  unfold nthV
  congr 2
  rw [List.map_append, List.getD_eq_getElem?_getD, List.getD_eq_getElem?_getD, List.getElem?_append_left (by simpa using this)]
def finM (M : MM) (s : SX) (p : Int) (sa : Option Addr) (sc : Nat) : MM := { M with now := put M.now p M.stays.length, stays := M.stays ++ [s], c := { M.c with sa := sa, n := M.c.n + 1, sc := sc } }
theorem put_mem {β : Type} {L : List (Int × β)} {i : Int} {v : β} {p : Int × β} (h : p ∈ put L i v) : p ∈ L ∨ p = (i, v) := by
  unfold put at h
  split at h
  · obtain ⟨y, hy, e⟩ := List.mem_map.1 h
    split at e
    · exact .inr e.symm
    · exact .inl (e ▸ hy)
  · rcases List.mem_append.1 h with h | h
    · exact .inl h
    · exact .inr (List.mem_singleton.1 h)
theorem finM_ok {M : MM} (h : MOk M) (s : SX) (p : Int) (sa : Option Addr) (sc : Nat) : MOk (finM M s p sa sc) := by
  refine ⟨by simp [finM, h.n], fun q hq => ?_⟩
  rcases put_mem hq with hq | rfl
  · have := h.now q hq
    simp [finM]
    omega
  · simp [finM]
def regM (M : MM) (x : Ev) : MM := regMid (M.tell x) x (dupZ x (proj M).stays (brk 1 (brk 1 M.c.broken (!(get M.live x.proc).getD false || !hasB x.mem x.proc)) (toldB M.mems x)))
end Go.Proofs.YtogagkgkmoppmaaGreatDoor
namespace Go.Proofs.YtogagkgkmoppmaaGreatDoor
set_option linter.unusedVariables false
set_option linter.unusedSimpArgs false
open Go.RowKit GM
def newP (x : Ev) : PS := ⟨x.proc, conf x, x.mem, [], [], fun _ => 0, none, false⟩
def ptell (P : PM) (x : Ev) : PM := { P with mems := fun c => if c = conf x then some x.mem else P.mems c }
def pregMid (P : PM) (x : Ev) (z : Int) : PM := match P.now x.proc with
  | none => { P with broken := z }
  | some k => match P.stays[k]? with
    | none => { P with broken := z }
    | some o => pclose { P with broken := wayZ x o z } k
def ptoldB (P : PM) (x : Ev) : Bool := match P.mems (conf x) with
  | some n => !(n == x.mem)
  | none => false
def pregular (P : PM) (x : Ev) : PM :=
  { pregMid (ptell P x) x (dupZ x P.stays (brk 1 (brk 1 P.broken (!P.live x.proc || !hasB x.mem x.proc)) (ptoldB P x))) with
    now := fun p => if p = x.proc then some P.stays.length else P.now p
    stays := (pregMid (ptell P x) x (dupZ x P.stays (brk 1 (brk 1 P.broken (!P.live x.proc || !hasB x.mem x.proc)) (ptoldB P x)))).stays ++ [newP x] }
theorem proj_tell (M : MM) (x : Ev) : proj (M.tell x) = ptell (proj M) x := by
  unfold ptell
  have h : (proj (M.tell x)).mems = fun c => if c = conf x then some x.mem else (proj M).mems c := by
    funext c
    show get (put M.mems (conf x) x.mem) c = _
    rw [get_put]
    rfl
  rw [← h]
  rfl
theorem proj_regMid (M : MM) (x : Ev) (z : Int) : proj (regMid M x z) = pregMid (proj M) x z := by
  unfold regMid pregMid
  show _ = match get M.now x.proc with
    | none => { proj M with broken := z }
    | some k => match (proj M).stays[k]? with
      | none => { proj M with broken := z }
      | some o => pclose { proj M with broken := wayZ x o z } k
  cases get M.now x.proc with
  | none => rfl
  | some k =>
    simp only
    cases ho : (proj M).stays[k]? with
    | none => rfl
    | some o =>
      have hk : k < M.stays.length := by
        have := (List.getElem?_eq_some_iff.1 ho).1
        simpa [proj] using this
      simp only [goneM]
      rw [dif_pos hk]
      exact proj_close (M.bz (wayZ x o z)) k hk
theorem pregMid_len (P : PM) (x : Ev) (z : Int) : (pregMid P x z).stays.length = P.stays.length ∧ (pregMid P x z).now = P.now := by
  unfold pregMid
  split
  · exact ⟨rfl, rfl⟩
  · split
    · exact ⟨rfl, rfl⟩
    · unfold pclose
      split
      · exact ⟨rfl, rfl⟩
      · exact ⟨by simp, rfl⟩
theorem proj_fin (M : MM) (s : SX) (x : Ev) (sa : Option Addr) (sc : Nat) (hs : projS s = newP x) (p : Int) : proj (finM M s p sa sc) = { proj M with now := fun q => if q = p then some (proj M).stays.length else (proj M).now q, stays := (proj M).stays ++ [newP x] } := by
  have h1 : (proj (finM M s p sa sc)).now = fun q => if q = p then some (proj M).stays.length else (proj M).now q := by
    funext q
    show get (put M.now p M.stays.length) q = _
    rw [get_put]
    simp [proj]
  have h2 : (proj (finM M s p sa sc)).stays = (proj M).stays ++ [newP x] := by
    simp [proj, finM, hs]
  rw [← h1, ← h2]
  rfl
theorem proj_reg (M : MM) (x : Ev) (S C : Nat) (sa : Option Addr) (sc : Nat) : proj (finM (regM M x) (newS S C x) x.proc sa sc) = pregular (proj M) x := by
  rw [proj_fin _ _ x _ _ rfl]
  unfold regM pregular
  have h0 : toldB M.mems x = ptoldB (proj M) x := rfl
  rw [proj_regMid, proj_tell, h0]
  have h1 := pregMid_len (ptell (proj M) x) x (dupZ x (proj M).stays (brk 1 (brk 1 M.c.broken (!(get M.live x.proc).getD false || !hasB x.mem x.proc)) (ptoldB (proj M) x)))
  rw [h1.1, h1.2]
  rfl
theorem regMid_sz {n : Nat} {M : MM} (h : Sz n M) (x : Ev) (z : Int) : Sz n (regMid M x z) := by
  unfold regMid goneM
  split
  · exact ⟨h.stays, h.rows, h.cnt, h.sent⟩
  · split
    · exact ⟨h.stays, h.rows, h.cnt, h.sent⟩
    · split
      · next k _ _ _ _ hk =>
        refine ⟨by simpa [MM.bz, MM.setS] using h.stays, fun y hy => ?_, fun y hy => ?_, h.sent⟩
        · rcases List.mem_or_eq_of_mem_set hy with hy | rfl
          · exact h.rows y hy
          · exact h.rows M.stays[k] (List.getElem_mem hk)
        · rcases List.mem_or_eq_of_mem_set hy with hy | rfl
          · exact h.cnt y hy
          · exact h.cnt M.stays[k] (List.getElem_mem hk)
      · exact ⟨h.stays, h.rows, h.cnt, h.sent⟩
theorem fin_sz {n : Nat} {M : MM} (h : Sz n M) (S C : Nat) (x : Ev) (p : Int) (sa : Option Addr) (sc : Nat) : Sz (n + 1) (finM M (newS S C x) p sa sc) := by
  have h' := h.more (Nat.le_succ n)
  refine ⟨by have := h.stays; simp [finM]; omega, fun y hy => ?_, fun y hy => ?_, h'.sent⟩
  · rcases List.mem_append.1 hy with hy | hy
    · exact h'.rows y hy
    · rw [List.mem_singleton.1 hy]
      exact ⟨Nat.zero_le _, Nat.zero_le _⟩
  · rcases List.mem_append.1 hy with hy | hy
    · exact h'.cnt y hy
    · rw [List.mem_singleton.1 hy]
      intro i
      show 0 ≤ (0 : Int) ∧ (0 : Int) ≤ ((n + 1 : Nat) : Int)
      omega
end Go.Proofs.YtogagkgkmoppmaaGreatDoor
namespace Go.Proofs.YtogagkgkmoppmaaGreatDoor
set_option linter.unusedVariables false
set_option linter.unusedSimpArgs false
open Go.RowKit GM
def hadK (x : Ev) : HadK := (x.proc, (x.ce : Int), x.cr, x.m.frm, (x.m.seq : Int))
/-- how many of some messages are one -/
def cntM (m : Msg) (l : List Msg) : Nat := (l.filter (sameM m)).length
theorem cntM_le (m : Msg) (l : List Msg) : cntM m l ≤ l.length := List.length_filter_le _ _
theorem cntM_take (m : Msg) (l : List Msg) (j : Nat) (h : j < l.length) : cntM m (l.take (j + 1)) = cntM m (l.take j) + if sameM m l[j] = true then 1 else 0 := by
  unfold cntM
  rw [List.take_succ_eq_append_getElem h, List.filter_append, List.length_append]
  by_cases hs : sameM m l[j] = true
  · simp [hs]
  · simp [hs]
def MM.saw (M : MM) (x : Ev) : MM := { M with seen := put M.seen (hadK x) true }
/-- where a stay's next messages go -/
def pnext (s : PS) : ConfK := match s.tr with
  | none => (0, 0)
  | some t => t.1
def pmem (s : PS) : Nat := match s.tr with
  | none => s.mem
  | some t => t.2
def dlv0 (P : PM) (x : Ev) : PM := { P with broken := brk 3 (brk 2 P.broken ((cntM (bare x.m) (P.sends (place x)) : Int) != 1)) (P.seen (hadK x)), seen := fun h => if h = hadK x then true else P.seen h }
theorem conf_set {w0 w : World} {N : Nat} {a b c d : Value} (h : w.heap[N]? = some (.cells #[a, b] 27 (0, 0))) (hb : Below w0.heap.size w0 w) (hN : w0.heap.size ≤ N) :
    ((w.setCell ⟨N, 0, none⟩ c).setCell ⟨N, 1, none⟩ d).heap[N]? = some (.cells #[c, d] 27 (0, 0)) ∧ Below w0.heap.size w0 ((w.setCell ⟨N, 0, none⟩ c).setCell ⟨N, 1, none⟩ d) := by
  have h1 := setCell_block h 0 c
  have h2 := setCell_block h1 1 d
  exact ⟨h2, bs (bs hb (p := ⟨N, 0, none⟩) hN _) (p := ⟨N, 1, none⟩) hN _⟩
/-- the variable of the next configuration -/
def nxPc (N : Nat) (c : ConfK) : Pc := varPc N #[.int .u64 c.1, .int .i64 c.2] 27 (by decide) (by decide)
def lastZ (al : List Msg) (x : Ev) (z : Int) : Int := match al.getLast? with
  | none => z
  | some y => brk 3 z (decide (0 ≤ keyZ (y.stamp : Int) y.frm (x.m.stamp : Int) x.m.frm))
/-- what of its own must have come first -/
def depZ (cnt : Int → Int) (ds : List Nat) (j : Nat) (z : Int) : Int := (List.range j).foldl (fun (z : Int) (q : Nat) => brk 4 z (decide (cnt (q : Int) < (ds.getD q 0 : Int)))) z
theorem depZ_step (cnt : Int → Int) (ds : List Nat) (j : Nat) (z : Int) : depZ cnt ds (j + 1) z = brk 4 (depZ cnt ds j z) (decide (cnt (j : Int) < (ds.getD j 0 : Int))) := by
  unfold depZ
  rw [List.range_succ, List.foldl_append]
  rfl
def counted (x : SX) (i : Int) : SX := { x with cnt := put x.cnt i ((get x.cnt i).getD 0 + 1) }
/-- what those owe that went on -/
def pastB (c : ConfK) (b : PS) : Bool := decide (b.conf = c) && b.went
def pastZ1 (c : ConfK) (m : Msg) (mem : Nat) (z : Int) (b : PS) : Int := if pastB c b = true then oweZ b.proc (b.p0 ++ b.p1) mem [m] z else z
def pastZ (c : ConfK) (m : Msg) (mem : Nat) (l : List PS) (z : Int) : Int := l.foldl (pastZ1 c m mem) z
def gotP (s : PS) (m : Msg) : PS := if s.tr.isSome = true then { s with cnt := fun i => if i = m.frm then s.cnt m.frm + 1 else s.cnt i, p1 := s.p1 ++ [bare m] } else { s with cnt := fun i => if i = m.frm then s.cnt m.frm + 1 else s.cnt i, p0 := s.p0 ++ [bare m] }
def dlvZ (s : PS) (x : Ev) (z : Int) : Int := depZ s.cnt x.m.ds x.m.ds.length (lastZ (s.p0 ++ s.p1) x (brk 2 z (!((x.ne : Int) == (pnext s).1 && x.nr == (pnext s).2))))
def pdeliver (P : PM) (x : Ev) : PM := match pstay (dlv0 P x) x with
  | none => (dlv0 P x).br 1 true
  | some k => match (dlv0 P x).stays[k]? with
    | none => dlv0 P x
    | some s => { dlv0 P x with stays := (dlv0 P x).stays.set k (gotP s x.m), broken := pastZ s.conf (bare x.m) (pmem s) ((dlv0 P x).stays.set k (gotP s x.m)) (dlvZ s x (dlv0 P x).broken) }
theorem lastZ_bare (l : List Msg) (x : Ev) (z : Int) : lastZ (l.map bare) x z = lastZ l x z := by
  unfold lastZ
  rw [List.getLast?_map]
  cases l.getLast? <;> rfl
def got0 (x : SX) (m : Msg) (ad : Option Addr) (cap : Nat) : SX := { x with s := { x.s with p0 := x.s.p0 ++ [m], a0 := ad, c0 := cap } }
def got1 (x : SX) (m : Msg) (ad : Option Addr) (cap : Nat) : SX := { x with s := { x.s with p1 := x.s.p1 ++ [m], a1 := ad, c1 := cap } }
def gotS (o : SX) (m : Msg) (ad : Option Addr) (cap : Nat) : SX := if o.s.tr.isSome = true then got1 (counted o m.frm) m ad cap else got0 (counted o m.frm) m ad cap
theorem gotS_proj (o : SX) (m : Msg) (ad : Option Addr) (cap : Nat) : projS (gotS o m ad cap) = gotP (projS o) m := by
  have hc : (fun i => (get (put o.cnt m.frm ((get o.cnt m.frm).getD 0 + 1)) i).getD 0) = fun i => if i = m.frm then (get o.cnt m.frm).getD 0 + 1 else (get o.cnt i).getD 0 := by
    funext i
    rw [get_put]
    split <;> rfl
  unfold gotS gotP
  rw [tr_isSome]
  cases h : o.s.tr.isSome with
  | false =>
    simp only [Bool.false_eq_true, if_false]
    unfold projS got0 counted trOf
    simp only [hc, List.map_append, List.map_cons, List.map_nil]
  | true =>
    simp only [if_true]
    unfold projS got1 counted trOf
    simp only [hc, List.map_append, List.map_cons, List.map_nil]
theorem gotS_keep (o : SX) (m : Msg) (ad : Option Addr) (cap : Nat) : (gotS o m ad cap).b = o.b ∧ (gotS o m ad cap).s.ce = o.s.ce ∧ (gotS o m ad cap).s.cr = o.s.cr := by
  unfold gotS
  split
  · exact ⟨rfl, rfl, rfl⟩
  · exact ⟨rfl, rfl, rfl⟩
theorem gotS_sz {n : Nat} {o : SX} (h1 : o.s.p0.length ≤ n ∧ o.s.p1.length ≤ n) (h2 : ∀ i, 0 ≤ (get o.cnt i).getD 0 ∧ (get o.cnt i).getD 0 ≤ n) (m : Msg) (ad : Option Addr) (cap : Nat) :
    ((gotS o m ad cap).s.p0.length ≤ n + 1 ∧ (gotS o m ad cap).s.p1.length ≤ n + 1) ∧ ∀ i, 0 ≤ (get (gotS o m ad cap).cnt i).getD 0 ∧ (get (gotS o m ad cap).cnt i).getD 0 ≤ ((n + 1 : Nat) : Int) := by
  have hc : ∀ i, 0 ≤ (get (put o.cnt m.frm ((get o.cnt m.frm).getD 0 + 1)) i).getD 0 ∧ (get (put o.cnt m.frm ((get o.cnt m.frm).getD 0 + 1)) i).getD 0 ≤ ((n + 1 : Nat) : Int) := fun i => by
    rw [get_put]
    have a := h2 m.frm
    have b := h2 i
    split
    · simp only [Option.getD_some]
      omega
    · omega
  unfold gotS
  split
  · refine ⟨⟨by show o.s.p0.length ≤ n + 1; omega, by show (o.s.p1 ++ [m]).length ≤ n + 1; simp; omega⟩, hc⟩
  · refine ⟨⟨by show (o.s.p0 ++ [m]).length ≤ n + 1; simp; omega, by show o.s.p1.length ≤ n + 1; omega⟩, hc⟩
end Go.Proofs.YtogagkgkmoppmaaGreatDoor
namespace Go.Proofs.YtogagkgkmoppmaaGreatDoor
set_option linter.unusedVariables false
set_option linter.unusedSimpArgs false
open Go.RowKit
theorem info28 : (Tryz.prog.info? 28).map (fun i => (i.zero, i.size, i.bytes)) = some (some (.int .u32 0), 1, 4) := by kernel_rfl
def Clone32 (w : World) (ds : List Nat) (e : Ending) (w' : World) : Prop := ∃ ad cap, e = .returned (.slice ad ds.length cap) ∧ w'.ownsRow w.heap.size 28 1 (.slice ad ds.length cap) ds.length (numsM ds)
end Go.Proofs.YtogagkgkmoppmaaGreatDoor
namespace Go.Proofs.YtogagkgkmoppmaaGreatDoor
set_option linter.unusedVariables false
set_option linter.unusedSimpArgs false
open Go.RowKit GM
/-- a start, a stop -/
def pstart (P : PM) (x : Ev) : PM := { P with live := fun i => if i = x.proc then decide (x.kind = 5) else P.live i, now := fun i => if i = x.proc then none else P.now i }
def ptrans (P : PM) (x : Ev) : PM := match pstay P x with
  | none => P.br 1 true
  | some k => match P.stays[k]? with
    | none => P
    | some s => { P.br 1 s.tr.isSome with stays := P.stays.set k { s with tr := some (next x, x.mem) } }
def pkind (P : PM) (x : Ev) : PM :=
  if x.kind = 5 ∨ x.kind = 6 then pstart P x else
  if x.kind = 3 then pregular P x else
  if x.kind = 1 then psend P x else
  if x.kind = 2 then pdeliver P x else
  if x.kind = 4 then ptrans P x else P
def pmark (P : PM) : PM := if 0 < P.broken ∧ P.at_ = 0 then { P with at_ := P.len, rule := P.broken } else P
def padd (P : PM) (x : Ev) : PM := pmark (pkind { P with len := P.len + 1 } x)
def MM.start (M : MM) (x : Ev) : MM := { M with live := put M.live x.proc (decide (x.kind = 5)), now := del M.now x.proc }
theorem proj_start (M : MM) (x : Ev) : proj (M.start x) = pstart (proj M) x := by
  have h1 : (proj (M.start x)).live = fun i => if i = x.proc then decide (x.kind = 5) else (proj M).live i := by
    funext i
    show (get (put M.live x.proc _) i).getD false = _
    rw [get_put]
    split <;> rfl
  have h2 : (proj (M.start x)).now = fun i => if i = x.proc then none else (proj M).now i := by
    funext i
    show get (del M.now x.proc) i = _
    rw [get_del]
    rfl
  unfold pstart
  rw [← h1, ← h2]
  rfl
def wayS (x : SX) (X : Nat) (e : Ev) : SX := { x with s := { x.s with tr := some X }, ev := e }
theorem wayS_proj (y : SX) (X : Nat) (x : Ev) : projS (wayS y X x) = { projS y with tr := some (next x, x.mem) } := rfl
theorem start_ok {M : MM} (h : MOk M) (x : Ev) : MOk (M.start x) := ⟨h.n, fun p hp => h.now p (List.mem_filter.1 hp).1⟩
theorem reads_more {w : World} {B B' s n : Nat} {ad : Option Addr} {xs : List Value} (h : Reads w B s ad n xs) (hb : B ≤ B') : Reads w B' s ad n xs :=
  ⟨h.1, fun hn => by
    obtain ⟨p, e, hp, hc⟩ := h.2 hn
    exact ⟨p, e, Nat.lt_of_lt_of_le hp hb, hc⟩⟩
theorem msgT_of_own {w : World} {B : Nat} {m : Msg} (ho : w.ownsRow B 28 1 (.slice m.da m.ds.length m.dc) m.ds.length (numsM m.ds)) (hl : m.ds.length ≤ 9223372036854775807) : MsgT w m := by
  refine ⟨⟨fun i hi => ?_, hl⟩, fun B' O e h0 => ?_⟩
  · obtain ⟨g, cap, hv, hg0, hg1⟩ := ho.form (by omega)
    injection hv with e1 e2 e3
    refine ⟨g, 0, e1, hg1, ?_⟩
    have := ho.cells (g := g) (by rw [e1]; rfl) i (.int .u32 (m.ds[i] : Int)) (by unfold numsM; rw [List.getElem?_map, List.getElem?_eq_getElem hi]; rfl)
    rw [← this]
    congr 1
    unfold Addr.add
    split <;> simp_all
  · obtain ⟨g, c, hv, hg0, hg1⟩ := ho.form (by omega)
    injection hv with e1 e2 e3
    rw [e] at e1
    injection e1 with e1
    injection e1 with e4 e5 e6
    obtain ⟨c, fz, hc⟩ := Lib.ownsRow_kind ho g (by rw [e, e4]; rfl)
    exact ⟨c, fz, by rw [e4]; exact hc⟩
def lenM (M : MM) : MM := { M with c := { M.c with len := M.c.len + 1 } }
def cloned (x : Ev) (ad : Option Addr) (cap : Nat) : Ev := { x with m := { x.m with da := ad, dc := cap } }
theorem padd_cloned (P : PM) (x : Ev) (ad : Option Addr) (cap : Nat) : padd P (cloned x ad cap) = padd P x := rfl
end Go.Proofs.YtogagkgkmoppmaaGreatDoor
namespace Go.Proofs.YtogagkgkmoppmaaGreatDoor
set_option linter.unusedVariables false
set_option linter.unusedSimpArgs false
open Go.RowKit GM
/-- a rule that is broken stays, or one ahead of it is -/
def Le (z z' : Int) : Prop := z' = z ∨ (0 < z' ∧ (z = 0 ∨ z' < z))
theorem Le.refl (z : Int) : Le z z := .inl rfl
theorem Le.trans {a b c : Int} (h : Le a b) (k : Le b c) : Le a c := by
  unfold Le at *
  omega
theorem brk_le (r z : Int) (c : Bool) (hr : 0 < r) : Le z (brk r z c) := by
  unfold brk Le
  split
  · omega
  · exact .inl rfl
theorem fold_le {α : Type} (f : Int → α → Int) (hf : ∀ z a, Le z (f z a)) : ∀ (l : List α) (z : Int), Le z (l.foldl f z)
  | [], z => .refl z
  | a :: l, z => (hf z a).trans (fold_le f hf l (f z a))
theorem oweZ_le (p : Int) (all : List Msg) (mem : Nat) (l : List Msg) (z : Int) : Le z (oweZ p all mem l z) := by
  unfold oweZ
  refine fold_le _ (fun z x => ?_) l z
  split
  · exact brk_le _ _ _ (by decide)
  · exact .refl z
theorem closeZ_le (b : PS) (same : Bool) (o : PS) (z : Int) : Le z (closeZ b same o z) := by
  have h1 := oweZ_le b.proc (b.p0 ++ b.p1) o.mem o.p0 z
  unfold closeZ
  split
  · simp only
    cases ho : o.tr with
    | none =>
      simp only
      split
      · exact h1
      · exact h1
    | some t =>
      have h2 := h1.trans (oweZ_le b.proc (b.p0 ++ b.p1) t.2 o.p1 (oweZ b.proc (b.p0 ++ b.p1) o.mem o.p0 z))
      simp only
      split
      · exact h2
      · cases b.tr with
        | none => exact h2
        | some u =>
          simp only
          split
          · exact h2.trans (brk_le _ _ _ (by decide))
          · exact h2
  · exact .refl z
theorem closeTo_le (l : List PS) (b : PS) (k : Nat) : ∀ (n : Nat) (z : Int), Le z (closeTo l b k n z)
  | 0, z => .refl z
  | n + 1, z => (closeTo_le l b k n z).trans (closeZ_le b _ _ _)
/-- a step of a monitor: what it does to its numbers -/
structure Step (P Q : PM) : Prop where
  len : Q.len = P.len
  at_ : Q.at_ = P.at_
  rule : Q.rule = P.rule
  broken : Le P.broken Q.broken
theorem Step.refl (P : PM) : Step P P := ⟨rfl, rfl, rfl, .refl _⟩
theorem Step.trans {P Q R : PM} (h : Step P Q) (k : Step Q R) : Step P R := ⟨k.len.trans h.len, k.at_.trans h.at_, k.rule.trans h.rule, h.broken.trans k.broken⟩
theorem step_br (P : PM) (r : Int) (c : Bool) (hr : 0 < r) : Step P (P.br r c) := ⟨rfl, rfl, rfl, brk_le _ _ _ hr⟩
theorem step_pclose (P : PM) (k : Nat) : Step P (pclose P k) := by
  unfold pclose
  split
  · exact .refl P
  · exact ⟨rfl, rfl, rfl, closeTo_le _ _ _ _ _⟩
theorem wayZ_le (x : Ev) (o : PS) (z : Int) : Le z (wayZ x o z) := (brk_le 1 z _ (by decide)).trans (brk_le 1 _ _ (by decide))
theorem step_pregMid (P : PM) (x : Ev) (z : Int) (hz : Le P.broken z) : Step P (pregMid P x z) := by
  unfold pregMid
  split
  · exact ⟨rfl, rfl, rfl, hz⟩
  · split
    · exact ⟨rfl, rfl, rfl, hz⟩
    · next o _ => exact (show Step P { P with broken := wayZ x o z } from ⟨rfl, rfl, rfl, hz.trans (wayZ_le x o z)⟩).trans (step_pclose _ _)
theorem dupZ_le (x : Ev) (l : List PS) (z : Int) : Le z (dupZ x l z) := fold_le _ (fun z o => brk_le 1 z _ (by decide)) l z
theorem step_pregular (P : PM) (x : Ev) : Step P (pregular P x) := by
  have h := step_pregMid (ptell P x) x (dupZ x P.stays (brk 1 (brk 1 P.broken (!P.live x.proc || !hasB x.mem x.proc)) (ptoldB P x))) (((brk_le 1 _ _ (by decide)).trans (brk_le 1 _ _ (by decide))).trans (dupZ_le _ _ _))
  exact ⟨h.len, h.at_, h.rule, h.broken⟩
theorem step_psend (P : PM) (x : Ev) : Step P (psend P x) := by
  have h0 : Step P (psnd P x) := by
    unfold psnd
    split
    · exact ⟨rfl, rfl, rfl, .refl _⟩
    · exact .refl P
  unfold psend
  split
  · exact h0.trans (step_br _ _ _ (by decide))
  · split
    · exact h0
    · exact h0.trans (step_br _ _ _ (by decide))
theorem lastZ_le (al : List Msg) (x : Ev) (z : Int) : Le z (lastZ al x z) := by
  unfold lastZ
  split
  · exact .refl z
  · exact brk_le _ _ _ (by decide)
theorem depZ_le (cnt : Int → Int) (ds : List Nat) (j : Nat) (z : Int) : Le z (depZ cnt ds j z) := fold_le _ (fun z q => brk_le 4 z _ (by decide)) _ z
theorem pastZ_le (c : ConfK) (m : Msg) (mem : Nat) (l : List PS) (z : Int) : Le z (pastZ c m mem l z) := fold_le _ (fun z b => by
  unfold pastZ1
  split
  · exact oweZ_le _ _ _ _ _
  · exact .refl z) l z
theorem dlvZ_le (s : PS) (x : Ev) (z : Int) : Le z (dlvZ s x z) := ((brk_le 2 z _ (by decide)).trans (lastZ_le _ _ _)).trans (depZ_le _ _ _ _)
theorem step_pdeliver (P : PM) (x : Ev) : Step P (pdeliver P x) := by
  have h0 : Step P (dlv0 P x) := ⟨rfl, rfl, rfl, (brk_le 2 _ _ (by decide)).trans (brk_le 3 _ _ (by decide))⟩
  unfold pdeliver
  split
  · exact h0.trans (step_br _ _ _ (by decide))
  · split
    · exact h0
    · exact ⟨rfl, rfl, rfl, h0.broken.trans ((dlvZ_le _ _ _).trans (pastZ_le _ _ _ _ _))⟩
theorem step_ptrans (P : PM) (x : Ev) : Step P (ptrans P x) := by
  unfold ptrans
  split
  · exact step_br _ _ _ (by decide)
  · split
    · exact .refl P
    · exact ⟨rfl, rfl, rfl, brk_le _ _ _ (by decide)⟩
theorem step_pkind (P : PM) (x : Ev) : Step P (pkind P x) := by
  unfold pkind
  split
  · exact ⟨rfl, rfl, rfl, .refl _⟩
  · split
    · exact step_pregular P x
    · split
      · exact step_psend P x
      · split
        · exact step_pdeliver P x
        · split
          · exact step_ptrans P x
          · exact .refl P
/-- what an event does to the numbers -/
structure Added (P Q : PM) : Prop where
  len : Q.len = P.len + 1
  broken : Le P.broken Q.broken
  was : ¬ P.at_ = 0 → Q.at_ = P.at_ ∧ Q.rule = P.rule
  now : P.at_ = 0 → 0 < Q.broken → Q.at_ = P.len + 1 ∧ Q.rule = Q.broken
  not : P.at_ = 0 → ¬ 0 < Q.broken → Q.at_ = 0 ∧ Q.rule = P.rule
theorem padd_added (P : PM) (x : Ev) : Added P (padd P x) := by
  have h := step_pkind { P with len := P.len + 1 } x
  have hb : (padd P x).broken = (pkind { P with len := P.len + 1 } x).broken := by
    unfold padd pmark
    split <;> rfl
  refine ⟨?_, ?_, fun h0 => ?_, fun h0 h1 => ?_, fun h0 h1 => ?_⟩
  · unfold padd pmark
    split
    · exact h.len
    · exact h.len
  · rw [hb]
    exact h.broken
  · unfold padd pmark
    rw [if_neg (fun e => h0 (h.at_ ▸ e.2))]
    exact ⟨h.at_, h.rule⟩
  · rw [hb] at h1 ⊢
    unfold padd pmark
    rw [if_pos ⟨h1, h.at_.trans h0⟩]
    exact ⟨h.len, rfl⟩
  · rw [hb] at h1
    unfold padd pmark
    rw [if_neg (fun e => h1 e.1)]
    exact ⟨h.at_.trans h0, h.rule⟩
def PM0 : PM := ⟨fun _ => [], fun _ => false, fun _ => none, [], fun _ => false, fun _ => none, 0, 0, 0, 0⟩
/-- a monitor that was told some events -/
def told (l : List Ev) : PM := l.foldl padd PM0
theorem told_snoc (l : List Ev) (x : Ev) : told (l ++ [x]) = padd (told l) x := by simp [told]
theorem told_len : ∀ (l : List Ev), (told l).len = l.length := by
  intro l
  suffices ∀ (l : List Ev) (P : PM), (l.foldl padd P).len = P.len + l.length by
    have h := this l PM0
    unfold told
    rw [h]
    simp [PM0]
  intro l
  induction l with
  | nil => intro P; simp
  | cons x l ih =>
    intro P
    rw [List.foldl_cons, ih, (padd_added P x).len]
    simp
    omega
end Go.Proofs.YtogagkgkmoppmaaGreatDoor
namespace Go.Proofs.YtogagkgkmoppmaaGreatDoor
set_option linter.unusedVariables false
set_option linter.unusedSimpArgs false
open Go.RowKit GM
/-- a number that names the least of the rules that are broken, 0: none -/
def Led (z : Int) (S : Int → Prop) : Prop := (z = 0 ∧ ∀ r, ¬ S r) ∨ (0 < z ∧ S z ∧ ∀ r, S r → z ≤ r)
theorem Led.congr {z : Int} {S S' : Int → Prop} (h : Led z S) (e : ∀ r, S r ↔ S' r) : Led z S' := by
  rcases h with ⟨h1, h2⟩ | ⟨h1, h2, h3⟩
  · exact .inl ⟨h1, fun r hr => h2 r ((e r).2 hr)⟩
  · exact .inr ⟨h1, (e z).1 h2, fun r hr => h3 r ((e r).2 hr)⟩
theorem Led.uniq {z z' : Int} {S : Int → Prop} (h : Led z S) (h' : Led z' S) : z = z' := by
  rcases h with ⟨h1, h2⟩ | ⟨h1, h2, h3⟩ <;> rcases h' with ⟨k1, k2⟩ | ⟨k1, k2, k3⟩
  · omega
  · exact absurd k2 (h2 _)
  · exact absurd h2 (k2 _)
  · have := h3 _ k2
    have := k3 _ h2
    omega
theorem Led.one {z : Int} {S : Int → Prop} (h : Led z S) (h1 : S 1) : z = 1 := by
  rcases h with ⟨a, b⟩ | ⟨a, b, c⟩
  · exact absurd h1 (b 1)
  · have := c 1 h1
    omega
def Or1 (S : Int → Prop) (r : Int) (C : Prop) : Int → Prop := fun q => S q ∨ (q = r ∧ C)
theorem Led.brk {z : Int} {S : Int → Prop} (h : Led z S) {r : Int} (hr : 0 < r) (b : Bool) : Led (brk r z b) (Or1 S r (b = true)) := by
  unfold Go.Proofs.YtogagkgkmoppmaaGreatDoor.brk Or1
  cases b
  · rw [if_neg (by simp)]
    refine h.congr fun q => ⟨fun h => Or.inl h, fun h => ?_⟩
    rcases h with h | ⟨_, h⟩
    · exact h
    · cases h
  · rcases h with ⟨h1, h2⟩ | ⟨h1, h2, h3⟩
    · rw [if_pos ⟨rfl, .inl h1⟩]
      refine .inr ⟨hr, .inr ⟨rfl, rfl⟩, fun q hq => ?_⟩
      rcases hq with hq | ⟨rfl, _⟩
      · exact absurd hq (h2 q)
      · exact Int.le_refl _
    · by_cases hlt : r < z
      · rw [if_pos ⟨rfl, .inr hlt⟩]
        refine .inr ⟨hr, .inr ⟨rfl, rfl⟩, fun q hq => ?_⟩
        rcases hq with hq | ⟨rfl, _⟩
        · have := h3 q hq
          omega
        · exact Int.le_refl _
      · rw [if_neg (fun e => by rcases e.2 with e | e <;> omega)]
        refine .inr ⟨h1, .inl h2, fun q hq => ?_⟩
        rcases hq with hq | ⟨rfl, _⟩
        · exact h3 q hq
        · omega
theorem Led.fold {α : Type} {r : Int} {C : α → Prop} {f : Int → α → Int} (hf : ∀ z S a, Led z S → Led (f z a) (Or1 S r (C a))) : ∀ (L : List α) (z : Int) (S : Int → Prop), Led z S → Led (L.foldl f z) (Or1 S r (∃ a ∈ L, C a))
  | [], z, S, h => h.congr fun q => ⟨.inl, fun h => by
      rcases h with h | ⟨_, a, ha, _⟩
      · exact h
      · cases ha⟩
  | a :: L, z, S, h => ((Led.fold hf L _ _ (hf z S a h)).congr fun q => by
      unfold Or1
      constructor
      · rintro ((h | ⟨h, hc⟩) | ⟨h, b, hb, hc⟩)
        · exact .inl h
        · exact .inr ⟨h, a, List.mem_cons_self, hc⟩
        · exact .inr ⟨h, b, List.mem_cons_of_mem _ hb, hc⟩
      · rintro (h | ⟨h, b, hb, hc⟩)
        · exact .inl (.inl h)
        · rcases List.mem_cons.1 hb with rfl | hb
          · exact .inl (.inr ⟨h, hc⟩)
          · exact .inr ⟨h, b, hb, hc⟩)
/-- what one that went on owes, of some messages -/
def OwL (p : Int) (all : List Msg) (mem : Nat) (L : List Msg) : Prop := ∃ x ∈ L, (x.service = 2 ∧ hasB mem p = true) ∧ all.any (sameM x) = false
theorem led_owe {z : Int} {S : Int → Prop} (h : Led z S) (p : Int) (all : List Msg) (mem : Nat) (l : List Msg) : Led (oweZ p all mem l z) (Or1 S 6 (OwL p all mem l)) := by
  unfold oweZ OwL
  refine Led.fold (fun z S x h => ?_) l z S h
  split
  · rename_i hc
    refine (h.brk (by decide) _).congr fun q => ?_
    unfold Or1
    simp [hc]
  · rename_i hc
    exact h.congr fun q => by
      unfold Or1
      simp [hc]
theorem led_dup {z : Int} {S : Int → Prop} (h : Led z S) (x : Ev) (l : List PS) : Led (dupZ x l z) (Or1 S 1 (∃ o ∈ l, dupB x o = true)) := Led.fold (r := 1) (C := fun o => dupB x o = true) (fun z S o h => h.brk (by decide) (dupB x o)) l z S h
theorem led_dep {z : Int} {S : Int → Prop} (h : Led z S) (cnt : Int → Int) (ds : List Nat) (j : Nat) : Led (depZ cnt ds j z) (Or1 S 4 (∃ q < j, cnt (q : Int) < ((ds.getD q 0 : Nat) : Int))) := by
  unfold depZ
  refine (Led.fold (r := 4) (C := fun q : Nat => cnt (q : Int) < ((ds.getD q 0 : Nat) : Int)) (fun z S q h => ?_) (List.range j) z S h).congr fun q => ?_
  · refine (h.brk (by decide) _).congr fun q => ?_
    unfold Or1
    simp
  · unfold Or1
    simp
theorem led_past {z : Int} {S : Int → Prop} (h : Led z S) (c : ConfK) (m : Msg) (mem : Nat) (l : List PS) : Led (pastZ c m mem l z) (Or1 S 6 (∃ b ∈ l, (b.conf = c ∧ b.went = true) ∧ OwL b.proc (b.p0 ++ b.p1) mem [m])) := by
  unfold pastZ
  refine Led.fold (fun z S b h => ?_) l z S h
  unfold pastZ1 pastB
  split
  · rename_i hc
    refine (led_owe h _ _ _ _).congr fun q => ?_
    simp only [Bool.and_eq_true, decide_eq_true_eq] at hc
    unfold Or1
    simp [hc]
  · rename_i hc
    simp only [Bool.and_eq_true, decide_eq_true_eq] at hc
    exact h.congr fun q => by
      unfold Or1
      simp [hc]
theorem led_last {z : Int} {S : Int → Prop} (h : Led z S) (al : List Msg) (x : Ev) : Led (lastZ al x z) (Or1 S 3 (∃ y, al.getLast? = some y ∧ 0 ≤ keyZ (y.stamp : Int) y.frm (x.m.stamp : Int) x.m.frm)) := by
  unfold lastZ
  cases al.getLast? with
  | none => exact h.congr fun q => by unfold Or1; simp
  | some y =>
    refine (h.brk (by decide) _).congr fun q => ?_
    unfold Or1
    simp
/-- rule 5, of two that went on the same way -/
def P5 (a b : PS) : Prop := a.conf = b.conf ∧ a.proc ≠ b.proc ∧ a.went = true ∧ b.went = true ∧ ∃ t u, a.tr = some t ∧ b.tr = some u ∧ t.1 = u.1 ∧ (!(t.2 == u.2) || (!sameL a.p0 b.p0 || !sameL a.p1 b.p1)) = true
/-- rule 6: what b owes of a's -/
def Ow (b a : PS) : Prop := OwL b.proc (b.p0 ++ b.p1) a.mem a.p0 ∨ ∃ t, a.tr = some t ∧ OwL b.proc (b.p0 ++ b.p1) t.2 a.p1
theorem led_close {z : Int} {S : Int → Prop} (h : Led z S) (b : PS) (hb : b.went = true) (same : Bool) (o : PS) :
    Led (closeZ b same o z) (Or1 (Or1 S 6 (o.conf = b.conf ∧ Ow b o)) 5 (same = false ∧ P5 o b)) := by
  unfold closeZ
  by_cases hc : o.conf = b.conf
  · rw [if_pos hc]
    have h1 := led_owe h b.proc (b.p0 ++ b.p1) o.mem o.p0
    have hno : ∀ {z2 : Int} {N : Prop}, Led z2 (Or1 S 6 (Ow b o)) → ¬ N → Led z2 (Or1 (Or1 S 6 (o.conf = b.conf ∧ Ow b o)) 5 N) := fun h2 hN => h2.congr fun q => by
      unfold Or1
      constructor
      · rintro (h | ⟨h, k⟩)
        · exact .inl (.inl h)
        · exact .inl (.inr ⟨h, hc, k⟩)
      · rintro ((h | ⟨h, k⟩) | ⟨_, h⟩)
        · exact .inl h
        · exact .inr ⟨h, k.2⟩
        · exact absurd h hN
    cases ho : o.tr with
    | none =>
      have h2 : Led (oweZ b.proc (b.p0 ++ b.p1) o.mem o.p0 z) (Or1 S 6 (Ow b o)) := h1.congr fun q => by
        unfold Or1 Ow
        simp [ho]
      have hN : ¬ (same = false ∧ P5 o b) := by
        rintro ⟨_, _, _, _, _, t, u, k, _⟩
        rw [ho] at k
        cases k
      simp only
      split
      · exact hno h2 hN
      · cases b.tr <;> exact hno h2 hN
    | some t =>
      have h2 : Led (oweZ b.proc (b.p0 ++ b.p1) t.2 o.p1 (oweZ b.proc (b.p0 ++ b.p1) o.mem o.p0 z)) (Or1 S 6 (Ow b o)) := (led_owe h1 b.proc (b.p0 ++ b.p1) t.2 o.p1).congr fun q => by
        unfold Or1 Ow
        simp only [ho, Option.some.injEq, exists_eq_left']
        constructor
        · rintro ((h | ⟨h, k⟩) | ⟨h, k⟩)
          · exact .inl h
          · exact .inr ⟨h, .inl k⟩
          · exact .inr ⟨h, .inr k⟩
        · rintro (h | ⟨h, k | k⟩)
          · exact .inl (.inl h)
          · exact .inl (.inr ⟨h, k⟩)
          · exact .inr ⟨h, k⟩
      simp only
      generalize oweZ b.proc (b.p0 ++ b.p1) t.2 o.p1 (oweZ b.proc (b.p0 ++ b.p1) o.mem o.p0 z) = z2 at *
      split
      · rename_i hs
        refine hno h2 ?_
        rintro ⟨k1, _, k2, k3, _⟩
        rcases hs with hs | hs | hs
        · rw [k1] at hs; cases hs
        · rw [k3] at hs; cases hs
        · exact k2 hs
      · rename_i hs
        cases hbt : b.tr with
        | none =>
          simp only
          refine hno h2 ?_
          rintro ⟨_, _, _, _, _, t, u, _, k, _⟩
          rw [hbt] at k
          cases k
        | some u =>
          simp only
          split
          · rename_i htu
            refine (h2.brk (by decide) _).congr fun q => ?_
            have hs1 : same = false := by
              cases same
              · rfl
              · exact absurd (.inl rfl) hs
            have hs2 : o.went = true := by
              cases how : o.went
              · exact absurd (.inr (.inl how)) hs
              · rfl
            have hs3 : o.proc ≠ b.proc := fun e => hs (.inr (.inr e))
            unfold Or1
            constructor
            · rintro ((h | ⟨h, k⟩) | ⟨h, k⟩)
              · exact .inl (.inl h)
              · exact .inl (.inr ⟨h, hc, k⟩)
              · exact .inr ⟨h, hs1, hc, hs3, hs2, hb, t, u, ho, hbt, htu, k⟩
            · rintro ((h | ⟨h, k⟩) | ⟨h, _, _, _, _, _, t', u', k1, k2, _, k3⟩)
              · exact .inl (.inl h)
              · exact .inl (.inr ⟨h, k.2⟩)
              · rw [ho] at k1
                rw [hbt] at k2
                injection k1 with k1
                injection k2 with k2
                subst k1
                subst k2
                exact .inr ⟨h, k3⟩
          · rename_i htu
            refine hno h2 ?_
            rintro ⟨_, _, _, _, _, t', u', k1, k2, k3, _⟩
            rw [ho] at k1
            rw [hbt] at k2
            injection k1 with k1
            injection k2 with k2
            subst k1
            subst k2
            exact htu k3
  · rw [if_neg hc]
    exact h.congr fun q => by
      unfold Or1
      constructor
      · exact fun h => .inl (.inl h)
      · rintro ((h | ⟨_, h, _⟩) | ⟨_, _, h, _⟩)
        · exact h
        · exact absurd h hc
        · exact absurd h hc
theorem led_closeTo {S : Int → Prop} {z : Int} (h : Led z S) (l : List PS) (b : PS) (hb : b.went = true) (k : Nat) : ∀ n, n ≤ l.length →
    Led (closeTo l b k n z) (Or1 (Or1 S 6 (∃ j o, j < n ∧ l[j]? = some o ∧ o.conf = b.conf ∧ Ow b o)) 5 (∃ j o, j < n ∧ j ≠ k ∧ l[j]? = some o ∧ P5 o b))
  | 0, _ => h.congr fun q => by
    unfold Or1
    constructor
    · exact fun h => .inl (.inl h)
    · rintro ((h | ⟨_, j, o, h, _⟩) | ⟨_, j, o, h, _⟩)
      · exact h
      · omega
      · omega
  | n + 1, hn => by
    have ih := led_closeTo h l b hb k n (by omega)
    have hl : l[n]? = some (l.getD n b) := by
      rw [List.getD_eq_getElem?_getD, List.getElem?_eq_getElem (by omega)]
      rfl
    refine (led_close ih b hb (decide (n = k)) (l.getD n b)).congr fun q => ?_
    unfold Or1
    constructor
    · rintro ((((h | ⟨h, j, o, k1, k2⟩) | ⟨h, j, o, k1, k2⟩) | ⟨h, k2⟩) | ⟨h, k1, k2⟩)
      · exact .inl (.inl h)
      · exact .inl (.inr ⟨h, j, o, by omega, k2⟩)
      · exact .inr ⟨h, j, o, by omega, k2⟩
      · exact .inl (.inr ⟨h, n, _, by omega, hl, k2⟩)
      · exact .inr ⟨h, n, _, by omega, by simpa using k1, hl, k2⟩
    · rintro ((h | ⟨h, j, o, k1, k2, k3⟩) | ⟨h, j, o, k1, k4, k2, k3⟩)
      · exact .inl (.inl (.inl (.inl h)))
      · by_cases hj : j = n
        · subst hj
          rw [hl] at k2
          injection k2 with k2
          subst k2
          exact .inl (.inr ⟨h, k3⟩)
        · exact .inl (.inl (.inl (.inr ⟨h, j, o, by omega, k2, k3⟩)))
      · by_cases hj : j = n
        · subst hj
          rw [hl] at k2
          injection k2 with k2
          subst k2
          exact .inr ⟨h, by simpa using k4, k3⟩
        · exact .inl (.inl (.inr ⟨h, j, o, by omega, k4, k2, k3⟩))
end Go.Proofs.YtogagkgkmoppmaaGreatDoor
