/-
  The law MonitorJudges.
  Conditions: those that each theorem names.
-/
import Derived.Test.YtogagkgkmoppmaaMonZ
import Derived.Test.YtogagkgkmoppmaaJuV
import Derived.Test.YtogagkgkmoppmaaJuPl
import Derived.Test.YtogagkgkmoppmaaMonZA
import Derived.Test.YtogagkgkmoppmaaRow
namespace Go.Proofs.Ytogagkgkmoppmaa
set_option linter.unusedVariables false
set_option linter.unusedSimpArgs false
open Go.RowKit GM
/-- when a trace was broken first, and by which rule -/
theorem told_first (l : List Ev) : ((told l).at_ = 0 ∧ (told l).broken = 0) ∨ ∃ k : Nat, 1 ≤ k ∧ k ≤ l.length ∧ (told l).at_ = (k : Int) ∧ (told (l.take k)).broken = (told l).rule ∧ (told (l.take (k - 1))).broken = 0 ∧ 0 < (told l).broken := by
  suffices ∀ n, n ≤ l.length → (((told (l.take n)).at_ = 0 ∧ (told (l.take n)).broken = 0) ∨ ∃ k : Nat, 1 ≤ k ∧ k ≤ n ∧ (told (l.take n)).at_ = (k : Int) ∧ (told (l.take k)).broken = (told (l.take n)).rule ∧ (told (l.take (k - 1))).broken = 0 ∧ 0 < (told (l.take n)).broken) by
    have h := this l.length (Nat.le_refl _)
    rw [List.take_length] at h
    exact h
  intro n
  induction n with
  | zero => exact fun _ => .inl ⟨rfl, rfl⟩
  | succ n ih =>
    intro hn
    have ih := ih (by omega)
    have e : told (l.take (n + 1)) = padd (told (l.take n)) l[n] := by rw [List.take_succ_eq_append_getElem (by omega), told_snoc]
    have had := padd_added (told (l.take n)) l[n]
    rw [← e] at had
    have hlen : (told (l.take n)).len = (n : Int) := by
      rw [told_len, List.length_take]
      omega
    have hle := had.broken
    unfold Le at hle
    rcases ih with ⟨h1, h2⟩ | ⟨k, h1, h2, h3, h4, h5, h6⟩
    · by_cases hb : 0 < (told (l.take (n + 1))).broken
      · obtain ⟨q1, q2⟩ := had.now h1 hb
        exact .inr ⟨n + 1, by omega, Nat.le_refl _, by rw [q1, hlen]; rfl, q2.symm, h2, hb⟩
      · exact .inl ⟨(had.not h1 hb).1, by omega⟩
    · obtain ⟨q1, q2⟩ := had.was (by omega)
      exact .inr ⟨k, h1, by omega, by rw [q1, h3], by rw [q2, h4], h5, by omega⟩
def NmAt (w : World) (l : List Ev) (nm : Nat → List NameK) : Prop := ∀ i (h : i < l.length), (nm i).length = l[i].nl ∧ Reads w w.heap.size 2 l[i].na l[i].nl (namesV (nm i))
theorem tr_of {w : World} {ad : Option Addr} {l : List Ev} {nm : Nat → List NameK} (h : EvsAt w ad l) (hn : NmAt w l nm) : ∃ g o, Tr w g o l nm ∧ (0 < l.length → ad = some ⟨g, o, none⟩) := by
  cases l with
  | nil => exact ⟨0, 0, ⟨by simp, fun i hi => by simp at hi, fun i hi => by simp at hi⟩, fun h => by simp at h⟩
  | cons x l =>
    obtain ⟨g, o, e, _⟩ := h.2 0 (by simp)
    refine ⟨g, o, ⟨h.1, fun i hi => ?_, hn⟩, fun _ => e⟩
    obtain ⟨g', o', e', h2⟩ := h.2 i hi
    rw [e] at e'
    injection e' with e'
    injection e' with e1 e2
    subst e1
    subst e2
    exact h2
theorem Tr.take {w : World} {g o : Nat} {l : List Ev} {nm : Nat → List NameK} (h : Tr w g o l nm) (k : Nat) : Tr w g o (l.take k) nm := by
  have hl : (l.take k).length ≤ l.length := by rw [List.length_take]; omega
  refine ⟨Nat.le_trans hl h.len, fun i hi => ?_, fun i hi => ?_⟩
  · rw [List.getElem_take]
    exact h.ev i (by omega)
  · rw [List.getElem_take]
    exact h.nms i (by omega)
theorem at_nil (w : World) : At w [] w := ⟨⟨fun p hp => (by cases hp), fun p hp => (by cases hp), List.Pairwise.nil⟩, br w⟩
/-- the judge of a trace's beginning -/
theorem evs_take {w : World} {ad : Option Addr} {l : List Ev} {nm : Nat → List NameK} (h : EvsAt w ad l) (hn : NmAt w l nm) (h5 : l.length ≤ 500) (W : World) (hb : Below w.heap.size w W) (k : Nat) (hk : k ≤ l.length) (cap : Nat) :
    Calls Try.prog 14 #[.slice ad k cap] W fun e w' => e = .returned (.int .i64 (told (l.take k)).broken) ∧ Below W.heap.size W w' := by
  obtain ⟨g, o, hT, had⟩ := tr_of h hn
  have hl : (l.take k).length = k := by rw [List.length_take]; omega
  have h := evs_any (at_nil W) ((hT.below hb).take k) ad (fun h0 => had (by omega)) cap (by omega)
  rw [hl] at h
  refine h.mono fun e w' ⟨h1, h2⟩ => ⟨?_, h2.bel⟩
  rw [h1, told_evs]
set_option maxRecDepth 100000 in
set_option maxHeartbeats 16000000 in
theorem law_monitorJudges (w : World) (ad : Option Addr) (cap : Nat) (l : List Ev) (nm : Nat → List NameK) (h : EvsAt w ad l) (hnm : NmAt w l nm) (hc : l.length ≤ cap) : Calls Try.prog 5 #[.slice ad l.length cap] w fun e w' => e = .returned (.bool true) ∧ Below w.heap.size w w' := by
  have HL := Lib.hid h
  have HNM := Lib.hid (And.intro hnm hc)
  have hll := h.1
  obtain ⟨n, hn⟩ : ∃ n, n = l.length := ⟨_, rfl⟩
  have HA := Lib.hid (awake_any w)
  have HFW := Lib.hid (fun w1 (hb : Below w.heap.size w w1) => few_any w1 ad cap l (h.below hb))
  rw [← hn] at hll HFW ⊢
  have HN := Lib.hid hn
  clear h hnm hc hn
  go_enter Try.func5, Try.ntmps5
  go_wp2_with fail
  refine HA.out.mono ?_
  rintro e w1 ⟨rfl, hb1⟩
  have HF := Lib.hid (HFW.out w1 hb1)
  have HB1 := Lib.hid hb1
  clear hb1 HFW HA
  go_wp2_with fail
  refine HF.out.mono ?_
  rintro e w2 ⟨⟨b, rfl, hb⟩, hb2⟩
  have HB2 := Lib.hid (bt HB1.out hb2)
  clear hb2 HF
  cases b
  · clear hb
    go_wp2_with fail
    go_ret
    exact ⟨rfl, HB2.out⟩
  have hn5 : n ≤ 500 := by rw [HN.out]; exact hb rfl
  have HNW := Lib.hid (new_any w2 w.heap.size [] ⟨fun p hp => (by cases hp), fun p hp => (by cases hp), List.Pairwise.nil⟩ HB2.out.size)
  clear hb
  go_wp2_with fail
  refine HNW.out.mono ?_
  rintro e w3 ⟨B, M, rfl, N3, hM, hS, hP, hB⟩
  have HI := Lib.hid (show ∃ M, Now w B w.heap.size M [] w3 ∧ MOk M ∧ Sz 0 M ∧ proj M = told (l.take 0) from ⟨M, ⟨N3.own, (Kept.of_below HB2.out).trans N3.kept, N3.low⟩, hM, hS, hP⟩)
  clear N3 hM hS hP hB HNW
  go_wp2_with fail
  go_loopw [4] (fun i wr => ∃ k : Nat, k ≤ n ∧ i = .int .i64 (k : Int) ∧ Hid (∃ M, Now w B w.heap.size M [] wr ∧ MOk M ∧ Sz k M ∧ proj M = told (l.take k))) (fun i _ => n - (intOf i).toNat)
  case atStart => exact ⟨0, by omega, rfl, HI⟩
  case round =>
    obtain ⟨k, hk, rfl, HW⟩ := hrel
    by_cases hlt : k < n
    · have hbool' : decide ((k : Int) < (n : Int)) = true := by rw [decide_eq_true_eq]; omega
      have hbool : decide (k < n) = true := by rw [decide_eq_true_eq]; omega
      have hki : (k : Int) < (n : Int) := by omega
      have hkl : k < l.length := by rw [← HN.out]; exact hlt
      obtain ⟨M, N, hM, hS, hP⟩ := HW.out
      have hbr : Below w.heap.size w wr := N.kept.below (Nat.le_refl _) (fun k hk h => by omega)
      obtain ⟨b, o, hga, hBl, hr, hok⟩ := (HL.out.below hbr).2 k hkl
      have htl : told (l.take (k + 1)) = padd (told (l.take k)) l[k] := by
        rw [List.take_succ_eq_append_getElem hkl, told_snoc]
      have hlen : (told (l.take k)).len = (k : Int) := by
        rw [told_len, List.length_take]
        omega
      obtain ⟨x, hx⟩ : ∃ x, x = l[k] := ⟨_, rfl⟩
      rw [← hx] at hr hok htl
      have h0 := res_c hP
      have HC := Lib.hid ((add_any wr B w.heap.size k M [] N.own hM N.low hS (by omega) (by rw [h0.2.1, hlen]; omega) x hok.ds hok.dl hok.rd))
      rw [hP, ← htl] at HC
      obtain ⟨cx, hcx⟩ : ∃ cx, cx = evA x := ⟨_, rfl⟩
      rw [← hcx] at hr HC
      have HSZ := Lib.hid (show (Try.prog.info? 39).map (·.size) = some cx.toList.length from by rw [hcx]; exact evInfo)
      have hc1 : cx.toList.toArray = cx := by simp
      have HR := Lib.hid hr
      have HK := Lib.hid (And.intro N.kept hlt)
      clear hr hok hx hkl hBl hM hS hP N h0 hcx hbr htl hlen hlt HI
      rw [hga]
      go_wp2_with (first | (with_reducible refine wpList_load_mid rfl 39 (.tmp 22) rfl b (o + k * 19) rfl cx.toList _ HR.out Try.underlying39 rfl HSZ.out ?_) | fail)
      refine HC.out.mono ?_
      rintro e w4 ⟨rfl, M4, N4, hM4, hS4, hP4⟩
      have HI4 := Lib.hid (show ∃ M, Now w B w.heap.size M [] w4 ∧ MOk M ∧ Sz (k + 1) M ∧ proj M = told (l.take (k + 1)) from ⟨M4, ⟨N4.own, HK.out.1.trans N4.kept, N4.low⟩, hM4, hS4, hP4⟩)
      clear N4 hM4 hS4 hP4 HC HR HSZ HW hc1
      go_wp2_with fail
      exact ⟨⟨k + 1, HK.out.2, by go_num, HI4⟩, by have := HK.out.2; simp [intOf]; omega⟩
    · have hbool' : decide ((k : Int) < (n : Int)) = false := by rw [decide_eq_false_iff_not]; omega
      have hbool : decide (k < n) = false := by rw [decide_eq_false_iff_not]; omega
      obtain ⟨M, N, _, _, hP⟩ := HW.out
      rw [show k = n by omega, HN.out, List.take_length] at hP
      have h0 := res_c hP
      have HBE := Lib.hid (show Below w.heap.size w wr from N.kept.below (Nat.le_refl _) (fun k hk h => by omega))
      have HFI := Lib.hid (first_any wr B M.c (own_mon N.own))
      rw [h0.2.2.1, h0.2.2.2] at HFI
      have HBR := Lib.hid (fun (W : World) (hb : Below wr.heap.size wr W) => broken_any W B M.c (own_mon (N.below hb).own))
      rw [h0.1] at HBR
      have HEV := Lib.hid (fun (W : World) (hb : Below wr.heap.size wr W) (j : Nat) (hj : j ≤ n) (c : Nat) => evs_take HL.out HNM.out.1 (by rw [← HN.out]; exact hn5) W (bt HBE.out hb) j (by rw [← HN.out]; exact hj) c)
      have htf := told_first l
      have hzl : told (l.take n) = told l := by rw [HN.out, List.take_length]
      obtain ⟨a, ha⟩ : ∃ a, a = (told l).at_ := ⟨_, rfl⟩
      obtain ⟨z, hz⟩ : ∃ a, a = (told l).broken := ⟨_, rfl⟩
      obtain ⟨u, hu⟩ : ∃ a, a = (told l).rule := ⟨_, rfl⟩
      rw [← ha, ← hz, ← hu, ← HN.out] at htf
      rw [← ha, ← hu] at HFI
      rw [← hz] at HBR
      have HE0 := Lib.hid (fun (W : World) (hb : Below wr.heap.size wr W) => HEV.out W hb n (Nat.le_refl _) cap)
      rw [hzl, ← hz] at HE0
      have hncap : n ≤ cap := by rw [HN.out]; exact HNM.out.2
      clear ha hz hu hzl h0 hP N hlt HI HW
      go_wp2_with fail
      refine HFI.out.mono ?_
      rintro e w4 ⟨rfl, hb4⟩
      have HB4 := Lib.hid hb4
      have HB41 := Lib.hid (HBR.out w4 hb4)
      clear hb4 HFI
      go_wp2_with fail
      refine HB41.out.mono ?_
      rintro e w5 ⟨rfl, rfl⟩
      have HE1 := Lib.hid (HE0.out w4 HB4.out)
      clear HB41
      go_wp2_with fail
      refine HE1.out.mono ?_
      rintro e w6 ⟨rfl, hb6⟩
      have HB6 := Lib.hid (bt HB4.out hb6)
      have HB61 := Lib.hid (HBR.out w6 (bt HB4.out hb6))
      have hzz : (z != z) = false := by simp
      clear hb6 HE1 HE0
      rcases htf with ⟨rfl, rfl⟩ | ⟨j, j1, j2, rfl, j4, j5, j6⟩
      · go_wp2_with fail
        refine HB61.out.mono ?_
        rintro e w7 ⟨rfl, rfl⟩
        have HF := Lib.hid (bt HBE.out HB6.out)
        clear HB61 HBR HEV
        go_wp2_with fail
        go_ret
        exact ⟨rfl, HF.out⟩
      · have c1 : ((j : Int) == 0) = false := by simp; omega
        have c2 : (z == 0) = false := by simp; omega
        have c3 : (j : Int) ≤ (n : Int) := by omega
        have c4 : decide ((n : Int) < (j : Int)) = false := by rw [decide_eq_false_iff_not]; omega
        have c5 : (j : Int) ≤ (cap : Int) := by omega
        have c6 : j ≤ cap := by omega
        obtain ⟨i, hi⟩ : ∃ i, i = j - 1 := ⟨_, rfl⟩
        have c7 : IntKind.i64.wrap ((j : Int) - 1) = (i : Int) := by rw [IntWalk.i64_in _ (by omega)]; omega
        have c8 : i ≤ cap := by omega
        have HE2 := Lib.hid (fun (W : World) (hb : Below wr.heap.size wr W) (c : Nat) => HEV.out W hb j j2 c)
        rw [j4] at HE2
        have HE3 := Lib.hid (fun (W : World) (hb : Below wr.heap.size wr W) (c : Nat) => HEV.out W hb i (by omega) c)
        rw [hi, j5, ← hi] at HE3
        clear j4 j5 hi
        go_wp2_with fail
        refine HB61.out.mono ?_
        rintro e w7 ⟨rfl, rfl⟩
        clear HB61 HBR HEV
        go_wp2_with fail
        refine (HE2.out _ HB6.out _).mono ?_
        rintro e w8 ⟨rfl, hb8⟩
        have HB8 := Lib.hid (bt HB6.out hb8)
        clear hb8 HE2
        go_wp2_with fail
        refine (HE3.out _ HB8.out _).mono ?_
        rintro e w9 ⟨rfl, hb9⟩
        have HB9 := Lib.hid (bt HB8.out hb9)
        clear hb9 HE3
        go_wp2_with fail
        go_ret
        exact ⟨rfl, bt HBE.out HB9.out⟩
end Go.Proofs.Ytogagkgkmoppmaa
namespace Go.Proofs.Ytogagkgkmoppmaa
set_option linter.unusedVariables false
set_option linter.unusedSimpArgs false
open Go.RowKit
section
open Go.ChangeShapes Go.WideShapes Go.Deep
variable {H : Type} {enc : TypeId × Value → H} {w : World} {base : Nat} {spare : Nat → Bool} {held : Bool}
set_option maxRecDepth 100000 in
theorem name_of {fuel : Nat} {cs : List Value} {x : DataW H × List MemPlace} (hl : cs.length = 2) (h : DataW.trod enc Try.prog w base spare held fuel 132 cs = some x) : ∃ n : NameK, cs = [.int .i64 n.1, .int .u32 (n.2 : Int)] := by
  obtain ⟨xs, k, hk, hxy, _, hxl, hf⟩ := DataW.trod_struct Try.underlying132 h
  have c1 : Try.prog.cellsOf 3 = 1 := by kernel_rfl
  have c2 : Try.prog.cellsOf 31 = 1 := by kernel_rfl
  match xs, hxl, cs, hl with
  | [y0, y1], _, [v0, v1], _ =>
    have g0 := hf 0 _ rfl
    have g1 := hf 1 _ rfl
    simp [c1, c2] at g0 g1
    obtain ⟨a, e0, _⟩ := DataW.trod_int Try.underlying3 g0
    obtain ⟨b, e1, _, hq⟩ := DataW.trod_int Try.underlying31 g1
    simp at e0 e1
    obtain ⟨n1, rfl, hn1⟩ := u32_nat hq
    exact ⟨(a, n1), by rw [e0, e1]⟩
theorem namesV_len2 (L : List NameK) : (namesV L).length = L.length * 2 := by
  unfold namesV
  induction L with
  | nil => rfl
  | cons n L ih =>
    rw [List.flatMap_cons, List.length_append, ih]
    simp
    omega
theorem namesV_pos (L : List NameK) : ∀ (j : Nat) (u : Value), (namesV L)[j]? = some u → ∃ (i : Nat) (h : i < L.length) (r : Nat), j = i * 2 + r ∧ r < 2 ∧ [Value.int .i64 L[i].1, .int .u32 (L[i].2 : Int)][r]? = some u := by
  unfold namesV
  induction L with
  | nil => intro j u h; simp at h
  | cons n L ih =>
    intro j u h
    rw [List.flatMap_cons] at h
    rcases Nat.lt_or_ge j 2 with hj | hj
    · rw [List.getElem?_append_left (by simpa using hj)] at h
      exact ⟨0, by simp, j, by omega, hj, h⟩
    · rw [List.getElem?_append_right (by simpa using hj)] at h
      obtain ⟨i, hi, r, e, hr, h2⟩ := ih _ _ h
      simp only [List.length_cons, List.length_nil] at e
      exact ⟨i + 1, by simp; omega, r, by omega, hr, by simpa using h2⟩
set_option maxRecDepth 100000 in
theorem names_ofN {fuel : Nat} {v : Value} {x : DataW H × List MemPlace} (h : DataW.trod enc Try.prog w base spare held fuel 37 [v] = some x) : ∃ (ad : Option Addr) (L : List NameK) (cap : Nat), v = .slice ad L.length cap ∧ Reads w w.heap.size 2 ad L.length (namesV L) := by
  have h2 : Try.prog.cellsOf 132 = 2 := by kernel_rfl
  rcases open_slice Try.underlying37 h with ⟨h0, _⟩ | ⟨a, len, cap, m, n, D, Pl, h0, hb, hl, hm, hmm, hxx, hx⟩
  · simp at h0
    subst h0
    exact ⟨none, [], 0, rfl, by simp [namesV], fun h => by simp at h⟩
  · simp at h0
    subst h0
    have hlm : len ≤ m := by rw [hmm]; split <;> omega
    have each : ∀ i, i < len → ∃ q : NameK, ∀ (j : Nat) (u : Value), [Value.int .i64 q.1, .int .u32 (q.2 : Int)][j]? = some u → w.cell? ((a.add (i * 2)).add j) = some u := by
      intro i hi
      obtain ⟨cs', h3, h4⟩ := hx i (by omega)
      rw [h2] at h3
      obtain ⟨_, hlen, hcell⟩ := World.cells?_some h3
      obtain ⟨q, e⟩ := name_of hlen h4
      refine ⟨q, fun j u hu => ?_⟩
      rw [← e] at hu
      have hj : j < 2 := by have := (List.getElem?_eq_some_iff.1 hu).1; omega
      exact (hcell j hj).trans hu
    obtain ⟨q, hq⟩ := choose_lt each
    refine ⟨some a, (List.range len).map q, cap, by simp, by rw [namesV_len2], fun h0 => ?_⟩
    have h0 : 0 < len := by simpa using h0
    have hz := hq 0 h0 0 _ rfl
    obtain ⟨b, off, spot⟩ := a
    have hspot : spot = none := by simpa [Addr.add] using World.cell?_spot hz
    subst hspot
    refine ⟨_, rfl, ?_, fun j u hu => ?_⟩
    · have := blk_lt hz
      rw [add_at, add_at] at this
      exact this
    · obtain ⟨i, hi, r, e, hr, h3⟩ := namesV_pos _ j u hu
      have hi' : i < len := by simpa using hi
      rw [List.getElem_map, List.getElem_range] at h3
      have := hq i hi' r u h3
      rw [add_at, add_at] at this
      rw [add_at, e, ← Nat.add_assoc]
      exact this
set_option maxRecDepth 100000 in
theorem ev_ofN {fuel : Nat} {cs : List Value} {x : DataW H × List MemPlace} (hl : cs.length = 19) (h : DataW.trod enc Try.prog w base spare held fuel 39 cs = some x) (hz : WSz Try.prog 39 x.1) : ∃ (y : Ev) (L : List NameK), cs = (evA y).toList ∧ EvOk w y ∧ L.length = y.nl ∧ Reads w w.heap.size 2 y.na y.nl (namesV L) := by
  obtain ⟨y, rfl, hk⟩ := ev_of hl h hz
  obtain ⟨xs, k, hk2, hxy, _, hxl, hf⟩ := DataW.trod_struct Try.underlying39 h
  have ci : Try.prog.cellsOf 3 = 1 := by kernel_rfl
  have cc : Try.prog.cellsOf 30 = 2 := by kernel_rfl
  have cm : Try.prog.cellsOf 34 = 6 := by kernel_rfl
  have c8 : Try.prog.cellsOf 28 = 1 := by kernel_rfl
  have cv : Try.prog.cellsOf 36 = 4 := by kernel_rfl
  have cn : Try.prog.cellsOf 37 = 1 := by kernel_rfl
  have cst : Try.prog.cellsOf 9 = 1 := by kernel_rfl
  obtain ⟨y0, y1, y2, y3, y4, y5, y6, y7, y8, rfl⟩ : ∃ y0 y1 y2 y3 y4 y5 y6 y7 y8, xs = [y0, y1, y2, y3, y4, y5, y6, y7, y8] := by
    match xs, hxl with
    | [y0, y1, y2, y3, y4, y5, y6, y7, y8], _ => exact ⟨y0, y1, y2, y3, y4, y5, y6, y7, y8, rfl⟩
  have g7 := hf 7 _ rfl
  have g7 : DataW.trod enc Try.prog w base spare held k 37 [.slice y.na y.nl y.nc] = some y7 := g7
  obtain ⟨ad, L, cap, e, hr⟩ := names_ofN g7
  injection e with e1 e2 e3
  exact ⟨y, L, rfl, hk, e2.symm, by rw [e1, e2]; exact hr⟩
set_option maxRecDepth 100000 in
theorem evs_argN {r : Go.Reach} {b0 : Nat} {v : Value} {d : DataW H} {pl : List MemPlace} (hv : Value.okWide Try.prog w r b0 22 v) (h : DataW.Trod enc Try.prog w base spare held 22 v d pl) (hz : WSz Try.prog 22 d) :
    ∃ (ad : Option Addr) (l : List Ev) (cap : Nat) (nm : Nat → List NameK), v = .slice ad l.length cap ∧ EvsAt w ad l ∧ NmAt w l nm ∧ l.length ≤ cap := by
  obtain ⟨fuel, hf⟩ := h
  obtain ⟨a', len', cap', rfl⟩ := okWide_slice Try.underlying22 hv
  have hcs : (Value.slice a' len' cap').cells.toList = [Value.slice a' len' cap'] := by simp [Value.cells]
  have h19 : Try.prog.cellsOf 39 = 19 := by kernel_rfl
  rcases open_slice Try.underlying22 hf with ⟨h0, _⟩ | ⟨a, len, cap, m, n, D, Pl, h0, hb, hl, hm, hmm, hxx, hx⟩
  · rw [hcs] at h0
    simp at h0
    obtain ⟨_, rfl, _⟩ := h0
    exact ⟨_, [], _, fun _ => [], rfl, ⟨by simp, fun i h => absurd h (by simp)⟩, fun i h => absurd h (by simp), by simp⟩
  · rw [hcs] at h0
    simp at h0
    obtain ⟨rfl, rfl, rfl⟩ := h0
    have hlm : len' ≤ m := by rw [hmm]; split <;> omega
    have hd : d = _ := congrArg Prod.fst hxx
    rw [hd] at hz
    have hsz := sz_elems Try.underlying22 hz
    have hlen4 : len' ≤ 140737488351232 := by
      have := hsz.1
      rw [bytesE] at this
      simp [reachBytes] at this
      omega
    have each : ∀ i, i < len' → ∃ y : Ev × List NameK, (∀ j u, (evA y.1).toList[j]? = some u → w.cell? ((a.add (i * 19)).add j) = some u) ∧ EvOk w y.1 ∧ y.2.length = y.1.nl ∧ Reads w w.heap.size 2 y.1.na y.1.nl (namesV y.2) := by
      intro i hi
      obtain ⟨cs', h1, h2⟩ := hx i (by omega)
      rw [h19] at h1
      obtain ⟨_, hlen, hcell⟩ := World.cells?_some h1
      obtain ⟨y, L, e, hq⟩ := ev_ofN hlen h2 (hsz.2 _ (List.mem_map.2 ⟨i, List.mem_range.2 hi, rfl⟩))
      refine ⟨(y, L), fun j u hu => ?_, hq⟩
      have hu : (evA y).toList[j]? = some u := hu
      rw [← e] at hu
      have hj : j < 19 := by have := (List.getElem?_eq_some_iff.1 hu).1; omega
      exact (hcell j hj).trans hu
    obtain ⟨q, hq⟩ := choose_lt each
    have hl2 : ((List.range len').map fun i => (q i).1).length ≤ 140737488351232 := by simpa using hlen4
    clear hlen4
    refine ⟨some a, (List.range len').map fun i => (q i).1, cap', fun i => (q i).2, by simp, ⟨hl2, fun i hi => ?_⟩, fun i hi => ?_, by simpa using hl⟩
    rotate_left
    · have hi' : i < len' := by simpa using hi
      rw [List.getElem_map, List.getElem_range]
      exact (hq i hi').2.2
    clear hl2 hz hsz
    have hi' : i < len' := by simpa using hi
    obtain ⟨b, off, spot⟩ := a
    have hz := (hq 0 (by omega)).1 0 _ rfl
    have hspot : spot = none := by simpa [Addr.add] using World.cell?_spot hz
    subst hspot
    rw [List.getElem_map, List.getElem_range]
    refine ⟨b, off, rfl, ?_, ?_, (hq i hi').2.1⟩
    · have := blk_lt hz; rw [add_at, add_at] at this; exact this
    · intro j u hu
      have := (hq i hi').1 j u hu
      rw [add_at, add_at] at this
      exact this
set_option maxRecDepth 100000 in
theorem monitorJudges_row {r : Go.Reach} {b0 : Nat} {d : DataW H} {pl : List MemPlace} (v : Value) (w : World) (hv : Value.okWide Try.prog w r b0 22 v) (h : DataW.Trod enc Try.prog w base spare held 22 v d pl) (hz : ∀ n ∈ d.weights Try.prog 22, n ≤ reachBytes) :
    Calls Try.prog 5 #[v] w fun e w' => e = .returned (.bool true) ∧ Below w.heap.size w w' := by
  obtain ⟨ad, l, cap, nm, rfl, hp, hn, hc⟩ := evs_argN hv h hz
  exact law_monitorJudges w ad cap l nm hp hn hc
end
end Go.Proofs.Ytogagkgkmoppmaa
