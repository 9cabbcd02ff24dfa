/-
  The law MonitorCopies: a copy of a monitor and the monitor go on side by side.
  Conditions: those that each theorem names.
-/
import Derived.Test.YtogagkgkmoppmaaMonCC
import Derived.Test.YtogagkgkmoppmaaMonZA
namespace Go.Proofs.Ytogagkgkmoppmaa
set_option linter.unusedVariables false
set_option linter.unusedSimpArgs false
open Go.RowKit GM
/-- a process's stay is its own -/
def Home (P : PM) : Prop := ∀ p k, P.now p = some k → (P.stays.map PS.proc)[k]? = some p
theorem home_same {P Q : PM} (h : Home P) (h1 : Q.stays.map PS.proc = P.stays.map PS.proc) (h2 : ∀ p k, Q.now p = some k → P.now p = some k) : Home Q := fun p k hk => by
  rw [h1]
  exact h p k (h2 p k hk)
theorem set_proc {l : List PS} {k : Nat} {s s' : PS} (hs : l[k]? = some s) (he : s'.proc = s.proc) : (l.set k s').map PS.proc = l.map PS.proc := by
  refine List.ext_getElem? fun i => ?_
  rw [List.getElem?_map, List.getElem?_map, List.getElem?_set]
  split
  · next h =>
    subst h
    split
    · rw [hs]; simp [he]
    · next h => 
      rw [List.getElem?_eq_none (by omega)] at hs
      cases hs
  · rfl
theorem home_pclose {P : PM} (h : Home P) (k : Nat) : Home (pclose P k) := by
  unfold pclose
  split
  · exact h
  · next s hs => exact home_same h (set_proc hs rfl) (fun p k hk => hk)
theorem pclose_now (P : PM) (k : Nat) : (pclose P k).now = P.now := by
  unfold pclose
  split <;> rfl
theorem pclose_procs (P : PM) (k : Nat) : (pclose P k).stays.map PS.proc = P.stays.map PS.proc := by
  unfold pclose
  split
  · rfl
  · next s hs => exact set_proc hs rfl
theorem pregMid_keep (P : PM) (x : Ev) (z : Int) : (pregMid P x z).now = P.now ∧ (pregMid P x z).stays.map PS.proc = P.stays.map PS.proc := by
  unfold pregMid
  split
  · exact ⟨rfl, rfl⟩
  · split
    · exact ⟨rfl, rfl⟩
    · exact ⟨pclose_now _ _, pclose_procs _ _⟩
theorem home_pregular {P : PM} (h : Home P) (x : Ev) : Home (pregular P x) := by
  obtain ⟨z, hz⟩ : ∃ z, z = dupZ x P.stays (brk 1 (brk 1 P.broken (!P.live x.proc || !hasB x.mem x.proc)) (ptoldB P x)) := ⟨_, rfl⟩
  have hk := pregMid_keep (ptell P x) x z
  rw [hz] at hk
  intro p k hpk
  have hpk : (if p = x.proc then some P.stays.length else P.now p) = some k := hpk
  show (((pregMid (ptell P x) x _).stays ++ [newP x]).map PS.proc)[k]? = some p
  rw [List.map_append, hk.2]
  show ((P.stays.map PS.proc) ++ [x.proc])[k]? = some p
  by_cases hp : p = x.proc
  · rw [if_pos hp] at hpk
    injection hpk with hpk
    subst hpk
    rw [List.getElem?_append_right (by simp)]
    simp [hp]
  · rw [if_neg hp] at hpk
    have h1 := h p k hpk
    have hlt := (List.getElem?_eq_some_iff.1 h1).1
    rw [List.getElem?_append_left hlt]
    exact h1
theorem home_pkind {P : PM} (h : Home P) (x : Ev) : Home (pkind P x) := by
  unfold pkind
  split
  · intro p k hpk
    have hpk : (if p = x.proc then none else P.now p) = some k := hpk
    split at hpk
    · cases hpk
    · exact h p k hpk
  · split
    · exact home_pregular h x
    · split
      · unfold psend
        have h0 : Home (psnd P x) := home_same h (by unfold psnd; split <;> rfl) (fun p k hk => by unfold psnd at hk; split at hk <;> exact hk)
        split
        · exact h0
        · split
          · exact h0
          · exact h0
      · split
        · unfold pdeliver
          split
          · exact home_same h rfl (fun p k hk => hk)
          · split
            · exact home_same h rfl (fun p k hk => hk)
            · next s hs => exact home_same h (set_proc hs (by unfold gotP; split <;> rfl)) (fun p k hk => hk)
        · split
          · unfold ptrans
            split
            · exact h
            · split
              · exact h
              · next s hs => exact home_same h (set_proc hs rfl) (fun p k hk => hk)
          · exact h
theorem home_padd {P : PM} (h : Home P) (x : Ev) : Home (padd P x) := by
  have h1 : Home (pkind { P with len := P.len + 1 } x) := home_pkind (P := { P with len := P.len + 1 }) (home_same h rfl (fun p k hk => hk)) x
  unfold padd pmark
  split
  · exact home_same h1 rfl (fun p k hk => hk)
  · exact h1
theorem home_told (l : List Ev) : Home (told l) := by
  suffices ∀ (l : List Ev) (P : PM), Home P → Home (l.foldl padd P) from this l PM0 (fun p k hk => by cases hk)
  intro l
  induction l with
  | nil => intro P h; exact h
  | cons x l ih => intro P h; exact ih _ (home_padd h x)
/-- two monitors side by side -/
def Both (w : World) (B C b0 : Nat) (P Q : PM) (n m : Nat) (w' : World) : Prop :=
  ∃ M N, Own w' b0 (parts B M ++ (parts C N ++ [])) ∧ MOk M ∧ MOk N ∧ Sz n M ∧ Sz m N ∧ proj M = P ∧ proj N = Q ∧ Kept (fun k => b0 ≤ k) w w' ∧ b0 ≤ w'.heap.size
theorem Both.swap {w w' : World} {B C b0 n m : Nat} {P Q : PM} (h : Both w B C b0 P Q n m w') : Both w C B b0 Q P m n w' := by
  obtain ⟨M, N, h1, h2, h3, h4, h5, h6, h7, h8, h9⟩ := h
  exact ⟨N, M, h1.mid, h3, h2, h5, h4, h7, h6, h8, h9⟩
theorem Both.below {w w' w'' : World} {B C b0 n m : Nat} {P Q : PM} (h : Both w B C b0 P Q n m w') (hb : Below w'.heap.size w' w'') : Both w B C b0 P Q n m w'' := by
  obtain ⟨M, N, h1, h2, h3, h4, h5, h6, h7, h8, h9⟩ := h
  exact ⟨M, N, h1.below hb, h2, h3, h4, h5, h6, h7, h8.trans (Kept.of_below hb), Nat.le_trans h9 hb.size⟩
theorem Both.of {w wr w' : World} {B C b0 n m : Nat} {P' Q : PM} {N : MM} (hN : MOk N) (hs : Sz m N) (hq : proj N = Q) (hk : Kept (fun k => b0 ≤ k) w wr) (h : Res wr B b0 (parts C N ++ []) P' n w') : Both w B C b0 P' Q n m w' := by
  obtain ⟨M', h1, h2, h3, h4⟩ := h
  exact ⟨M', N, h1.own, h2, hN, h3, hs, h4, hq, hk.trans h1.kept, h1.low⟩
/-- one event more, for the first of both -/
theorem both_add {w wr : World} {B C k m : Nat} {ad : Option Addr} {l : List Ev} {Q : PM} (hB : Both w B C w.heap.size (told (l.take k)) Q k m wr) (hl : EvsAt w ad l) (hk : k < l.length) (h5 : l.length ≤ 500) :
    (∃ b o, ad = some ⟨b, o, none⟩ ∧ wr.rangeAt b (o + k * 19) (evA l[k]).toList) ∧
    Calls Try.prog 9 #[.pointer (some ⟨B, 0, none⟩), .agg (evA l[k])] wr fun e w' => e = .returned (.int .i64 (told (l.take (k + 1))).broken) ∧ Both w B C w.heap.size (told (l.take (k + 1))) Q (k + 1) m w' := by
  obtain ⟨M, N, hO, hM, hN, hS, hT, hP, hQ, hK, hb⟩ := hB
  have hbr : Below w.heap.size w wr := hK.below (Nat.le_refl _) (fun k hk h => by omega)
  obtain ⟨b, o, hga, hBl, hr, hok⟩ := (hl.below hbr).2 k hk
  have htl : told (l.take (k + 1)) = padd (told (l.take k)) l[k] := by
    rw [List.take_succ_eq_append_getElem hk, told_snoc]
  have hlen : (told (l.take k)).len = (k : Int) := by
    rw [told_len, List.length_take]
    omega
  have h0 := res_c hP
  refine ⟨⟨b, o, hga, hr⟩, ?_⟩
  have hc := add_any wr B w.heap.size k M (parts C N ++ []) hO hM hb hS (by omega) (by rw [h0.2.1, hlen]; omega) l[k] hok.ds hok.dl hok.rd
  rw [hP, ← htl] at hc
  exact hc.mono fun e w' ⟨h1, h2⟩ => ⟨h1, Both.of hN hT hQ hK h2⟩
theorem res_add {w wr : World} {B k : Nat} {ad : Option Addr} {l : List Ev} (hR : Res w B w.heap.size [] (told (l.take k)) k wr) (hl : EvsAt w ad l) (hk : k < l.length) (h5 : l.length ≤ 500) :
    (∃ b o, ad = some ⟨b, o, none⟩ ∧ wr.rangeAt b (o + k * 19) (evA l[k]).toList) ∧
    Calls Try.prog 9 #[.pointer (some ⟨B, 0, none⟩), .agg (evA l[k])] wr fun e w' => e = .returned (.int .i64 (told (l.take (k + 1))).broken) ∧ Res w B w.heap.size [] (told (l.take (k + 1))) (k + 1) w' := by
  obtain ⟨M, N, hM, hS, hP⟩ := hR
  have hbr : Below w.heap.size w wr := N.kept.below (Nat.le_refl _) (fun k hk h => by omega)
  obtain ⟨b, o, hga, hBl, hr, hok⟩ := (hl.below hbr).2 k hk
  have htl : told (l.take (k + 1)) = padd (told (l.take k)) l[k] := by
    rw [List.take_succ_eq_append_getElem hk, told_snoc]
  have hlen : (told (l.take k)).len = (k : Int) := by
    rw [told_len, List.length_take]
    omega
  have h0 := res_c hP
  refine ⟨⟨b, o, hga, hr⟩, ?_⟩
  have hc := add_any wr B w.heap.size k M [] N.own hM N.low hS (by omega) (by rw [h0.2.1, hlen]; omega) l[k] hok.ds hok.dl hok.rd
  rw [hP, ← htl] at hc
  exact hc.mono fun e w' ⟨h1, h2⟩ => ⟨h1, h2.from N.kept⟩
/-- a copy is made -/
def CopyBoth (w : World) (B b0 : Nat) (P : PM) (n : Nat) (e : Ending) (w' : World) : Prop := ∃ C, e = .returned (.pointer (some ⟨C, 0, none⟩)) ∧ Both w B C b0 P P n n w'
theorem res_copy {w wr : World} {B k : Nat} {l : List Ev} (hR : Res w B w.heap.size [] (told (l.take k)) k wr) (h5 : k ≤ 500) :
    Calls Try.prog 11 #[.pointer (some ⟨B, 0, none⟩)] wr (CopyBoth w B w.heap.size (told (l.take k)) k) := by
  obtain ⟨M, N, hM, hS, hP⟩ := hR
  refine (monCopy_any wr B w.heap.size k M [] N.own hM N.low hS (by omega) (fun p q hq => ?_)).mono fun e w' ⟨C, he, hr⟩ => ?_
  · have hh := home_told (l.take k)
    rw [← hP] at hh
    have h1 := hh p q hq
    have hlt := now_lt hM hq
    refine ⟨hlt, ?_⟩
    have h2 : ((M.stays.map projS).map PS.proc)[q]? = some p := h1
    rw [List.getElem?_map, List.getElem?_map, List.getElem?_eq_getElem hlt] at h2
    injection h2
  · rw [hP] at hr
    obtain ⟨M', h1, h2, h3, h4⟩ := hr
    exact ⟨C, he, (show Both w C B w.heap.size (told (l.take k)) (told (l.take k)) k k w' from ⟨M', M, h1.own, h2, hM, h3, hS, h4, hP, N.kept.trans h1.kept, h1.low⟩).swap⟩
/-- what a monitor's numbers are -/
theorem both_at {w wr : World} {B C b0 n m : Nat} {P Q : PM} (h : Both w B C b0 P Q n m wr) : ∃ c d, MAt wr B c ∧ MAt wr C d ∧ (c.broken = P.broken ∧ c.len = P.len ∧ c.at_ = P.at_ ∧ c.rule = P.rule) ∧ (d.broken = Q.broken ∧ d.len = Q.len ∧ d.at_ = Q.at_ ∧ d.rule = Q.rule) := by
  obtain ⟨M, N, h1, h2, h3, h4, h5, h6, h7, h8, h9⟩ := h
  exact ⟨M.c, N.c, own_mon h1, own_mon h1.mid, res_c h6, res_c h7⟩
/-- the rounds of the law -/
theorem both_first {w wr : World} {B C b0 n m : Nat} {P Q : PM} (h : Both w B C b0 P Q n m wr) : Calls Try.prog 10 #[.pointer (some ⟨B, 0, none⟩)] wr fun e w' => e = .returned (.tuple #[.int .i64 P.at_, .int .i64 P.rule]) ∧ Both w B C b0 P Q n m w' := by
  obtain ⟨c, d, hc, hd, ⟨_, _, h3, h4⟩, _⟩ := both_at h
  rw [← h3, ← h4]
  exact (first_any wr B c hc).mono fun e w' ⟨h1, h2⟩ => ⟨h1, h.below h2⟩
theorem both_broken {w wr : World} {B C b0 n m : Nat} {P Q : PM} (h : Both w B C b0 P Q n m wr) : Calls Try.prog 12 #[.pointer (some ⟨B, 0, none⟩)] wr fun e w' => e = .returned (.int .i64 P.broken) ∧ wr = w' := by
  obtain ⟨c, d, hc, hd, ⟨h1, _⟩, _⟩ := both_at h
  rw [← h1]
  exact broken_any wr B c hc
theorem both_len {w wr : World} {B C b0 n m : Nat} {P Q : PM} (h : Both w B C b0 P Q n m wr) : Calls Try.prog 13 #[.pointer (some ⟨B, 0, none⟩)] wr fun e w' => e = .returned (.int .i64 P.len) ∧ wr = w' := by
  obtain ⟨c, d, hc, hd, ⟨_, h1, _⟩, _⟩ := both_at h
  rw [← h1]
  exact len_any wr B c hc
theorem Both.out {w wr : World} {B C n m : Nat} {P Q : PM} (h : Both w B C w.heap.size P Q n m wr) : Below w.heap.size w wr := by
  obtain ⟨M, N, _, _, _, _, _, _, _, h8, h9⟩ := h
  exact h8.below (Nat.le_refl _) (fun k hk h => by omega)
set_option maxRecDepth 100000 in
set_option maxHeartbeats 16000000 in
theorem law_monitorCopies (w : World) (ad : Option Addr) (cap : Nat) (l : List Ev) (at_ : Int) (h : EvsAt w ad l) : Calls Try.prog 4 #[.slice ad l.length cap, .int .i64 at_] w fun e w' => e = .returned (.bool true) ∧ Below w.heap.size w w' := by
  have HL := Lib.hid h
  have hll := h.1
  obtain ⟨n, hn⟩ : ∃ n, n = l.length := ⟨_, rfl⟩
  have HA := Lib.hid (awake_any w)
  have HFW := Lib.hid (fun w1 (hb : Below w.heap.size w w1) => few_any w1 ad cap l (h.below hb))
  rw [← hn] at hll HFW ⊢
  have HN := Lib.hid hn
  clear h hn
  go_enter Try.func4, Try.ntmps4
  go_wp2_with fail
  refine HA.out.mono ?_
  rintro e w1 ⟨rfl, hb1⟩
  have HF := Lib.hid (HFW.out w1 hb1)
  have HB1 := Lib.hid hb1
  clear hb1 HFW HA
  go_wp2_with fail
  refine HF.out.mono ?_
  rintro e w2 ⟨⟨b, rfl, hb⟩, hb2⟩
  have HB2 := Lib.hid (bt HB1.out hb2)
  clear hb2 HF
  cases b
  · clear hb
    go_wp2_with fail
    go_ret
    exact ⟨rfl, HB2.out⟩
  have hn5 : n ≤ 500 := by rw [HN.out]; exact hb rfl
  have HNW := Lib.hid (new_any w2 w.heap.size [] ⟨fun p hp => (by cases hp), fun p hp => (by cases hp), List.Pairwise.nil⟩ HB2.out.size)
  clear hb
  by_cases h0 : at_ < 0
  · have d0 : decide (at_ < 0) = true := by simpa using h0
    go_wp2_with fail
    go_ret
    exact ⟨rfl, HB2.out⟩
  have d0 : decide (at_ < 0) = false := by simpa using h0
  by_cases h1 : (n : Int) < at_
  · have d1 : decide ((n : Int) < at_) = true := by simpa using h1
    go_wp2_with fail
    go_ret
    exact ⟨rfl, HB2.out⟩
  obtain ⟨m, rfl⟩ : ∃ m : Nat, at_ = m := ⟨at_.toNat, by omega⟩
  have d1 : decide ((n : Int) < (m : Int)) = false := by simpa using h1
  have d2 : decide (n < m) = false := by simp; omega
  have hmn : m ≤ n := by omega
  have HM := Lib.hid hmn
  go_wp2_with fail
  refine HNW.out.mono ?_
  rintro e w3 ⟨B, M, rfl, N3, hM, hS, hP, hB⟩
  have HI := Lib.hid (show Res w B w.heap.size [] (told (l.take 0)) 0 w3 from ⟨M, ⟨N3.own, (Kept.of_below HB2.out).trans N3.kept, N3.low⟩, hM, hS, hP⟩)
  clear N3 hM hS hP hB HNW d0 d1 d2 h0 h1
  go_upto_block 0 with (fail)
  go_cut [] (fun wx => Hid (Res w B w.heap.size [] (told (l.take m)) m wx))
  case first =>
    go_wp2_with fail
    go_loopw [6] (fun i wr => ∃ k : Nat, k ≤ m ∧ i = .int .i64 (k : Int) ∧ Hid (Res w B w.heap.size [] (told (l.take k)) k wr)) (fun i _ => m - (intOf i).toNat)
    case atStart => exact ⟨0, by omega, rfl, HI⟩
    case round =>
      obtain ⟨k, hk, rfl, HW⟩ := hrel
      by_cases hlt : k < m
      · have hbool' : decide ((k : Int) < (m : Int)) = true := by rw [decide_eq_true_eq]; omega
        have hki : (k : Int) < (n : Int) := by omega
        have hkl : k < l.length := by rw [← HN.out]; omega
        obtain ⟨⟨b, o, hga, hr⟩, hc⟩ := res_add HW.out HL.out hkl (by rw [← HN.out]; exact hn5)
        obtain ⟨cx, hcx⟩ : ∃ cx, cx = evA l[k] := ⟨_, rfl⟩
        have HSZ := Lib.hid (show (Try.prog.info? 39).map (·.size) = some cx.toList.length from by rw [hcx]; exact evInfo)
        have hc1 : cx.toList.toArray = cx := by simp
        rw [← hcx] at hr hc
        have HR := Lib.hid hr
        have HC := Lib.hid hc
        have HLT := Lib.hid hlt
        clear hr hc hcx hkl hlt HI HW
        rw [hga]
        go_wp2_with (first | (with_reducible refine wpList_load_mid rfl 39 (.tmp 39) rfl b (o + k * 19) rfl cx.toList _ HR.out Try.underlying39 rfl HSZ.out ?_) | fail)
        refine HC.out.mono ?_
        rintro e w4 ⟨rfl, hE⟩
        have HE := Lib.hid hE
        clear hE HC HR HSZ hc1
        go_wp2_with fail
        exact ⟨⟨k + 1, HLT.out, by go_num, HE⟩, by have := HLT.out; simp [intOf]; omega⟩
      · have hbool' : decide ((k : Int) < (m : Int)) = false := by rw [decide_eq_false_iff_not]; omega
        obtain rfl : k = m := by omega
        clear hlt HI
        go_wp2_with fail
        go_meet
        exact HW
  case rest =>
  obtain ⟨w4, rfl⟩ : ∃ z, z = wc := ⟨_, rfl⟩
  have HC := Lib.hid (res_copy hcut.out (by omega))
  clear hcut HI
  go_wp2_with fail
  refine HC.out.mono ?_
  rintro e w5 ⟨C, rfl, hE⟩
  have HE := Lib.hid hE
  have HBK := Lib.hid (both_broken hE)
  clear hE HC
  obtain ⟨was, hwas⟩ : ∃ z, z = (told (l.take m)).broken := ⟨_, rfl⟩
  rw [← hwas] at HBK
  have HWAS := Lib.hid hwas
  clear hwas
  go_wp2_with fail
  refine HBK.out.mono ?_
  rintro e w6 ⟨rfl, rfl⟩
  clear HBK
  go_upto_block 2 with (fail)
  go_cut [] (fun wx => Hid (Both w B C w.heap.size (told (l.take n)) (told (l.take m)) n m wx))
  case first =>
    go_wp2_with fail
    go_loopw [9] (fun i wr => ∃ k : Nat, k ≤ n ∧ i = .int .i64 (k : Int) ∧ Hid (Both w B C w.heap.size (told (l.take k)) (told (l.take m)) k m wr)) (fun i _ => n - (intOf i).toNat)
    case atStart => exact ⟨m, HM.out, rfl, HE⟩
    case round =>
      obtain ⟨k, hk, rfl, HW⟩ := hrel
      by_cases hlt : k < n
      · have hbool' : decide ((k : Int) < (n : Int)) = true := by rw [decide_eq_true_eq]; omega
        have hki : (k : Int) < (n : Int) := by omega
        have hkl : k < l.length := by rw [← HN.out]; omega
        obtain ⟨⟨b, o, hga, hr⟩, hc⟩ := both_add HW.out HL.out hkl (by rw [← HN.out]; exact hn5)
        obtain ⟨cx, hcx⟩ : ∃ cx, cx = evA l[k] := ⟨_, rfl⟩
        have HSZ := Lib.hid (show (Try.prog.info? 39).map (·.size) = some cx.toList.length from by rw [hcx]; exact evInfo)
        have hc1 : cx.toList.toArray = cx := by simp
        rw [← hcx] at hr hc
        have HR := Lib.hid hr
        have HC := Lib.hid hc
        have HLT := Lib.hid hlt
        clear hr hc hcx hkl hlt HE HW
        rw [hga]
        go_wp2_with (first | (with_reducible refine wpList_load_mid rfl 39 (.tmp 56) rfl b (o + k * 19) rfl cx.toList _ HR.out Try.underlying39 rfl HSZ.out ?_) | fail)
        refine HC.out.mono ?_
        rintro e w4 ⟨rfl, hE⟩
        have HE := Lib.hid hE
        clear hE HC HR HSZ hc1
        go_wp2_with fail
        exact ⟨⟨k + 1, HLT.out, by go_num, HE⟩, by have := HLT.out; simp [intOf]; omega⟩
      · have hbool' : decide ((k : Int) < (n : Int)) = false := by rw [decide_eq_false_iff_not]; omega
        obtain rfl : k = n := by omega
        clear hlt HE
        go_wp2_with fail
        go_meet
        exact HW
  case rest =>
  obtain ⟨w6, rfl⟩ : ∃ z, z = wc := ⟨_, rfl⟩
  clear HE
  have HE := hcut
  have HCB := Lib.hid (both_broken hcut.out.swap)
  have HCL := Lib.hid (both_len hcut.out.swap)
  rw [← HWAS.out] at HCB
  rw [show (told (l.take m)).len = (m : Int) from by rw [told_len, List.length_take, ← HN.out]; have := HM.out; omega] at HCL
  clear hcut
  have dw : (was != was) = false := by simp
  have dm : ((m : Int) != (m : Int)) = false := by simp
  go_wp2_with fail
  refine HCB.out.mono ?_
  rintro e w7 ⟨rfl, rfl⟩
  clear HCB
  go_wp2_with fail
  refine HCL.out.mono ?_
  rintro e w7 ⟨rfl, rfl⟩
  clear HCL
  go_upto_block 4 with (fail)
  go_cut [] (fun wx => Hid (Both w B C w.heap.size (told (l.take n)) (told (l.take n)) n n wx))
  case first =>
    go_wp2_with fail
    go_loopw [10] (fun i wr => ∃ k : Nat, k ≤ n ∧ i = .int .i64 (k : Int) ∧ Hid (Both w C B w.heap.size (told (l.take k)) (told (l.take n)) k n wr)) (fun i _ => n - (intOf i).toNat)
    case atStart => exact ⟨m, HM.out, rfl, HE.out.swap⟩
    case round =>
      obtain ⟨k, hk, rfl, HW⟩ := hrel
      by_cases hlt : k < n
      · have hbool' : decide ((k : Int) < (n : Int)) = true := by rw [decide_eq_true_eq]; omega
        have hki : (k : Int) < (n : Int) := by omega
        have hkl : k < l.length := by rw [← HN.out]; omega
        obtain ⟨⟨b, o, hga, hr⟩, hc⟩ := both_add HW.out HL.out hkl (by rw [← HN.out]; exact hn5)
        obtain ⟨cx, hcx⟩ : ∃ cx, cx = evA l[k] := ⟨_, rfl⟩
        have HSZ := Lib.hid (show (Try.prog.info? 39).map (·.size) = some cx.toList.length from by rw [hcx]; exact evInfo)
        have hc1 : cx.toList.toArray = cx := by simp
        rw [← hcx] at hr hc
        have HR := Lib.hid hr
        have HC := Lib.hid hc
        have HLT := Lib.hid hlt
        clear hr hc hcx hkl hlt HE HW
        rw [hga]
        go_wp2_with (first | (with_reducible refine wpList_load_mid rfl 39 (.tmp 79) rfl b (o + k * 19) rfl cx.toList _ HR.out Try.underlying39 rfl HSZ.out ?_) | fail)
        refine HC.out.mono ?_
        rintro e w4 ⟨rfl, hE⟩
        have HE := Lib.hid hE
        clear hE HC HR HSZ hc1
        go_wp2_with fail
        exact ⟨⟨k + 1, HLT.out, by go_num, HE⟩, by have := HLT.out; simp [intOf]; omega⟩
      · have hbool' : decide ((k : Int) < (n : Int)) = false := by rw [decide_eq_false_iff_not]; omega
        obtain rfl : k = n := by omega
        clear hlt HE
        go_wp2_with fail
        go_meet
        exact HW.out.swap
  case rest =>
  obtain ⟨w7, rfl⟩ : ∃ z, z = wc := ⟨_, rfl⟩
  clear HE
  have HE := hcut
  clear hcut dw dm
  obtain ⟨P, hP⟩ : ∃ P, P = told (l.take n) := ⟨_, rfl⟩
  rw [← hP] at HE
  clear hP
  have HF1 := Lib.hid (both_first HE.out)
  obtain ⟨z, hz⟩ : ∃ z, z = P.broken := ⟨_, rfl⟩
  obtain ⟨q, hq⟩ : ∃ z, z = P.len := ⟨_, rfl⟩
  obtain ⟨a, ha⟩ : ∃ z, z = P.at_ := ⟨_, rfl⟩
  obtain ⟨u, hu⟩ : ∃ z, z = P.rule := ⟨_, rfl⟩
  have HZ := Lib.hid (And.intro hz (And.intro hq (And.intro ha hu)))
  rw [← ha, ← hu] at HF1
  clear hz hq ha hu
  go_wp2_with fail
  refine HF1.out.mono ?_
  rintro e w8 ⟨rfl, h8⟩
  have H8 := Lib.hid h8
  have HF2 := Lib.hid (both_first h8.swap)
  rw [← HZ.out.2.2.1, ← HZ.out.2.2.2] at HF2
  clear h8 HF1 HE
  go_wp2_with fail
  refine HF2.out.mono ?_
  rintro e w9 ⟨rfl, h9⟩
  have H9 := Lib.hid h9.swap
  have HB1 := Lib.hid (both_broken h9)
  have HB2 := Lib.hid (both_broken h9.swap)
  have HL1 := Lib.hid (both_len h9)
  have HL2 := Lib.hid (both_len h9.swap)
  rw [← HZ.out.1] at HB1 HB2
  rw [← HZ.out.2.1] at HL1 HL2
  clear h9 HF2 H8 HZ
  have dz : (z == z) = true := by simp
  have da : (a == a) = true := by simp
  have du : (u == u) = true := by simp
  have dq : (q == q) = true := by simp
  go_wp2_with fail
  refine HB1.out.mono ?_
  rintro e wa ⟨rfl, rfl⟩
  go_wp2_with fail
  refine HB2.out.mono ?_
  rintro e wa ⟨rfl, rfl⟩
  go_wp2_with fail
  refine HL1.out.mono ?_
  rintro e wa ⟨rfl, rfl⟩
  go_wp2_with fail
  refine HL2.out.mono ?_
  rintro e wa ⟨rfl, rfl⟩
  go_wp2_with fail
  go_ret
  exact ⟨rfl, H9.out.out⟩
set_option maxRecDepth 100000 in
theorem monitorCopies_row {H : Type} {enc : TypeId × Value → H} {base : Nat} {spare : Nat → Bool} {held : Bool} {r : Go.Reach} {b0 : Nat} {d : DataW H} {pl : List MemPlace} (v : Value) (at_ : Int) (w : World) (hv : Value.okWide Try.prog w r b0 22 v) (h : DataW.Trod enc Try.prog w base spare held 22 v d pl) (hb : -9223372036854775808 ≤ at_ ∧ at_ ≤ 9223372036854775807) (hz : ∀ n ∈ d.weights Try.prog 22, n ≤ reachBytes) :
    Calls Try.prog 4 #[v, .int .i64 at_] w fun e w' => e = .returned (.bool true) ∧ Below w.heap.size w w' := by
  obtain ⟨ad, l, cap, rfl, hp⟩ := evs_arg hv h hz
  exact law_monitorCopies w ad cap l at_ hp
end Go.Proofs.Ytogagkgkmoppmaa
