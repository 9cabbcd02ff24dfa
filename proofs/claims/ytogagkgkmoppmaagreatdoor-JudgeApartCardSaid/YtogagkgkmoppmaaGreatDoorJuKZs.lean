/-
  The judge: an event of views.
  Conditions: those that each theorem names.
-/
import Derived.Test.YtogagkgkmoppmaaGreatDoorJuJ
import Derived.Test.YtogagkgkmoppmaaGreatDoorJuG
import Derived.Test.YtogagkgkmoppmaaGreatDoorZdBZs
import Derived.Test.YtogagkgkmoppmaaGreatDoorJuP
namespace Go.Proofs.YtogagkgkmoppmaaGreatDoor
set_option linter.unusedVariables false
set_option linter.unusedSimpArgs false
open Go.RowKit GM
def vwX (y : JX) (i : Nat) : JX := { y with s := { y.s with vw := some i, va := i, rd := none, out := false } }
def viewTo (t : J) (i : Nat) (s : Option Nat) : J := match s with
  | none => t
  | some k => match t.stays[k]? with
    | none => t
    | some o => t.setS k { o with vw := some i, va := i, rd := none, out := false }
theorem upper_view (l : List Ev) (nm : Nat → List NameK) (t : J) (i : Nat) (x : Ev) (s : Option Nat) (h : x.kind = 7) : t.upper l nm i x s = viewTo t i s := by
  unfold J.upper viewTo
  rw [if_pos h]
  cases s with
  | none => rfl
  | some k =>
    simp only
    cases t.stays[k]? <;> rfl
theorem setCell_lt {w : World} {p : Addr} {v : Value} {b : Nat} {cs : Array Value} {t : TypeId} {fr : Nat × Nat} (h : w.heap[b]? = some (.cells cs t fr)) : b < w.heap.size := (Array.getElem?_eq_some_iff.1 h).1
set_option maxRecDepth 100000 in
set_option maxHeartbeats 16000000 in
theorem upper_any {wB w : World} {g o n : Nat} {l : List Ev} {nm : Nat → List NameK} {M : JM} {R : List Pc} (h : At wB (jparts g o l M ++ R) w) (hT : Tr wB g o l nm) (hJ : JOk g o l n M) (hn : n ≤ 5000) (i : Nat) (x : Ev) (hx : l[i]? = some x) (s : Option Nat) (hs : ∀ k, s = some k → k < M.stays.length) :
    Calls Tryz.prog 20 #[.pointer (some ⟨M.h.T, 0, none⟩), .int .i64 (i : Int), .pointer (some ⟨g, o + i * 19, none⟩), sV M s] w fun e w' => e = .returned (.tuple #[]) ∧ JTo wB g o l R (n + 1) M.h ((projJ M).upper l nm i x s) w' := by
  have hTw := hT.below h.bel
  obtain ⟨kd, hkd⟩ : ∃ kd, kd = x.kind := ⟨_, rfl⟩
  have e0 : w.cell? ⟨g, o + i * 19, none⟩ = some (.int .i64 kd) := by rw [hkd]; exact hTw.cell hx 0 (v := .int .i64 x.kind) rfl ⟨w, br w⟩
  obtain ⟨tE, htE⟩ : ∃ t, t = (projJ M).upper l nm i x s := ⟨_, rfl⟩
  have hMN := mine_any h hT hJ hn i x hx s hs
  have hNone : JTo wB g o l R (n + 1) M.h (projJ M) w := ⟨M, h, hJ.more (Nat.le_succ n), rfl, rfl⟩
  rw [← htE]
  obtain ⟨TT, hTT⟩ : ∃ T, T = M.h.T := ⟨_, rfl⟩
  rw [← hTT] at hMN ⊢
  by_cases k7 : kd = 7
  · have htE2 : tE = viewTo (projJ M) i s := by rw [htE]; exact upper_view l nm _ i x s (hkd.symm.trans k7)
    cases s with
    | none =>
      have HE := Lib.hid (show JTo wB g o l R (n + 1) M.h tE w from by rw [htE2]; exact hNone)
      show Calls Tryz.prog 20 #[.pointer (some ⟨TT, 0, none⟩), .int .i64 (i : Int), .pointer (some ⟨g, o + i * 19, none⟩), .pointer none] w _
      subst k7
      clear hkd htE htE2 hMN hNone hTT hTw h hT hJ hs hx hn
      go_enter Tryz.func20, Tryz.ntmps20
      go_wp2_with fail
      go_end0
      exact ⟨rfl, HE.out⟩
    | some k =>
      have hk := hs k rfl
      show Calls Tryz.prog 20 #[.pointer (some ⟨TT, 0, none⟩), .int .i64 (i : Int), .pointer (some ⟨g, o + i * 19, none⟩), nthJ M.stays k] w _
      rw [nthJ_at hk]
      simp only [viewTo, proj_at hk] at htE2
      obtain ⟨y, hy⟩ : ∃ y, y = M.stays[k] := ⟨_, rfl⟩
      have hym : y ∈ M.stays := hy ▸ List.getElem_mem hk
      rw [← hy] at htE2 ⊢
      have hst := jown_st h.own hym
      have hil : i < l.length := (List.getElem?_eq_some_iff.1 hx).1
      obtain ⟨yb, hyb⟩ : ∃ b, b = y.b := ⟨_, rfl⟩
      unfold ptrV
      rw [← hyb] at hst ⊢
      have h6 := setCell_block hst 6 (.pointer (some ⟨g, o + i * 19, none⟩))
      have h7 := setCell_block h6 7 (.pointer (some ⟨g, o + i * 19, none⟩))
      have g7 := setCell_block hst 7 (.pointer (some ⟨g, o + i * 19, none⟩))
      have g8 := setCell_block g7 8 (.int .i64 (i : Int))
      have g9 := setCell_block g8 9 (.pointer none)
      have g11 := setCell_block g9 11 (.bool false)
      have HE := Lib.hid (show JTo wB g o l R (n + 1) M.h tE ((((w.setCell ⟨yb, 7, none⟩ (.pointer (some ⟨g, o + i * 19, none⟩))).setCell ⟨yb, 8, none⟩ (.int .i64 (i : Int))).setCell ⟨yb, 9, none⟩ (.pointer none)).setCell ⟨yb, 11, none⟩ (.bool false)) from by
        rw [htE2]
        refine ⟨M.setS k (vwX y i), jown_cell h hk (by rw [← hy]; rfl) (by rw [← hy]; rfl) (by rw [← hy]; rfl) ?_ ?_, (hJ.more (Nat.le_succ n)).setS hk (by rw [← hy]; rfl) ?_, ?_, rfl⟩
        · show Kept (fun b => b = y.b) _ _
          rw [← hyb]
          exact (((keptS w ⟨yb, 7, none⟩ _).trans (keptS _ ⟨yb, 8, none⟩ _)).trans (keptS _ ⟨yb, 9, none⟩ _)).trans (keptS _ ⟨yb, 11, none⟩ _)
        · show (World.setCell _ _ _).heap[y.b]? = _
          rw [← hyb]
          exact g11.trans rfl
        · have hx := (hJ.more (Nat.le_succ n)).st y hym
          exact ⟨hx.bf, hx.tr, hx.nx, fun e he => by injection he with he; rw [← he]; exact hil, fun e he => (by cases he), hx.gots, hx.ups, hx.gl, hx.ul⟩
        · rw [projJ_setS]
          rfl)
      have c7 : w.cell? ⟨yb, 7, none⟩ = some (evP g o y.s.vw) := cell_of_row _ _ 7 _ _ _ hst
      have f7 : w.frozen? ⟨yb, 7, none⟩ = false := frozen_of_row _ _ _ _ _ hst
      have c8 : w.cell? ⟨yb, 8, none⟩ = some (.int .i64 (y.s.va : Int)) := cell_of_row _ _ 8 _ _ _ hst
      have f8 : w.frozen? ⟨yb, 8, none⟩ = false := frozen_of_row _ _ _ _ _ hst
      have c9 : w.cell? ⟨yb, 9, none⟩ = some (evP g o y.s.rd) := cell_of_row _ _ 9 _ _ _ hst
      have f9 : w.frozen? ⟨yb, 9, none⟩ = false := frozen_of_row _ _ _ _ _ hst
      have c11 : w.cell? ⟨yb, 11, none⟩ = some (.bool y.s.out) := cell_of_row _ _ 11 _ _ _ hst
      have f11 : w.frozen? ⟨yb, 11, none⟩ = false := frozen_of_row _ _ _ _ _ hst
      subst k7
      clear hkd htE htE2 hMN hNone hTT hTw h hT hJ hs hx hn hy hym hyb hil h6 h7 g7 g8 g9 g11 hst
      generalize evP g o y.s.vw = z7 at *
      generalize evP g o y.s.rd = z9 at *
      generalize y.s.out = z11 at *
      generalize (y.s.va : Int) = z8 at *
      go_enter Tryz.func20, Tryz.ntmps20
      go_wp2_with fail
      go_end0
      exact ⟨rfl, HE.out⟩
  have d7 : (kd == 7) = false := by simpa using k7
  by_cases km : kd = 11 ∨ kd = 8 ∨ kd = 9 ∨ kd = 10 ∨ kd = 12
  · have htE2 : tE = (projJ M).mine l nm i x s := by
      rw [htE]
      unfold J.upper
      rw [if_neg (fun hh => k7 (hkd.trans hh)), if_pos (by rw [← hkd]; exact km)]
    rw [← htE2] at hMN
    have HMN := Lib.hid hMN
    clear hkd htE htE2 hMN hNone hTT hTw h hT hJ hs hx hn k7
    generalize sV M s = SV at *
    rcases km with rfl | rfl | rfl | rfl | rfl
    all_goals
      go_enter Tryz.func20, Tryz.ntmps20
      go_wp2_with fail
      refine HMN.out.mono ?_
      rintro e w2 ⟨rfl, hE⟩
      have HE := Lib.hid hE
      clear hE HMN e0
      go_wp2_with fail
      go_end0
      exact ⟨rfl, HE.out⟩
  · have HE := Lib.hid (show JTo wB g o l R (n + 1) M.h tE w from by
      rw [htE]
      unfold J.upper
      rw [if_neg (fun hh => k7 (hkd.trans hh)), if_neg (by rw [← hkd]; exact km)]
      exact hNone)
    have d11 : (kd == 11) = false := by simp; omega
    have d8 : (kd == 8) = false := by simp; omega
    have d9 : (kd == 9) = false := by simp; omega
    have d10 : (kd == 10) = false := by simp; omega
    have d12 : (kd == 12) = false := by simp; omega
    clear hkd htE hMN hNone hTT hTw h hT hJ hs hx hn k7 km
    generalize sV M s = SV at *
    go_enter Tryz.func20, Tryz.ntmps20
    go_wp2_with fail
    go_end0
    exact ⟨rfl, HE.out⟩
end Go.Proofs.YtogagkgkmoppmaaGreatDoor
namespace Go.Proofs.YtogagkgkmoppmaaGreatDoor
set_option linter.unusedVariables false
set_option linter.unusedSimpArgs false
open Go.RowKit GM
def JM0 (s : Nat) (ad : Option Addr) (n c : Nat) : JM := ⟨⟨s + 1, ad, n, c, s, s + 2, s + 3⟩, none, 0, [], [], [], 0, []⟩
def newJW (w : World) (ad : Option Addr) (n c : Nat) : World := (((w.alloc (.map #[] 0)).alloc (.cells (trC (JM0 w.heap.size ad n c)) 48)).alloc (.map #[] 0)).alloc (.map #[] 0)
theorem new_ownJ {wB w : World} {g o : Nat} {l : List Ev} {R : List Pc} (h : At wB R w) (ad : Option Addr) (n c : Nat) : At wB (jparts g o l (JM0 w.heap.size ad n c) ++ R) (newJW w ad n c) := by
  obtain ⟨s, hs⟩ : ∃ s, s = w.heap.size := ⟨_, rfl⟩
  obtain ⟨w1, e1⟩ : ∃ w1, w1 = w.alloc (.map #[] 0) := ⟨_, rfl⟩
  obtain ⟨w2, e2⟩ : ∃ w2, w2 = w1.alloc (.cells (trC (JM0 s ad n c)) 48) := ⟨_, rfl⟩
  obtain ⟨w3, e3⟩ : ∃ w3, w3 = w2.alloc (.map #[] 0) := ⟨_, rfl⟩
  obtain ⟨w4, e4⟩ : ∃ w4, w4 = w3.alloc (.map #[] 0) := ⟨_, rfl⟩
  have z1 : w1.heap.size = s + 1 := by rw [e1]; simp [hs]
  have z2 : w2.heap.size = s + 2 := by rw [e2]; simp [z1]
  have z3 : w3.heap.size = s + 3 := by rw [e3]; simp [z2]
  have h0 : At wB (jPtr (JM0 s ad n c) :: R) w := h.new _ (br w) ⟨rfl, .inl ⟨rfl, rfl⟩⟩ (fun b e => by cases e)
  have h1 : At wB (jBad (JM0 s ad n c) :: jPtr (JM0 s ad n c) :: R) w1 := h0.new _ (by rw [e1]; exact ba (br _) _) (by rw [e1]; show GMap intV _ s _; rw [hs]; exact GMap.made intV w) (fun b e => by injection e with e; show w.heap.size ≤ b; rw [← hs, ← e]; exact Nat.le_refl _)
  have h2 : At wB (jTr (JM0 s ad n c) :: jBad (JM0 s ad n c) :: jPtr (JM0 s ad n c) :: R) w2 := h1.new _ (by rw [e2]; exact ba (br _) _) (by rw [e2]; show (w1.alloc _).heap[s + 1]? = _; rw [← z1]; exact heap_alloc_new w1 _) (fun b e => by injection e with e; rw [z1, ← e]; exact Nat.le_refl _)
  have h3 : At wB (jLive (JM0 s ad n c) :: jTr (JM0 s ad n c) :: jBad (JM0 s ad n c) :: jPtr (JM0 s ad n c) :: R) w3 := h2.new _ (by rw [e3]; exact ba (br _) _) (by rw [e3]; show GMap intV _ (s + 2) _; rw [← z2]; exact GMap.made intV w2) (fun b e => by injection e with e; rw [z2, ← e]; exact Nat.le_refl _)
  have h4 : At wB (jNow (JM0 s ad n c) :: jLive (JM0 s ad n c) :: jTr (JM0 s ad n c) :: jBad (JM0 s ad n c) :: jPtr (JM0 s ad n c) :: R) w4 := h3.new _ (by rw [e4]; exact ba (br _) _) (by rw [e4]; show GMap intV _ (s + 3) _; rw [← z3]; exact GMap.made intV w3) (fun b e => by injection e with e; rw [z3, ← e]; exact Nat.le_refl _)
  have hw : newJW w ad n c = w4 := by rw [e4, e3, e2, e1, hs]; rfl
  rw [← hs, hw]
  refine h4.perm ?_
  show ([jNow (JM0 s ad n c), jLive (JM0 s ad n c), jTr (JM0 s ad n c), jBad (JM0 s ad n c), jPtr (JM0 s ad n c)] ++ R).Perm ([jTr (JM0 s ad n c), jBad (JM0 s ad n c), jPtr (JM0 s ad n c), jLive (JM0 s ad n c), jNow (JM0 s ad n c)] ++ R)
  refine List.Perm.append_right R ?_
  exact (List.perm_append_comm (l₁ := [jNow (JM0 s ad n c), jLive (JM0 s ad n c)]) (l₂ := [jTr (JM0 s ad n c), jBad (JM0 s ad n c), jPtr (JM0 s ad n c)])).trans (List.Perm.append_left [jTr (JM0 s ad n c), jBad (JM0 s ad n c), jPtr (JM0 s ad n c)] (List.Perm.swap _ _ []))
/-- a start, or a stop -/
def JM.live1 (M : JM) (p : Int) (b : Bool) : JM := { M with live := put M.live p b }
def JM.now1 (M : JM) (p : Int) : JM := { M with now := del M.now p }
def JM.lived (M : JM) (p : Int) (b : Bool) : JM := (M.live1 p b).now1 p
theorem At.live1 {wB w w1 : World} {g o : Nat} {l : List Ev} {M : JM} {R : List Pc} (h : At wB (jparts g o l M ++ R) w) (p : Int) (b : Bool) (h1 : GMap intV w1 M.h.lb (put (vals boolV M.live) p (.bool b))) (g1 : w.grownBy w1 (some M.h.lb)) : At wB (jparts g o l (M.live1 p b) ++ R) w1 :=
  h.one (w' := w1) 3 (p := jLive M) (jLive (M.live1 p b)) rfl ((Kept.of_grown g1).more fun k _ e => by rw [e]; rfl) (by
    show GMap intV w1 M.h.lb (vals boolV (put M.live p b))
    rw [← put_vals]
    exact h1) (fun b e => .inl e)
theorem At.now1 {wB w w1 : World} {g o : Nat} {l : List Ev} {M : JM} {R : List Pc} (h : At wB (jparts g o l M ++ R) w) (p : Int) (h1 : GMap intV w1 M.h.nb (del (vals (nthJ M.stays) M.now) p)) (g1 : w.grownBy w1 (some M.h.nb)) : At wB (jparts g o l (M.now1 p) ++ R) w1 :=
  h.one (w' := w1) 4 (p := jNow M) (jNow (M.now1 p)) rfl ((Kept.of_grown g1).more fun k _ e => by rw [e]; rfl) (by
    show GMap intV w1 M.h.nb (vals (nthJ M.stays) (del M.now p))
    rw [← del_vals]
    exact h1) (fun b e => .inl e)
theorem JOk.lived {g o n : Nat} {l : List Ev} {M : JM} (h : JOk g o l n M) (p : Int) (b : Bool) : JOk g o l n (M.lived p b) := ⟨fun q hq => h.now q (List.mem_filter.1 hq).1, h.st, h.n, h.la, h.ll⟩
theorem thru_succ {l : List Ev} {nm : Nat → List NameK} {j : Nat} {x : Ev} (h : l[j]? = some x) : thru l nm (j + 1) = (thru l nm j).step l nm j x := by
  show (match l[j]? with
    | none => thru l nm j
    | some x => (thru l nm j).step l nm j x) = _
  rw [h]
theorem take_lt {j n : Nat} (h : j < n) : decide ((j : Int) < (n : Int)) = true ∧ decide (j < n) = true ∧ (j : Int) < (n : Int) := ⟨by rw [decide_eq_true_eq]; omega, by rw [decide_eq_true_eq]; omega, by omega⟩
set_option maxRecDepth 100000 in
set_option maxHeartbeats 16000000 in
theorem through_any {wB w : World} {g o : Nat} {l : List Ev} {nm : Nat → List NameK} {R : List Pc} (h : At wB R w) (hT : Tr wB g o l nm) (ad : Option Addr) (had : 0 < l.length → ad = some ⟨g, o, none⟩) (cap : Nat) (hl : l.length ≤ 5000) :
    Calls Tryz.prog 10 #[.slice ad l.length cap] w fun e w' => ∃ H, e = .returned (.pointer (some ⟨H.T, 0, none⟩)) ∧ JTo wB g o l R l.length H (thru l nm l.length) w' := by
  obtain ⟨n, hn⟩ : ∃ n, n = l.length := ⟨_, rfl⟩
  have hN := new_ownJ (g := g) (o := o) (l := l) h ad n cap
  obtain ⟨H, hH⟩ : ∃ H, H = (JM0 w.heap.size ad n cap).h := ⟨_, rfl⟩
  have HE := Lib.hid (show JTo wB g o l R 0 H (thru l nm 0) (newJW w ad n cap) from ⟨JM0 w.heap.size ad n cap, hN, ⟨fun p hp => (by cases hp), fun x hx => (by cases hx), Nat.le_refl _, had, hn⟩, rfl, hH.symm⟩)
  have HT := Lib.hid (And.intro hT (And.intro hl (And.intro had hn)))
  have HH := Lib.hid hH
  have hmm := @run_makeMap Tryz.prog
  have hn9 : n ≤ 5000 := by rw [hn]; exact hl
  rw [← hn]
  clear h hT hN hH had hl hn
  go_enter Tryz.func10, Tryz.ntmps10
  go_wp2_with fail
  go_loopw [16] (fun i wr => ∃ j : Nat, j ≤ n ∧ i = .int .i64 (j : Int) ∧ Hid (JTo wB g o l R j H (thru l nm j) wr)) (fun i _ => n - (intOf i).toNat)
  case atStart => exact ⟨0, by omega, rfl, HE⟩
  case round =>
    obtain ⟨j, hj, rfl, HW⟩ := hrel
    by_cases hlt : j < n
    · obtain ⟨hd1, hd2, hd3⟩ := take_lt hlt
      obtain ⟨M, hA, hJ, hP, hMH⟩ := HW.out
      have hjl : j < l.length := by rw [← HT.out.2.2.2]; exact hlt
      obtain ⟨x, hx⟩ : ∃ x, l[j]? = some x := ⟨_, List.getElem?_eq_getElem hjl⟩
      have hTr := HT.out.1.below hA.bel
      have hstep := thru_succ (nm := nm) hx
      rw [← hP] at hstep
      have e0 : wr.cell? ⟨g, o + j * 19, none⟩ = some (.int .i64 x.kind) := hTr.cell hx 0 (v := .int .i64 x.kind) rfl ⟨wr, br wr⟩
      have e1 : ∀ y : Bel wr, y.val.cell? ⟨g, o + j * 19 + 1, none⟩ = some (.int .i64 x.proc) := hTr.cell hx 1 (v := .int .i64 x.proc) rfl
      obtain ⟨kd, hkd⟩ : ∃ kd, kd = x.kind := ⟨_, rfl⟩
      rw [← hkd] at e0
      have HKD := Lib.hid hkd
      have HS := Lib.hid hstep
      have hM : M.h.T = w.heap.size + 1 ∧ M.h.lb = w.heap.size + 1 + 1 ∧ M.h.nb = w.heap.size + 1 + 1 + 1 := by rw [hMH, HH.out]; exact ⟨rfl, rfl, rfl⟩
      have hmo : M.h = H := hMH
      have HM := Lib.hid hM
      have HX := Lib.hid (And.intro hx (And.intro hlt (And.intro hA (And.intro hTr (And.intro hJ hMH)))))
      have had := HT.out.2.2.1 (by omega)
      have HJS := Lib.hid (show ∀ we, JTo wB g o l R (j + 1) M.h ((projJ M).step l nm j x) we → JTo wB g o l R (j + 1) H (thru l nm (j + 1)) we from fun we h => by rw [HS.out, ← HX.out.2.2.2.2.2]; exact h)
      clear hkd hstep hx hA hTr hJ hMH hM hmo hlt hjl hP HW HE hmm HS
      rw [had]
      by_cases k56 : kd = 5 ∨ kd = 6
      · have y1 : wr.cell? ⟨g, o + j * 19 + 1, none⟩ = some (.int .i64 x.proc) := e1 ⟨wr, br wr⟩
        obtain ⟨bb, hbb⟩ : ∃ b, b = decide (kd = 5) := ⟨_, rfl⟩
        have hst : (projJ M).step l nm j x = projJ (M.lived x.proc bb) := by
          unfold J.step
          rw [← HKD.out]
          rcases k56 with rfl | rfl
          · rw [if_pos rfl, hbb]; rfl
          · rw [if_neg (by decide), if_pos rfl, hbb]; rfl
        obtain ⟨wb, hrun, hg, hgr, hsz⟩ := (jown_live HX.out.2.2.1.own).update (P := Tryz.prog) Tryz.underlying46 intLaw x.proc (.bool bb)
        have hB := HX.out.2.2.1.live1 x.proc bb hg hgr
        obtain ⟨we, hrun2, hg2, hgr2, hsz2⟩ := (jown_now hB.own).drop (P := Tryz.prog) Tryz.underlying67 intLaw 0 x.proc
        have hE := hB.now1 x.proc hg2 hgr2
        have y2 : wb.cell? ⟨g, o + j * 19 + 1, none⟩ = some (.int .i64 x.proc) := (HT.out.1.below hB.bel).cell HX.out.1 1 (v := .int .i64 x.proc) rfl ⟨wb, br wb⟩
        have HEN := Lib.hid (show JTo wB g o l R (j + 1) H (thru l nm (j + 1)) we from HJS.out we (by
          rw [hst]
          exact ⟨_, hE, (HX.out.2.2.2.2.1.lived x.proc bb).more (Nat.le_succ j), rfl, rfl⟩))
        have hrun : (Instr.mapUpdate 46 (.map (some M.h.lb)) (.int .i64 x.proc) (.bool bb)).run Tryz.prog wr = .ok () wb := hrun
        have hrun2 : (Builtin.delete_ #[67, 3] 0 #[.map (some M.h.nb), .int .i64 x.proc]).run Tryz.prog wb = .ok (.tuple #[]) we := hrun2
        rw [HM.out.2.1] at hrun
        rw [HM.out.2.2] at hrun2
        clear hg hgr hsz hg2 hgr2 hsz2 hB hE hst HJS e1
        generalize w.heap.size + 1 + 1 + 1 = NB at *
        generalize w.heap.size + 1 + 1 = LB at *
        generalize w.heap.size + 1 = TT at *
        rcases k56 with rfl | rfl
        · have hb1 : bb = true := hbb.trans (by decide)
          clear hbb
          subst hb1
          go_wp2_with fail
          exact ⟨⟨j + 1, by have := HX.out.2.1; omega, by go_num, HEN⟩, by have := HX.out.2.1; simp [intOf]; omega⟩
        · have hb1 : bb = false := hbb.trans (by decide)
          clear hbb
          subst hb1
          go_wp2_with fail
          exact ⟨⟨j + 1, by have := HX.out.2.1; omega, by go_num, HEN⟩, by have := HX.out.2.1; simp [intOf]; omega⟩
      have hlook := live_lookJ (w := wr) HX.out.2.2.1.own x.proc
      rw [HM.out.2.1] at hlook
      have hst3 : (projJ M).step l nm j x = if kd = 3 then (projJ M).regular l j x ((get M.live x.proc).getD false) (get M.now x.proc) else if kd = 1 ∨ kd = 2 ∨ kd = 4 then (projJ M).inner l j x ((get M.live x.proc).getD false) (get M.now x.proc) else (projJ M).upper l nm j x (get M.now x.proc) := by
        unfold J.step
        rw [← HKD.out, if_neg (fun h => k56 (.inl h)), if_neg (fun h => k56 (.inr h))]
        rfl
      have hsl : ∀ k, get M.now x.proc = some k → k < M.stays.length := fun k hk => now_ltJ HX.out.2.2.2.2.1 hk
      have hj5 : j ≤ 5000 := by omega
      by_cases k3 : kd = 3
      · have HC := Lib.hid (show Calls Tryz.prog 18 #[.pointer (some ⟨w.heap.size + 1, 0, none⟩), .pointer (some ⟨g, o + j * 19, none⟩), .bool ((get M.live x.proc).getD false), .map (some (w.heap.size + 1 + 1 + 1))] wr fun e w' => e = .returned (.tuple #[]) ∧ JTo wB g o l R (j + 1) H (thru l nm (j + 1)) w' from by
          have h := jregular_any HX.out.2.2.1 HT.out.1 HX.out.2.2.2.2.1 hj5 j x HX.out.1 ((get M.live x.proc).getD false)
          rw [HM.out.1, HM.out.2.2] at h
          exact h.mono fun e w' ⟨h1, h2⟩ => ⟨h1, HJS.out w' (by rw [hst3, if_pos k3]; exact h2)⟩)
        have y1 : wr.cell? ⟨g, o + j * 19 + 1, none⟩ = some (.int .i64 x.proc) := e1 ⟨wr, br wr⟩
        subst k3
        clear hst3 hsl hj5 HJS k56 e1
        generalize w.heap.size + 1 + 1 + 1 = NB at *
        generalize w.heap.size + 1 + 1 = LB at *
        generalize w.heap.size + 1 = TT at *
        generalize (get M.live x.proc).getD false = lv at *
        go_wp2_with fail
        refine HC.out.mono ?_
        rintro e w2 ⟨rfl, hE⟩
        have HEN := Lib.hid hE
        clear hE HC hlook y1 e0
        go_wp2_with fail
        exact ⟨⟨j + 1, by have := HX.out.2.1; omega, by go_num, HEN⟩, by have := HX.out.2.1; simp [intOf]; omega⟩
      by_cases k124 : kd = 1 ∨ kd = 2 ∨ kd = 4
      · have HC := Lib.hid (show ∀ W, Below wr.heap.size wr W → Calls Tryz.prog 19 #[.pointer (some ⟨w.heap.size + 1, 0, none⟩), .int .i64 (j : Int), .pointer (some ⟨g, o + j * 19, none⟩), .bool ((get M.live x.proc).getD false), sV M (get M.now x.proc)] W fun e w' => e = .returned (.tuple #[]) ∧ JTo wB g o l R (j + 1) H (thru l nm (j + 1)) w' from fun W hW => by
          have h := inner_any (HX.out.2.2.1.below hW) HT.out.1 HX.out.2.2.2.2.1 hj5 j x HX.out.1 ((get M.live x.proc).getD false) _ hsl
          rw [HM.out.1] at h
          exact h.mono fun e w' ⟨h1, h2⟩ => ⟨h1, HJS.out w' (by rw [hst3, if_neg k3, if_pos k124]; exact h2)⟩)
        have hlk : ∀ y : Bel wr, (Instr.lookup 46 (.map (some (w.heap.size + 1 + 1))) (.int .i64 x.proc) false).run Tryz.prog y.val = .ok (.bool ((get M.live x.proc).getD false)) y.val := fun y => by
          have h := live_lookJ (HX.out.2.2.1.below y.prop).own x.proc
          rwa [HM.out.2.1] at h
        have hnk : ∀ y : Bel wr, (Instr.lookup 67 (.map (some (w.heap.size + 1 + 1 + 1))) (.int .i64 x.proc) false).run Tryz.prog y.val = .ok (sV M (get M.now x.proc)) y.val := fun y => by
          have h := now_lookJ (HX.out.2.2.1.below y.prop).own x.proc
          rwa [HM.out.2.2] at h
        clear hst3 hsl hj5 HJS k56 k3 hlook
        generalize w.heap.size + 1 + 1 + 1 = NB at *
        generalize w.heap.size + 1 + 1 = LB at *
        generalize w.heap.size + 1 = TT at *
        generalize (get M.live x.proc).getD false = lv at *
        generalize sV M (get M.now x.proc) = sv at *
        rcases k124 with rfl | rfl | rfl
        all_goals
          go_upto_region 21 with (fail)
          refine wp_region_bel_tail 15 (by kernel_rfl) (by kernel_rfl) ?_
          simp only [List.take_succ_cons, List.take_zero, List.drop_succ_cons, List.drop_zero]
          repeat (go_big_quiet_step ((fail)))
          refine wpQuiet_nil ?_
          intro w3 hw3
          have HC3 := Lib.hid (HC.out w3 (bel_out hw3))
          clear hw3 HC e0 e1 hlk hnk
          go_wp2_with fail
          refine HC3.out.mono ?_
          rintro e w2 ⟨rfl, hE⟩
          have HEN := Lib.hid hE
          clear hE HC3
          go_wp2_with fail
          exact ⟨⟨j + 1, by have := HX.out.2.1; omega, by go_num, HEN⟩, by have := HX.out.2.1; simp [intOf]; omega⟩
      have hnk := now_lookJ (w := wr) HX.out.2.2.1.own x.proc
      rw [HM.out.2.2] at hnk
      have HC := Lib.hid (show Calls Tryz.prog 20 #[.pointer (some ⟨w.heap.size + 1, 0, none⟩), .int .i64 (j : Int), .pointer (some ⟨g, o + j * 19, none⟩), sV M (get M.now x.proc)] wr fun e w' => e = .returned (.tuple #[]) ∧ JTo wB g o l R (j + 1) H (thru l nm (j + 1)) w' from by
        have h := upper_any HX.out.2.2.1 HT.out.1 HX.out.2.2.2.2.1 hj5 j x HX.out.1 _ hsl
        rw [HM.out.1] at h
        exact h.mono fun e w' ⟨h1, h2⟩ => ⟨h1, HJS.out w' (by rw [hst3, if_neg k3, if_neg k124]; exact h2)⟩)
      have y1 : wr.cell? ⟨g, o + j * 19 + 1, none⟩ = some (.int .i64 x.proc) := e1 ⟨wr, br wr⟩
      have d5 : (kd == 5) = false := by simp; omega
      have d6 : (kd == 6) = false := by simp; omega
      have d3 : (kd == 3) = false := by simp; omega
      have d1 : (kd == 1) = false := by simp; omega
      have d2 : (kd == 2) = false := by simp; omega
      have d4 : (kd == 4) = false := by simp; omega
      clear hst3 hsl hj5 HJS k56 k3 k124 hlook e1
      generalize w.heap.size + 1 + 1 + 1 = NB at *
      generalize w.heap.size + 1 + 1 = LB at *
      generalize w.heap.size + 1 = TT at *
      generalize sV M (get M.now x.proc) = sv at *
      go_wp2_with fail
      refine HC.out.mono ?_
      rintro e w2 ⟨rfl, hE⟩
      have HEN := Lib.hid hE
      clear hE HC hnk y1 e0 d5 d6 d3 d1 d2 d4
      go_wp2_with fail
      exact ⟨⟨j + 1, by have := HX.out.2.1; omega, by go_num, HEN⟩, by have := HX.out.2.1; simp [intOf]; omega⟩
    · have hd : decide ((j : Int) < (n : Int)) = false := by simpa using hlt
      have hd2 : decide (j < n) = false := by simpa using hlt
      have HF := Lib.hid (show JTo wB g o l R n H (thru l nm n) wr from by
        rw [show n = j by omega]
        exact HW.out)
      have hHT : w.heap.size + 1 = H.T := by rw [HH.out]; rfl
      clear HW HE hmm
      go_wp2_with fail
      go_ret
      exact ⟨H, by rw [← hHT]; rfl, HF.out⟩
end Go.Proofs.YtogagkgkmoppmaaGreatDoor
namespace Go.Proofs.YtogagkgkmoppmaaGreatDoor
set_option linter.unusedVariables false
set_option linter.unusedSimpArgs false
open Go.RowKit GM
set_option maxHeartbeats 8000000 in
theorem setAll_any (n : Nat) (h0 : 0 < n) (hn : n ≤ 64) (w : World) : Calls Tryz.prog 30 #[.int .i64 (n : Int)] w fun e w' => ∃ z : Int, e = .returned (.int .u64 z) ∧ w = w' := by
  have HS := Lib.hid (fun (j : Int) => setBit_any j w)
  have m1 : min (n : Int) 64 = (n : Int) := by omega
  have m2 : max (0 : Int) (n : Int) = (n : Int) := by omega
  go_enter Tryz.func30, Tryz.ntmps30
  go_wp2_with fail
  go_loopw [3, 8] (fun s i wr => ∃ (j : Nat) (z : Int), j ≤ n ∧ s = .int .u64 z ∧ i = .int .i64 (j : Int) ∧ wr = w) (fun _ i _ => n - (intOf i).toNat)
  case atStart => exact ⟨0, 0, by omega, rfl, rfl, rfl⟩
  case round =>
    obtain ⟨j, z, hj, rfl, rfl, rfl⟩ := hrel
    by_cases hlt : j < n
    · have hd1 : decide ((j : Int) < (n : Int)) = true := by rw [decide_eq_true_eq]; omega
      have hd2 : decide (j < n) = true := by rw [decide_eq_true_eq]; omega
      have hd3 : (j : Int) < (n : Int) := by omega
      have HLT := Lib.hid hlt
      clear hlt
      go_wp2_with fail
      refine (HS.out _).mono ?_
      rintro e w' ⟨rfl, rfl⟩
      go_wp2_with fail
      exact ⟨⟨j + 1, _, HLT.out, rfl, by go_num, trivial⟩, by have := HLT.out; simp [intOf]; omega⟩
    · have hd1 : decide ((j : Int) < (n : Int)) = false := by rw [decide_eq_false_iff_not]; omega
      have hd2 : decide (j < n) = false := by rw [decide_eq_false_iff_not]; omega
      clear hlt
      go_wp2_with fail
      go_ret
      exact ⟨_, rfl, rfl⟩
section
variable {wB w : World} {g o N : Nat} {l : List Ev} {nm : Nat → List NameK} {R : List Pc} {M : JM}
theorem wrong_no (h : At wB (jparts g o l M ++ R) w) (r : Int) : Calls Tryz.prog 29 #[.pointer (some ⟨M.h.T, 0, none⟩), .int .i64 r, .bool false] w fun e w' => e = .returned (.tuple #[]) ∧ At wB (jparts g o l M ++ R) w' :=
  (jwrong_any h r false).mono fun e w' ⟨h1, h2⟩ => ⟨h1, by
    have e : M.wr r false = M := by
      unfold JM.wr wrongZ
      rw [if_neg (by simp)]
    rw [e] at h2
    exact h2⟩
set_option maxHeartbeats 8000000 in
theorem chain_none (h : At wB (jparts g o l M ++ R) w) (hJ : JOk g o l N M) (hT : Tr wB g o l nm) (hl : l.length ≤ 5000) (hno : ∀ x ∈ l, x.kind ≠ 7) (n : Nat) (h0 : 0 < n) (hn : n ≤ 64) :
    Calls Tryz.prog 14 #[.pointer (some ⟨M.h.T, 0, none⟩), .int .i64 (n : Int)] w fun e w' => e = .returned (.slice none 0 0) ∧ At wB (jparts g o l M ++ R) w' := by
  have c0 := at0 (tcell h.own 0 (v := .slice M.h.la M.h.ll M.h.lc) rfl)
  rw [hJ.ll] at c0
  have HV := Lib.hid (views_none (hT.below h.bel) M.h.la hJ.la M.h.lc hl hno)
  have HW := Lib.hid (fun (W : World) (hb : Below w.heap.size w W) => wrong_no (h.below hb) 1)
  have HA := Lib.hid (fun W => setAll_any n h0 hn W)
  have hmm := @run_makeMap Tryz.prog
  obtain ⟨TT, hTT⟩ : ∃ T, T = M.h.T := ⟨_, rfl⟩
  rw [← hTT] at c0 HW ⊢
  clear h hJ hT hl hno hTT
  generalize l.length = ln at *
  generalize M.h.la = la at *
  generalize M.h.lc = lc at *
  go_enter Tryz.func14, Tryz.ntmps14
  go_wp2_with fail
  refine HV.out.mono ?_
  rintro e w1 ⟨rfl, hb1⟩
  have HW1 := Lib.hid (HW.out w1 hb1)
  clear hb1 HV HW c0
  go_wp2_with fail
  refine HW1.out.mono ?_
  rintro e w2 ⟨rfl, h2⟩
  have H2 := Lib.hid h2
  clear h2 HW1
  go_wp2_with fail
  refine (HA.out _).mono ?_
  rintro e w3 ⟨z, rfl, rfl⟩
  have H3 := Lib.hid (H2.out.below (ba (br w2) (.map #[] 0)))
  clear H2 HA
  go_wp2_with fail
  go_loopw [33] (fun i wr => i = .int .i64 0 ∧ Hid (At wB (jparts g o l M ++ R) wr)) (fun _ _ => 0)
  case atStart => exact ⟨rfl, H3⟩
  case round =>
    obtain ⟨rfl, HE⟩ := hrel
    clear H3
    go_wp2_with fail
    go_ret
    exact ⟨rfl, HE.out⟩
set_option maxHeartbeats 8000000 in
theorem survive_none (h : At wB (jparts g o l M ++ R) w) (hs : M.stays.length = 0) (v : Value) :
    Calls Tryz.prog 16 #[.pointer (some ⟨M.h.T, 0, none⟩), v] w fun e w' => e = .returned (.tuple #[]) ∧ At wB (jparts g o l M ++ R) w' := by
  have HC := Lib.hid (fun y : Bel w => tcell (h.below y.prop).own 1 (v := .slice M.sa M.stays.length M.sc) rfl ⟨y.val, br y.val⟩)
  have HE := Lib.hid (fun (W : World) (hb : Below w.heap.size w W) => h.below hb)
  rw [hs] at HC
  obtain ⟨TT, hTT⟩ : ∃ T, T = M.h.T := ⟨_, rfl⟩
  rw [← hTT] at HC ⊢
  have hmm := @run_makeMap Tryz.prog
  obtain ⟨w2, hw2⟩ : ∃ w2, w2 = (w.alloc (.map #[] 0)).alloc (.map #[] 0) := ⟨_, rfl⟩
  have hb2 : Below w.heap.size w w2 := by rw [hw2]; exact ba (ba (br w) _) _
  have c1 : w2.cell? ⟨TT, 1, none⟩ = some (.slice M.sa 0 M.sc) := HC.out ⟨w2, hb2⟩
  have HB := Lib.hid (HE.out w2 hb2)
  generalize M.sa = sa at *
  generalize M.sc = sc at *
  clear h hs hTT hb2 HC HE
  go_enter Tryz.func16, Tryz.ntmps16
  go_upto_region 2 with (fail)
  rw [← hw2]
  clear hw2 hmm
  go_wp2_with fail
  clear c1
  go_loopw [22] (fun i wr => i = .int .i64 0 ∧ Hid (At wB (jparts g o l M ++ R) wr)) (fun _ _ => 0)
  case atStart => exact ⟨rfl, HB⟩
  case round =>
    obtain ⟨rfl, HE⟩ := hrel
    clear HB
    go_wp2_with fail
    go_end0
    exact ⟨rfl, HE.out⟩
set_option maxRecDepth 100000 in
set_option maxHeartbeats 8000000 in
theorem cast_none (h : At wB (jparts g o l M ++ R) w) (hJ : JOk g o l N M) (hT : Tr wB g o l nm) (hl : l.length ≤ 5000) (hno : ∀ x ∈ l, x.kind = 9 → x.nl ≠ 1) :
    Calls Tryz.prog 15 #[.pointer (some ⟨M.h.T, 0, none⟩)] w fun e w' => e = .returned (.tuple #[]) ∧ At wB (jparts g o l M ++ R) w' := by
  obtain ⟨n, hn⟩ : ∃ n, n = l.length := ⟨_, rfl⟩
  obtain ⟨w1, hw1⟩ : ∃ w1, w1 = w.alloc (.map #[] 0) := ⟨_, rfl⟩
  have hb1 : Below w.heap.size w w1 := by rw [hw1]; exact ba (br w) _
  have c0 : w1.cell? ⟨M.h.T, 0, none⟩ = some (.slice M.h.la n M.h.lc) := by
    have := tcell (h.below hb1).own 0 (v := .slice M.h.la M.h.ll M.h.lc) rfl ⟨w1, br w1⟩
    rw [hJ.ll, ← hn] at this
    exact this
  have H0 := Lib.hid (h.below hb1)
  have HH := Lib.hid (And.intro hT (And.intro hJ.la (And.intro hno hn)))
  have hn9 : n ≤ 5000 := by rw [hn]; exact hl
  have hmm := @run_makeMap Tryz.prog
  obtain ⟨TT, hTT⟩ : ∃ T, T = M.h.T := ⟨_, rfl⟩
  obtain ⟨la, hla⟩ : ∃ T, T = M.h.la := ⟨_, rfl⟩
  obtain ⟨lc, hlc⟩ : ∃ T, T = M.h.lc := ⟨_, rfl⟩
  have HLA := Lib.hid hla
  rw [← hTT, ← hla, ← hlc] at c0
  rw [← hTT]
  clear h hJ hT hl hno hn hb1 hTT hla hlc
  go_enter Tryz.func15, Tryz.ntmps15
  go_upto_region 1 with (fail)
  rw [← hw1]
  clear hw1 hmm
  go_wp2_with fail
  clear c0
  go_loopw [17] (fun i wr => ∃ j : Nat, j ≤ n ∧ i = .int .i64 (j : Int) ∧ Hid (At wB (jparts g o l M ++ R) wr)) (fun i _ => n - (intOf i).toNat)
  case atStart => exact ⟨0, by omega, rfl, H0⟩
  case round =>
    obtain ⟨j, hj, rfl, HW⟩ := hrel
    by_cases hlt : j < n
    · have hd1 : decide ((j : Int) < (n : Int)) = true := by rw [decide_eq_true_eq]; omega
      have hd2 : decide (j < n) = true := by rw [decide_eq_true_eq]; omega
      have hd3 : (j : Int) < (n : Int) := by omega
      have hjl : j < l.length := by rw [← HH.out.2.2.2]; exact hlt
      obtain ⟨x, hx⟩ : ∃ x, l[j]? = some x := ⟨_, List.getElem?_eq_getElem hjl⟩
      have hTr := HH.out.1.below HW.out.bel
      have hr : wr.rangeAt g (o + j * 19) (evA x).toList := by
        have h := (hTr.ev j hjl).2.1
        rwa [show l[j] = x from by rw [List.getElem?_eq_getElem hjl] at hx; injection hx] at h
      have had : la = some ⟨g, o, none⟩ := HLA.out.trans (HH.out.2.1 (by omega))
      have hk9 := HH.out.2.2.1 x (List.mem_of_getElem? hx)
      obtain ⟨cx, hcx⟩ : ∃ cx, cx = evA x := ⟨_, rfl⟩
      rw [← hcx] at hr
      have y1 : cx.size = 19 := by rw [hcx]; rfl
      have p1 : cx.all (·.oneCell') = true := by rw [hcx]; simp [evA, Value.oneCell']
      have hc1 : cx.toList.toArray = cx := by simp
      obtain ⟨X, hX⟩ : ∃ X, X = wr.heap.size := ⟨_, rfl⟩
      have hz := heap_alloc_new wr (.cells zEv 36)
      have hbz := ba (br wr) (.cells zEv 36)
      rw [← hX] at hz
      obtain ⟨w2, hw2⟩ : ∃ w2, w2 = (wr.alloc (.cells zEv 36)).setRow X cx := ⟨_, rfl⟩
      have hb2 : Below wr.heap.size wr w2 := by rw [hw2]; exact (kept_setRow' (wr.alloc (.cells zEv 36)) X cx).out hbz hbz.size (fun k hk' e => by omega)
      have hx2 : w2.heap[X]? = some (.cells cx 36 (0, 0)) := by rw [hw2]; exact setRow_heap _ _ _ _ _ _ hz
      have HZ := Lib.hid (And.intro hz hX)
      have HG := Lib.hid (And.intro hr (And.intro y1 (And.intro p1 (And.intro hcx hlt))))
      have H2 := Lib.hid (HW.out.below hb2)
      rw [hcx] at hx2
      have e0 : w2.cell? ⟨X, 0, none⟩ = some (.int .i64 x.kind) := cell_of_row _ _ 0 _ _ _ hx2
      have e17 : w2.cell? ⟨X, 17, none⟩ = some (.slice x.na x.nl x.nc) := cell_of_row _ _ 17 _ _ _ hx2
      rw [had]
      clear hr hz hbz hX hx2 y1 p1 hcx hx hlt hjl hTr hb2 HW H0 had
      generalize x.kind = kd at *
      generalize x.nl = xn at *
      generalize x.na = xa at *
      generalize x.nc = xc at *
      unfold zEv at hw2 HZ
      go_upto_region 4 with (first
        | (with_reducible refine wpList_load_mid rfl 36 (.tmp 20) rfl g (o + j * 19) rfl cx.toList _ HG.out.1 Tryz.underlying36 rfl (by rw [Array.length_toList, HG.out.2.1]; kernel_rfl) ?_)
        | (refine wpList_store_row rfl 36 (.tmp 4) (.tmp 21) rfl X cx (by rw [HZ.out.2]; rfl) (by rw [← hc1]; rfl) 36 _ HZ.out.1 (by rw [HG.out.2.1]; kernel_rfl) (by rw [HG.out.2.1]; rfl) HG.out.2.2.1 ?_)
        | fail)
      rw [← hw2, ← HZ.out.2]
      clear hw2 hc1 HZ
      by_cases h9 : kd = 9
      · subst h9
        have hk := hk9 rfl
        have d1 : ((9 : Int) != 9) = false := by decide
        have d2 : ((xn : Int) != 1) = true := by rw [bne_iff_ne]; omega
        clear hk9
        go_wp2_with fail
        exact ⟨⟨j + 1, HG.out.2.2.2.2, by go_num, H2⟩, by have := HG.out.2.2.2.2; simp [intOf]; omega⟩
      · have d1 : (kd != 9) = true := by simpa using h9
        clear hk9 h9
        go_wp2_with fail
        exact ⟨⟨j + 1, HG.out.2.2.2.2, by go_num, H2⟩, by have := HG.out.2.2.2.2; simp [intOf]; omega⟩
    · have hd1 : decide ((j : Int) < (n : Int)) = false := by rw [decide_eq_false_iff_not]; omega
      have hd2 : decide (j < n) = false := by rw [decide_eq_false_iff_not]; omega
      have HE := HW
      clear HW H0 hlt
      go_wp2_with fail
      go_end0
      exact ⟨rfl, HE.out⟩
end
set_option maxHeartbeats 8000000 in
/-- of a trace without views: what was found while it was gone through -/
theorem views_any {wB w : World} {g o : Nat} {l : List Ev} {nm : Nat → List NameK} {R : List Pc} (h : At wB R w) (hT : Tr wB g o l nm) (ad : Option Addr) (had : 0 < l.length → ad = some ⟨g, o, none⟩) (cap : Nat) (hl : l.length ≤ 5000) (h7 : ∀ x ∈ l, x.kind ≠ 7) (h9 : ∀ x ∈ l, x.kind = 9 → x.nl ≠ 1) (hs : (thru l nm l.length).stays = []) (k : Nat) (k0 : 0 < k) (hk : k ≤ 64) :
    Calls Tryz.prog 8 #[.slice ad l.length cap, .int .i64 (k : Int)] w fun e w' => e = .returned (.int .i64 (thru l nm l.length).named) ∧ At wB R w' := by
  have HR := Lib.hid (through_any h hT ad had cap hl)
  have HT := Lib.hid (And.intro hT (And.intro hl (And.intro h7 (And.intro h9 hs))))
  obtain ⟨t, ht⟩ : ∃ t, t = thru l nm l.length := ⟨_, rfl⟩
  rw [← ht] at HT HR ⊢
  clear h hT had hl h7 h9 hs ht
  generalize hln : l.length = ln at *
  have HLN := Lib.hid hln
  clear hln
  go_enter Tryz.func8, Tryz.ntmps8
  go_wp2_with fail
  refine HR.out.mono ?_
  rintro e w1 ⟨H, rfl, M, hA, hJ, hP, hH⟩
  obtain ⟨TT, hTT⟩ : ∃ T, T = H.T := ⟨_, rfl⟩
  have hTM : M.h.T = TT := by rw [hTT, hH]
  have hst : M.stays.length = 0 := by
    have := congrArg (fun t : J => t.stays.length) hP
    simp only [projJ, List.length_map, HT.out.2.2.2.2, List.length_nil] at this
    exact this
  have hnam : M.named = t.named := congrArg J.named hP
  have HA := Lib.hid (chain_none hA hJ HT.out.1 (by rw [HLN.out]; exact HT.out.2.1) HT.out.2.2.1 k k0 hk)
  have HM := Lib.hid (And.intro hJ (And.intro hTM (And.intro hst hnam)))
  rw [hTM] at HA
  rw [← hTT]
  clear hA hJ hP hH hTT hTM hst hnam HR
  go_wp2_with fail
  refine HA.out.mono ?_
  rintro e w2 ⟨rfl, h2⟩
  have HC := Lib.hid (cast_none h2 HM.out.1 HT.out.1 (by rw [HLN.out]; exact HT.out.2.1) HT.out.2.2.2.1)
  rw [HM.out.2.1] at HC
  clear h2 HA
  go_wp2_with fail
  refine HC.out.mono ?_
  rintro e w3 ⟨rfl, h3⟩
  have HS := Lib.hid (survive_none h3 HM.out.2.2.1 (.slice none 0 0))
  rw [HM.out.2.1] at HS
  clear h3 HC
  go_wp2_with fail
  refine HS.out.mono ?_
  rintro e w4 ⟨rfl, h4⟩
  have c3 : w4.cell? ⟨TT, 3, none⟩ = some (.int .i64 t.named) := by
    have := tcell h4.own 3 (v := .int .i64 M.named) rfl ⟨w4, br w4⟩
    rw [HM.out.2.1, HM.out.2.2.2] at this
    exact this
  have HE := Lib.hid (show At wB R w4 from ⟨h4.own.sub (List.sublist_append_right _ _), h4.bel⟩)
  clear h4 HS
  go_wp2_with fail
  go_ret
  exact ⟨rfl, HE.out⟩
end Go.Proofs.YtogagkgkmoppmaaGreatDoor
namespace Go.Proofs.YtogagkgkmoppmaaGreatDoor
set_option linter.unusedVariables false
set_option linter.unusedSimpArgs false
open Go.RowKit GM
def zGotR : Array Value := #[.int .i64 0, .int .i64 0, .int .u32 0, .int .u64 0, .int .i64 0, .slice none 0 0, .string ⟨#[]⟩, .bool false]
def partN (l : List Ev) (L : List (Nat × Bool)) (b : Bool) (e : Nat) : List Msg := ((L.take e).filter fun g => g.2 == b).map (gotM l)
theorem partN_succ {l : List Ev} {L : List (Nat × Bool)} (b : Bool) {e : Nat} (he : e < L.length) : partN l L b (e + 1) = partN l L b e ++ (if (L[e].2 == b) = true then [gotM l L[e]] else []) := by
  unfold partN
  rw [List.take_succ_eq_append_getElem he, List.filter_append, List.map_append, List.filter_cons, List.filter_nil]
  split <;> rfl
theorem partN_le (l : List Ev) (L : List (Nat × Bool)) (b : Bool) (e : Nat) : (partN l L b e).length ≤ e := by
  unfold partN
  rw [List.length_map]
  exact Nat.le_trans (List.length_filter_le _ _) (List.length_take_le _ _)
theorem partN_mem {l : List Ev} {L : List (Nat × Bool)} {b : Bool} {e : Nat} {m : Msg} (h : m ∈ partN l L b e) : ∃ i, ∃ hi : i < L.length, m = gotM l L[i] := by
  unfold partN at h
  obtain ⟨g, hg, rfl⟩ := List.mem_map.1 h
  obtain ⟨i, hi, rfl⟩ := List.mem_iff_getElem.1 (List.mem_of_mem_take (List.mem_filter.1 hg).1)
  exact ⟨i, hi, rfl⟩
theorem rdM_own {w : World} {B : Nat} {ad : Option Addr} {cap : Nat} {l : List Msg} (h : w.ownsRow B 31 6 (.slice ad l.length cap) l.length (rowsM l)) (hl : l.length ≤ 1000000) (hm : ∀ m ∈ l, MsgR w m) : RdM w ad l := by
  refine ⟨by omega, fun i hi => ⟨hm _ (List.getElem_mem hi), ?_⟩⟩
  obtain ⟨g, c, hv, hg0, hg1⟩ := h.form (by omega)
  injection hv with e1 e2 e3
  refine ⟨g, 0, e1, hg1, fun j u hu => ?_⟩
  have := h.cells (g := g) (by rw [e1]; rfl) (i * 6 + j) u (rowsM_at l i hi j u hu)
  rwa [show (⟨g, 0, none⟩ : Addr).add (i * 6 + j) = ⟨g, 0 + i * 6 + j, none⟩ from by unfold Addr.add; split <;> simp_all] at this
set_option maxRecDepth 100000 in
set_option maxHeartbeats 16000000 in
theorem part_any {g o : Nat} {l : List Ev} (y : JX) (w : World) (b : Bool) (hst : w.heap[y.b]? = some (.cells (jsC g o y) 56 (0, 0))) (hrd : RdG w l y.ga y.s.gots) :
    Calls Tryz.prog 26 #[ptrV y.b, .bool b] w fun e w' => ∃ ad cap, (e = .returned (.slice ad (partJ l y.s b).length cap) ∧ RdM w' ad (partJ l y.s b)) ∧ Below w.heap.size w w' := by
  obtain ⟨q, hq⟩ : ∃ q, q = y.s.gots.length := ⟨_, rfl⟩
  have c4 : w.cell? ⟨y.b, 4, none⟩ = some (.slice y.ga q y.gc) := by rw [hq]; exact cell_of_row _ _ 4 _ _ _ hst
  have hq9 : q ≤ 1000000 := by rw [hq]; exact hrd.len
  have HR := Lib.hid (And.intro hrd hq)
  obtain ⟨i0, hi, hz0, hz1, hz2⟩ := info_parts info31
  unfold ptrV
  obtain ⟨yb, hyb⟩ : ∃ z, z = y.b := ⟨_, rfl⟩
  rw [← hyb] at c4 ⊢
  clear hst hrd hq hyb
  go_enter Tryz.func26, Tryz.ntmps26
  go_wp2_with fail
  clear c4
  go_loopw [5, 13] (fun u i wr => ∃ e : Nat, e ≤ q ∧ i = .int .i64 (e : Int) ∧ Hid (wr.ownsRow w.heap.size 31 6 u (partN l y.s.gots b e).length (rowsM (partN l y.s.gots b e)) ∧ Below w.heap.size w wr)) (fun _ i _ => q - (intOf i).toNat)
  case atStart => exact ⟨0, by omega, rfl, ⟨rfl, .inl ⟨rfl, rfl⟩⟩, br _⟩
  case round =>
    obtain ⟨e, he, rfl, HW⟩ := hrel
    by_cases heq : e < q
    · have hr1 : decide ((e : Int) < (q : Int)) = true := by rw [decide_eq_true_eq]; omega
      have hr2 : decide (e < q) = true := by rw [decide_eq_true_eq]; omega
      have hr3 : (e : Int) < (q : Int) := by omega
      obtain ⟨ho, hB⟩ := HW.out
      have hel : e < y.s.gots.length := by rw [← HR.out.2]; exact heq
      obtain ⟨hmr, g2, o2, hga, hg2, hrg⟩ := (HR.out.1.below hB).at_ e hel
      have hsucc := partN_succ (l := l) b hel
      obtain ⟨p, hp⟩ : ∃ p, p = y.s.gots[e] := ⟨_, rfl⟩
      rw [← hp] at hmr hrg hsucc
      clear hp
      obtain ⟨cg, hcg⟩ : ∃ c, c = (gotC l p).toArray := ⟨_, rfl⟩
      have y1 : cg.size = 8 := by rw [hcg]; rfl
      have p1 : cg.all (·.oneCell') = true := by rw [hcg]; simp [gotC, msgA, Value.oneCell']
      have hc1 : cg.toList.toArray = cg := by simp
      replace hrg : wr.rangeAt g2 (o2 + e * 8) cg.toList := by rw [hcg]; exact hrg
      obtain ⟨X, hX⟩ : ∃ X, X = wr.heap.size := ⟨_, rfl⟩
      have hz := heap_alloc_new wr (.cells zGotR 58)
      have hbz := ba (br wr) (.cells zGotR 58)
      rw [← hX] at hz
      obtain ⟨w3, hw3⟩ : ∃ w3, w3 = (wr.alloc (.cells zGotR 58)).setRow X cg := ⟨_, rfl⟩
      have hb3 : Below wr.heap.size wr w3 := by rw [hw3]; exact (kept_setRow' (wr.alloc (.cells zGotR 58)) X cg).out hbz hbz.size (fun k hk' e => by omega)
      have hx3 : w3.heap[X]? = some (.cells cg 58 (0, 0)) := by rw [hw3]; exact setRow_heap _ _ _ _ _ _ hz
      have ho3 := own_keptS ho (Kept.of_below hb3) (fun b e h => by have := (ho.lt b e).2; omega)
      obtain ⟨x, hx⟩ : ∃ x, x = gotM l p := ⟨_, rfl⟩
      have hcell : ∀ i v, (gotC l p)[i]? = some v → w3.cell? ⟨X, i, none⟩ = some v := fun i v h => (cell_of_row _ _ i _ _ _ hx3).trans (by rw [hcg]; simpa using h)
      have x1 : w3.cell? ⟨X, 1, none⟩ = some (.int .i64 x.frm) := by rw [hx]; exact hcell 1 _ rfl
      have x2 : w3.cell? ⟨X, 1 + 1, none⟩ = some (.int .u32 (x.seq : Int)) := by rw [hx]; exact hcell 2 _ rfl
      have x3 : w3.cell? ⟨X, 1 + 2, none⟩ = some (.int .u64 (x.stamp : Int)) := by rw [hx]; exact hcell 3 _ rfl
      have x4 : w3.cell? ⟨X, 1 + 3, none⟩ = some (.int .i64 x.service) := by rw [hx]; exact hcell 4 _ rfl
      have x5 : w3.cell? ⟨X, 1 + 4, none⟩ = some (.slice x.da x.ds.length x.dc) := by rw [hx]; exact hcell 5 _ rfl
      have x6 : w3.cell? ⟨X, 1 + 5, none⟩ = some (.string x.pay) := by rw [hx]; exact hcell 6 _ rfl
      have x7 : w3.cell? ⟨X, 7, none⟩ = some (.bool p.2) := hcell 7 _ rfl
      have HZ := Lib.hid (And.intro hz hX)
      have HG := Lib.hid (And.intro hrg (And.intro y1 p1))
      have hB3 := bt hB hb3
      rw [← hx] at hsucc
      have HK := Lib.hid (And.intro ho3 (And.intro hB3 (And.intro hsucc (And.intro heq (partN_le l y.s.gots b e)))))
      rw [hga]
      clear hmr hg2 hrg hcg y1 p1 hX hz hbz hb3 hx3 ho3 hcell hB3 hsucc hel ho hB HW heq hx
      unfold zGotR at hw3 HZ
      go_upto_region 5 with (first
        | (with_reducible refine wpList_load_mid rfl 58 (.tmp 15) rfl g2 (o2 + e * 8) rfl cg.toList _ HG.out.1 Tryz.underlying58 rfl (by rw [Array.length_toList, HG.out.2.1]; kernel_rfl) ?_)
        | (refine wpList_store_row rfl 58 (.tmp 7) (.tmp 16) rfl X cg (by rw [HZ.out.2]; rfl) (by rw [← hc1]; rfl) 58 _ HZ.out.1 (by rw [HG.out.2.1]; kernel_rfl) (by rw [HG.out.2.1]; rfl) HG.out.2.2 ?_)
        | fail)
      rw [← hw3, ← HZ.out.2]
      clear hw3 hc1 HZ
      simp only [Act.put]
      obtain ⟨k, hk⟩ : ∃ k, k = (partN l y.s.gots b e).length := ⟨_, rfl⟩
      have HKK := Lib.hid hk
      cases hpb : (p.2 == b)
      · have HE := Lib.hid (show partN l y.s.gots b (e + 1) = partN l y.s.gots b e from by rw [HK.out.2.2.1, hpb]; simp)
        clear hk x1 x2 x3 x4 x5 x6
        generalize p.2 = pb at *
        go_wp2_with fail
        refine ⟨⟨e + 1, by have := HK.out.2.2.2.1; omega, by go_num, ?_⟩, by have := HK.out.2.2.2.1; simp [intOf]; omega⟩
        rw [HE.out]
        exact ⟨HK.out.1, HK.out.2.1⟩
      · have HE := Lib.hid (show partN l y.s.gots b (e + 1) = partN l y.s.gots b e ++ [x] from by rw [HK.out.2.2.1, hpb]; rfl)
        have ho := HK.out.1
        rw [← hk] at ho
        have HO := Lib.hid ho
        have hk9 : k ≤ 1000000 := by have := HK.out.2.2.2; omega
        clear hk ho
        generalize p.2 = pb at *
        have hsz3 : w.heap.size ≤ w3.heap.size := HK.out.2.1.size
        go_wp2_with (first
          | (at_builtin; refine wpList_append_any _ rfl (.tmp 21) (.tmp 24) 39 rfl w.heap.size 31 i0 _ 6 72 Tryz.underlying39 hi hz0 hz1 hz2 rfl (by decide) _ k _ rfl (HO.out.alloc _) (w3.heap.size + 1) (some ⟨w3.heap.size, 0, none⟩) 1 1 (msgA x).toList rfl (reads_new w3 x) (msgA_one x) (by unfold maxLen; omega) (by omega) (by simp; omega) ?_)
          | fail)
        intro v6 w6 ho6 hg6 hu6
        have hb6 : Below w.heap.size w w6 := grownB (ba HK.out.2.1 _) (ba HK.out.2.1 _).size hg6 (fun b hb => (HO.out.lt b hb).1)
        have ho6' : w6.ownsRow w.heap.size 31 6 v6 (partN l y.s.gots b (e + 1)).length (rowsM (partN l y.s.gots b (e + 1))) := by
          rw [HE.out, rowsM_snoc, List.length_append, List.length_singleton, ← HKK.out]
          exact ho6
        have HF := Lib.hid (And.intro ho6' hb6)
        clear ho6 ho6' hg6 hu6 hb6 x1 x2 x3 x4 x5 x6 x7 hsz3
        go_wp2_with fail
        exact ⟨⟨e + 1, by have := HK.out.2.2.2.1; omega, by go_num, HF.out⟩, by have := HK.out.2.2.2.1; simp [intOf]; omega⟩
    · have hr1 : decide ((e : Int) < (q : Int)) = false := by simpa using heq
      have hr2 : decide (e < q) = false := by simpa using heq
      have hpj : partN l y.s.gots b e = partJ l y.s b := by
        unfold partN partJ
        rw [List.take_of_length_le (by rw [← HR.out.2]; omega)]
      obtain ⟨ho, hB⟩ := HW.out
      have hle := partN_le l y.s.gots b e
      rw [hpj] at ho hle
      have hms : ∀ m ∈ partJ l y.s b, MsgR wr m := fun m hm => by
        rw [← hpj] at hm
        obtain ⟨i, hi, rfl⟩ := partN_mem hm
        exact ((HR.out.1.below hB).at_ i hi).1
      have HE : Hid (∃ ad cap, (Ending.returned u5 = Ending.returned (.slice ad (partJ l y.s b).length cap) ∧ RdM wr ad (partJ l y.s b)) ∧ Below w.heap.size w wr) := by
        obtain ⟨ad, cap, rfl⟩ := ownForm ho
        exact ⟨ad, cap, ⟨rfl, rdM_own ho (by omega) hms⟩, hB⟩
      clear hpj ho hB hle hms HW
      go_wp2_with fail
      go_ret
      exact HE.out
end Go.Proofs.YtogagkgkmoppmaaGreatDoor
