/-
  The judge: an event of views.
  Conditions: those that each theorem names.
-/
import Derived.Test.YtogagkgkmoppmaaJuJ
namespace Go.Proofs.Ytogagkgkmoppmaa
set_option linter.unusedVariables false
set_option linter.unusedSimpArgs false
open Go.RowKit GM
def vwX (y : JX) (i : Nat) : JX := { y with s := { y.s with vw := some i, va := i, rd := none, out := false } }
def viewTo (t : J) (i : Nat) (s : Option Nat) : J := match s with
  | none => t
  | some k => match t.stays[k]? with
    | none => t
    | some o => t.setS k { o with vw := some i, va := i, rd := none, out := false }
theorem upper_view (l : List Ev) (nm : Nat → List NameK) (t : J) (i : Nat) (x : Ev) (s : Option Nat) (h : x.kind = 7) : t.upper l nm i x s = viewTo t i s := by
  unfold J.upper viewTo
  rw [if_pos h]
  cases s with
  | none => rfl
  | some k =>
    simp only
    cases t.stays[k]? <;> rfl
theorem setCell_lt {w : World} {p : Addr} {v : Value} {b : Nat} {cs : Array Value} {t : TypeId} {fr : Nat × Nat} (h : w.heap[b]? = some (.cells cs t fr)) : b < w.heap.size := (Array.getElem?_eq_some_iff.1 h).1
set_option maxRecDepth 100000 in
set_option maxHeartbeats 16000000 in
theorem upper_any {wB w : World} {g o n : Nat} {l : List Ev} {nm : Nat → List NameK} {M : JM} {R : List Pc} (h : At wB (jparts g o l M ++ R) w) (hT : Tr wB g o l nm) (hJ : JOk g o l n M) (hn : n ≤ 5000) (i : Nat) (x : Ev) (hx : l[i]? = some x) (s : Option Nat) (hs : ∀ k, s = some k → k < M.stays.length) :
    Calls Try.prog 43 #[.pointer (some ⟨M.h.T, 0, none⟩), .int .i64 (i : Int), .pointer (some ⟨g, o + i * 19, none⟩), sV M s] w fun e w' => e = .returned (.tuple #[]) ∧ JTo wB g o l R (n + 1) M.h ((projJ M).upper l nm i x s) w' := by
  have hTw := hT.below h.bel
  obtain ⟨kd, hkd⟩ : ∃ kd, kd = x.kind := ⟨_, rfl⟩
  have e0 : w.cell? ⟨g, o + i * 19, none⟩ = some (.int .i64 kd) := by rw [hkd]; exact hTw.cell hx 0 (v := .int .i64 x.kind) rfl ⟨w, br w⟩
  obtain ⟨tE, htE⟩ : ∃ t, t = (projJ M).upper l nm i x s := ⟨_, rfl⟩
  have hMN := mine_any h hT hJ hn i x hx s hs
  have hNone : JTo wB g o l R (n + 1) M.h (projJ M) w := ⟨M, h, hJ.more (Nat.le_succ n), rfl, rfl⟩
  rw [← htE]
  obtain ⟨TT, hTT⟩ : ∃ T, T = M.h.T := ⟨_, rfl⟩
  rw [← hTT] at hMN ⊢
  by_cases k7 : kd = 7
  · have htE2 : tE = viewTo (projJ M) i s := by rw [htE]; exact upper_view l nm _ i x s (hkd.symm.trans k7)
    cases s with
    | none =>
      have HE := Lib.hid (show JTo wB g o l R (n + 1) M.h tE w from by rw [htE2]; exact hNone)
      show Calls Try.prog 43 #[.pointer (some ⟨TT, 0, none⟩), .int .i64 (i : Int), .pointer (some ⟨g, o + i * 19, none⟩), .pointer none] w _
      subst k7
      clear hkd htE htE2 hMN hNone hTT hTw h hT hJ hs hx hn
      go_enter Try.func43, Try.ntmps43
      go_wp2_with fail
      go_end0
      exact ⟨rfl, HE.out⟩
    | some k =>
      have hk := hs k rfl
      show Calls Try.prog 43 #[.pointer (some ⟨TT, 0, none⟩), .int .i64 (i : Int), .pointer (some ⟨g, o + i * 19, none⟩), nthJ M.stays k] w _
      rw [nthJ_at hk]
      simp only [viewTo, proj_at hk] at htE2
      obtain ⟨y, hy⟩ : ∃ y, y = M.stays[k] := ⟨_, rfl⟩
      have hym : y ∈ M.stays := hy ▸ List.getElem_mem hk
      rw [← hy] at htE2 ⊢
      have hst := jown_st h.own hym
      have hil : i < l.length := (List.getElem?_eq_some_iff.1 hx).1
      obtain ⟨yb, hyb⟩ : ∃ b, b = y.b := ⟨_, rfl⟩
      unfold ptrV
      rw [← hyb] at hst ⊢
      have h6 := setCell_block hst 6 (.pointer (some ⟨g, o + i * 19, none⟩))
      have h7 := setCell_block h6 7 (.pointer (some ⟨g, o + i * 19, none⟩))
      have g7 := setCell_block hst 7 (.pointer (some ⟨g, o + i * 19, none⟩))
      have g8 := setCell_block g7 8 (.int .i64 (i : Int))
      have g9 := setCell_block g8 9 (.pointer none)
      have g11 := setCell_block g9 11 (.bool false)
      have HE := Lib.hid (show JTo wB g o l R (n + 1) M.h tE ((((w.setCell ⟨yb, 7, none⟩ (.pointer (some ⟨g, o + i * 19, none⟩))).setCell ⟨yb, 8, none⟩ (.int .i64 (i : Int))).setCell ⟨yb, 9, none⟩ (.pointer none)).setCell ⟨yb, 11, none⟩ (.bool false)) from by
        rw [htE2]
        refine ⟨M.setS k (vwX y i), jown_cell h hk (by rw [← hy]; rfl) (by rw [← hy]; rfl) (by rw [← hy]; rfl) ?_ ?_, (hJ.more (Nat.le_succ n)).setS hk (by rw [← hy]; rfl) ?_, ?_, rfl⟩
        · show Kept (fun b => b = y.b) _ _
          rw [← hyb]
          exact (((keptS w ⟨yb, 7, none⟩ _).trans (keptS _ ⟨yb, 8, none⟩ _)).trans (keptS _ ⟨yb, 9, none⟩ _)).trans (keptS _ ⟨yb, 11, none⟩ _)
        · show (World.setCell _ _ _).heap[y.b]? = _
          rw [← hyb]
          exact g11.trans rfl
        · have hx := (hJ.more (Nat.le_succ n)).st y hym
          exact ⟨hx.bf, hx.tr, hx.nx, fun e he => by injection he with he; rw [← he]; exact hil, fun e he => (by cases he), hx.gots, hx.ups, hx.gl, hx.ul⟩
        · rw [projJ_setS]
          rfl)
      have c7 : w.cell? ⟨yb, 7, none⟩ = some (evP g o y.s.vw) := cell_of_row _ _ 7 _ _ _ hst
      have f7 : w.frozen? ⟨yb, 7, none⟩ = false := frozen_of_row _ _ _ _ _ hst
      have c8 : w.cell? ⟨yb, 8, none⟩ = some (.int .i64 (y.s.va : Int)) := cell_of_row _ _ 8 _ _ _ hst
      have f8 : w.frozen? ⟨yb, 8, none⟩ = false := frozen_of_row _ _ _ _ _ hst
      have c9 : w.cell? ⟨yb, 9, none⟩ = some (evP g o y.s.rd) := cell_of_row _ _ 9 _ _ _ hst
      have f9 : w.frozen? ⟨yb, 9, none⟩ = false := frozen_of_row _ _ _ _ _ hst
      have c11 : w.cell? ⟨yb, 11, none⟩ = some (.bool y.s.out) := cell_of_row _ _ 11 _ _ _ hst
      have f11 : w.frozen? ⟨yb, 11, none⟩ = false := frozen_of_row _ _ _ _ _ hst
      subst k7
      clear hkd htE htE2 hMN hNone hTT hTw h hT hJ hs hx hn hy hym hyb hil h6 h7 g7 g8 g9 g11 hst
      generalize evP g o y.s.vw = z7 at *
      generalize evP g o y.s.rd = z9 at *
      generalize y.s.out = z11 at *
      generalize (y.s.va : Int) = z8 at *
      go_enter Try.func43, Try.ntmps43
      go_wp2_with fail
      go_end0
      exact ⟨rfl, HE.out⟩
  have d7 : (kd == 7) = false := by simpa using k7
  by_cases km : kd = 11 ∨ kd = 8 ∨ kd = 9 ∨ kd = 10 ∨ kd = 12
  · have htE2 : tE = (projJ M).mine l nm i x s := by
      rw [htE]
      unfold J.upper
      rw [if_neg (fun hh => k7 (hkd.trans hh)), if_pos (by rw [← hkd]; exact km)]
    rw [← htE2] at hMN
    have HMN := Lib.hid hMN
    clear hkd htE htE2 hMN hNone hTT hTw h hT hJ hs hx hn k7
    generalize sV M s = SV at *
    rcases km with rfl | rfl | rfl | rfl | rfl
    all_goals
      go_enter Try.func43, Try.ntmps43
      go_wp2_with fail
      refine HMN.out.mono ?_
      rintro e w2 ⟨rfl, hE⟩
      have HE := Lib.hid hE
      clear hE HMN e0
      go_wp2_with fail
      go_end0
      exact ⟨rfl, HE.out⟩
  · have HE := Lib.hid (show JTo wB g o l R (n + 1) M.h tE w from by
      rw [htE]
      unfold J.upper
      rw [if_neg (fun hh => k7 (hkd.trans hh)), if_neg (by rw [← hkd]; exact km)]
      exact hNone)
    have d11 : (kd == 11) = false := by simp; omega
    have d8 : (kd == 8) = false := by simp; omega
    have d9 : (kd == 9) = false := by simp; omega
    have d10 : (kd == 10) = false := by simp; omega
    have d12 : (kd == 12) = false := by simp; omega
    clear hkd htE hMN hNone hTT hTw h hT hJ hs hx hn k7 km
    generalize sV M s = SV at *
    go_enter Try.func43, Try.ntmps43
    go_wp2_with fail
    go_end0
    exact ⟨rfl, HE.out⟩
end Go.Proofs.Ytogagkgkmoppmaa
