/-
  The judge: a rule is broken.
  Conditions: those that each theorem names.
-/
import Derived.Test.YtogagkgkmoppmaaJuB
namespace Go.Proofs.Ytogagkgkmoppmaa
set_option linter.unusedVariables false
set_option linter.unusedSimpArgs false
open Go.RowKit GM
theorem At.bad {wB w w' : World} {g o : Nat} {l : List Ev} {M : JM} {R : List Pc} (h : At wB (jparts g o l M ++ R) w) (r : Int) (hg : GMap intV w' M.h.bb (put (vals boolV M.bad) r (.bool true))) (hgr : w.grownBy w' (some M.h.bb)) : At wB (jparts g o l (M.br r true) ++ R) w' := by
  refine h.one (w' := w') 1 (p := jBad M) (jBad (M.br r true)) rfl ((Kept.of_grown hgr).more fun k _ e => by rw [e]; rfl) ?_ (fun b e => .inl e)
  show GMap intV w' M.h.bb (vals boolV (put M.bad r true))
  rw [← put_vals]
  exact hg
set_option maxHeartbeats 2000000 in
theorem jbreaks_any {wB w : World} {g o : Nat} {l : List Ev} {M : JM} {R : List Pc} (h : At wB (jparts g o l M ++ R) w) (r : Int) (b : Bool) :
    Calls Try.prog 45 #[.pointer (some ⟨M.h.T, 0, none⟩), .int .i64 r, .bool b] w fun e w' => e = .returned (.tuple #[]) ∧ At wB (jparts g o l (M.br r b) ++ R) w' := by
  have HH := Lib.hid h
  have c2 := at0 (tcell h.own 2 (v := .map (some M.h.bb)) rfl)
  clear h
  cases b
  · go_enter Try.func45, Try.ntmps45
    go_wp2
    go_end0
    exact ⟨rfl, HH.out⟩
  · obtain ⟨w', hrun, hg, hgr, hsz⟩ := (jown_bad HH.out.own).update (P := Try.prog) Try.underlying51 intLaw r (.bool true)
    have hrun : (Instr.mapUpdate 51 (.map (some M.h.bb)) (.int .i64 r) (.bool true)).run Try.prog w = .ok () w' := hrun
    have HE := Lib.hid (HH.out.bad r hg hgr)
    clear hg hgr hsz
    go_enter Try.func45, Try.ntmps45
    go_wp2
    go_end0
    exact ⟨rfl, HE.out⟩
theorem wrongC (M : JM) (r : Int) (b : Bool) : (trC M).setIfInBounds 3 (.int .i64 (wrongZ r M.named b)) = trC (M.wr r b) := rfl
set_option maxHeartbeats 4000000 in
theorem jwrong_any {wB w : World} {g o : Nat} {l : List Ev} {M : JM} {R : List Pc} (h : At wB (jparts g o l M ++ R) w) (r : Int) (b : Bool) :
    Calls Try.prog 65 #[.pointer (some ⟨M.h.T, 0, none⟩), .int .i64 r, .bool b] w fun e w' => e = .returned (.tuple #[]) ∧ At wB (jparts g o l (M.wr r b) ++ R) w' := by
  have c3 := at0 (tcell h.own 3 (v := .int .i64 M.named) rfl)
  have f3 : w.frozen? ⟨M.h.T, 3, none⟩ = false := frozen_of_row _ _ _ _ _ (jown_tr h.own)
  have hz : ∀ z, w.setCell ⟨M.h.T, 3, none⟩ (.int .i64 z) = w.setCell ⟨M.h.T, 3, none⟩ (.int .i64 z) := fun _ => rfl
  have hS : ∀ z, z = wrongZ r M.named b → At wB (jparts g o l (M.wr r b) ++ R) (w.setCell ⟨M.h.T, 3, none⟩ (.int .i64 z)) := fun z e => by
    refine h.one 0 (p := jTr M) (jTr (M.wr r b)) rfl ((keptS w ⟨M.h.T, 3, none⟩ _).more fun k _ e => by rw [e]; rfl) ?_ (fun b e => .inl e)
    show (w.setCell ⟨M.h.T, 3, none⟩ (.int .i64 z)).heap[M.h.T]? = some (.cells (trC (M.wr r b)) 80 (0, 0))
    rw [setCell_block (jown_tr h.own) 3 _, e, wrongC]
  have hN : wrongZ r M.named b = M.named → M.wr r b = M := fun e => by
    unfold JM.wr
    rw [e]
  have HH := Lib.hid (And.intro h (And.intro hS hN))
  obtain ⟨z, hzz⟩ : ∃ z, z = M.named := ⟨_, rfl⟩
  rw [← hzz] at c3
  have HZ := Lib.hid hzz
  clear h hS hN hzz hz
  cases b
  · have HE := Lib.hid (show At wB (jparts g o l (M.wr r false) ++ R) w from by rw [HH.out.2.2 (by unfold wrongZ; rw [if_neg (by simp)])]; exact HH.out.1)
    clear HH
    go_enter Try.func65, Try.ntmps65
    go_wp2
    go_end0
    exact ⟨rfl, HE.out⟩
  · by_cases h0 : z = 0
    · subst h0
      have HE := Lib.hid (HH.out.2.1 r (by unfold wrongZ; rw [if_pos ⟨rfl, .inl HZ.out.symm⟩]))
      clear HH HZ
      go_enter Try.func65, Try.ntmps65
      go_wp2
      go_end0
      exact ⟨rfl, HE.out⟩
    · have d0 : (z == 0) = false := by simpa using h0
      by_cases h1 : r < z
      · have d1 : decide (r < z) = true := by simpa using h1
        have HE := Lib.hid (HH.out.2.1 r (by unfold wrongZ; rw [if_pos ⟨rfl, .inr (by rw [← HZ.out]; exact h1)⟩]))
        clear HH HZ h0 h1
        go_enter Try.func65, Try.ntmps65
        go_wp2
        go_end0
        exact ⟨rfl, HE.out⟩
      · have d1 : decide (r < z) = false := by simpa using h1
        have HE := Lib.hid (show At wB (jparts g o l (M.wr r true) ++ R) w from by
          rw [HH.out.2.2 (by
            unfold wrongZ
            rw [if_neg]
            rintro ⟨_, e | e⟩
            · exact h0 (HZ.out.trans e)
            · exact h1 (by rw [HZ.out]; exact e))]
          exact HH.out.1)
        clear HH HZ h0 h1
        go_enter Try.func65, Try.ntmps65
        go_wp2
        go_end0
        exact ⟨rfl, HE.out⟩
end Go.Proofs.Ytogagkgkmoppmaa
