/-
  EvRegular, in plain.
  Conditions: those that each theorem names.
-/
import Derived.Test.YtogagkgkmoppmaaMonR
import Derived.Test.YtogagkgkmoppmaaMonT
namespace Go.Proofs.Ytogagkgkmoppmaa
set_option linter.unusedVariables false
set_option linter.unusedSimpArgs false
open Go.RowKit GM
def newP (x : Ev) : PS := ⟨x.proc, conf x, x.mem, [], [], fun _ => 0, none, false⟩
def ptell (P : PM) (x : Ev) : PM := { P with mems := fun c => if c = conf x then some x.mem else P.mems c }
def pregMid (P : PM) (x : Ev) (z : Int) : PM := match P.now x.proc with
  | none => { P with broken := z }
  | some k => match P.stays[k]? with
    | none => { P with broken := z }
    | some o => pclose { P with broken := wayZ x o z } k
def ptoldB (P : PM) (x : Ev) : Bool := match P.mems (conf x) with
  | some n => !(n == x.mem)
  | none => false
def pregular (P : PM) (x : Ev) : PM :=
  { pregMid (ptell P x) x (dupZ x P.stays (brk 1 (brk 1 P.broken (!P.live x.proc || !hasB x.mem x.proc)) (ptoldB P x))) with
    now := fun p => if p = x.proc then some P.stays.length else P.now p
    stays := (pregMid (ptell P x) x (dupZ x P.stays (brk 1 (brk 1 P.broken (!P.live x.proc || !hasB x.mem x.proc)) (ptoldB P x)))).stays ++ [newP x] }
theorem proj_tell (M : MM) (x : Ev) : proj (M.tell x) = ptell (proj M) x := by
  unfold ptell
  have h : (proj (M.tell x)).mems = fun c => if c = conf x then some x.mem else (proj M).mems c := by
    funext c
    show get (put M.mems (conf x) x.mem) c = _
    rw [get_put]
    rfl
  rw [← h]
  rfl
theorem proj_regMid (M : MM) (x : Ev) (z : Int) : proj (regMid M x z) = pregMid (proj M) x z := by
  unfold regMid pregMid
  show _ = match get M.now x.proc with
    | none => { proj M with broken := z }
    | some k => match (proj M).stays[k]? with
      | none => { proj M with broken := z }
      | some o => pclose { proj M with broken := wayZ x o z } k
  cases get M.now x.proc with
  | none => rfl
  | some k =>
    simp only
    cases ho : (proj M).stays[k]? with
    | none => rfl
    | some o =>
      have hk : k < M.stays.length := by
        have := (List.getElem?_eq_some_iff.1 ho).1
        simpa [proj] using this
      simp only [goneM]
      rw [dif_pos hk]
      exact proj_close (M.bz (wayZ x o z)) k hk
theorem pregMid_len (P : PM) (x : Ev) (z : Int) : (pregMid P x z).stays.length = P.stays.length ∧ (pregMid P x z).now = P.now := by
  unfold pregMid
  split
  · exact ⟨rfl, rfl⟩
  · split
    · exact ⟨rfl, rfl⟩
    · unfold pclose
      split
      · exact ⟨rfl, rfl⟩
      · exact ⟨by simp, rfl⟩
theorem proj_fin (M : MM) (s : SX) (x : Ev) (sa : Option Addr) (sc : Nat) (hs : projS s = newP x) (p : Int) : proj (finM M s p sa sc) = { proj M with now := fun q => if q = p then some (proj M).stays.length else (proj M).now q, stays := (proj M).stays ++ [newP x] } := by
  have h1 : (proj (finM M s p sa sc)).now = fun q => if q = p then some (proj M).stays.length else (proj M).now q := by
    funext q
    show get (put M.now p M.stays.length) q = _
    rw [get_put]
    simp [proj]
  have h2 : (proj (finM M s p sa sc)).stays = (proj M).stays ++ [newP x] := by
    simp [proj, finM, hs]
  rw [← h1, ← h2]
  rfl
theorem proj_reg (M : MM) (x : Ev) (S C : Nat) (sa : Option Addr) (sc : Nat) : proj (finM (regM M x) (newS S C x) x.proc sa sc) = pregular (proj M) x := by
  rw [proj_fin _ _ x _ _ rfl]
  unfold regM pregular
  have h0 : toldB M.mems x = ptoldB (proj M) x := rfl
  rw [proj_regMid, proj_tell, h0]
  have h1 := pregMid_len (ptell (proj M) x) x (dupZ x (proj M).stays (brk 1 (brk 1 M.c.broken (!(get M.live x.proc).getD false || !hasB x.mem x.proc)) (ptoldB (proj M) x)))
  rw [h1.1, h1.2]
  rfl
theorem regMid_sz {n : Nat} {M : MM} (h : Sz n M) (x : Ev) (z : Int) : Sz n (regMid M x z) := by
  unfold regMid goneM
  split
  · exact ⟨h.stays, h.rows, h.cnt, h.sent⟩
  · split
    · exact ⟨h.stays, h.rows, h.cnt, h.sent⟩
    · split
      · next k _ _ _ _ hk =>
        refine ⟨by simpa [MM.bz, MM.setS] using h.stays, fun y hy => ?_, fun y hy => ?_, h.sent⟩
        · rcases List.mem_or_eq_of_mem_set hy with hy | rfl
          · exact h.rows y hy
          · exact h.rows M.stays[k] (List.getElem_mem hk)
        · rcases List.mem_or_eq_of_mem_set hy with hy | rfl
          · exact h.cnt y hy
          · exact h.cnt M.stays[k] (List.getElem_mem hk)
      · exact ⟨h.stays, h.rows, h.cnt, h.sent⟩
theorem fin_sz {n : Nat} {M : MM} (h : Sz n M) (S C : Nat) (x : Ev) (p : Int) (sa : Option Addr) (sc : Nat) : Sz (n + 1) (finM M (newS S C x) p sa sc) := by
  have h' := h.more (Nat.le_succ n)
  refine ⟨by have := h.stays; simp [finM]; omega, fun y hy => ?_, fun y hy => ?_, h'.sent⟩
  · rcases List.mem_append.1 hy with hy | hy
    · exact h'.rows y hy
    · rw [List.mem_singleton.1 hy]
      exact ⟨Nat.zero_le _, Nat.zero_le _⟩
  · rcases List.mem_append.1 hy with hy | hy
    · exact h'.cnt y hy
    · rw [List.mem_singleton.1 hy]
      intro i
      show 0 ≤ (0 : Int) ∧ (0 : Int) ≤ ((n + 1 : Nat) : Int)
      omega
theorem regular_res (w : World) (B b0 n : Nat) (M : MM) (R : List Pc) (hO : Own w b0 (parts B M ++ R)) (hM : MOk M) (hb0 : b0 ≤ w.heap.size) (hS : Sz n M) (hn : n ≤ 9999) (x : Ev) :
    Calls Try.prog 16 #[.pointer (some ⟨B, 0, none⟩), .agg (evA x)] w fun e w' => e = .returned (.tuple #[]) ∧ Res w B b0 R (pregular (proj M) x) (n + 1) w' :=
  (regular_any w B b0 M R hO hM hb0 (fun y hy => ⟨by have := (hS.rows y hy).1; omega, by have := (hS.rows y hy).2; omega⟩) (by have := hS.stays; omega) x).mono fun e w' ⟨h1, S, C, sa, sc, h2⟩ => by
    refine ⟨h1, _, h2, finM_ok ?_ _ _ _ _, fin_sz ?_ _ _ _ _ _ _, proj_reg M x S C sa sc⟩
    · have h := regMid_keep (M.tell x) x (dupZ x (proj M).stays (brk 1 (brk 1 M.c.broken (!(get M.live x.proc).getD false || !hasB x.mem x.proc)) (toldB M.mems x)))
      exact ⟨h.2.2.trans (hM.n.trans h.2.1.symm), fun p hp => by
        rw [show (regM M x).stays.length = M.stays.length from h.2.1]
        exact hM.now p ((h.1 : (regM M x).now = M.now) ▸ hp)⟩
    · exact regMid_sz (M := M.tell x) ⟨hS.stays, hS.rows, hS.cnt, hS.sent⟩ _ _
end Go.Proofs.Ytogagkgkmoppmaa
