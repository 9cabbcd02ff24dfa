/-
  What the reference's whole, and both newest, return.
  Conditions: a slot has at most 1000000 bytes.
-/
import Derived.Test.YtchonlodehogpaaDiskA
namespace Go.Proofs.Ytchonlodehogpaa
set_option linter.unusedVariables false
open Go.RowKit
def rN (s : ByteArray) : Nat := if wOk s = true then wNum s else 0
def rT (s : ByteArray) : ByteArray := if wOk s = true then wTxt s else ⟨#[]⟩
set_option maxHeartbeats 1000000 in
theorem refwhole_any (s : ByteArray) (w : World) (hs : s.size ≤ 1000000) :
    Calls Try.prog 61 #[.string s] w fun e w' => e = .returned (.tuple #[.int .u64 (rN s : Int), .string (rT s), .bool (wOk s)]) ∧ Below w.heap.size w w' := by
  have hoz := openS_size s 1000000 hs
  cases hg : goodB s
  · have e1 : wOk s = false := by simp [wOk, wTop, hg]
    have e2 : rN s = 0 := by simp [rN, e1]
    have e3 : rT s = ⟨#[]⟩ := by simp [rT, e1]
    rw [e1, e2, e3]
    clear e1 e2 e3
    go_enter Try.func61, Try.ntmps61
    go_wp2_with fail
    refine (refOpen_any _ _ (by omega)).mono ?_
    rintro e w1 ⟨rfl, hb1⟩
    go_wp2
    refine bodyPost_ret (v := .tuple #[.int .u64 0, .string ⟨#[]⟩, .bool false]) (by simp [results, Try.results61, go_sem]) rfl ⟨rfl, hb1⟩
  by_cases h10 : (openS s).size < 10
  · have ht : wTop s = false := by simp [wTop, hg]; omega
    have e1 : wOk s = false := by simp [wOk, ht]
    have e2 : rN s = 0 := by simp [rN, e1]
    have e3 : rT s = ⟨#[]⟩ := by simp [rT, e1]
    rw [e1, e2, e3]
    clear e1 e2 e3 ht
    have d1 : decide (((openS s).size : Int) < 10) = true := by simp; omega
    go_enter Try.func61, Try.ntmps61
    go_wp2_with fail
    refine (refOpen_any _ _ (by omega)).mono ?_
    rintro e w1 ⟨rfl, hb1⟩
    go_wp2
    refine bodyPost_ret (v := .tuple #[.int .u64 0, .string ⟨#[]⟩, .bool false]) (by simp [results, Try.results61, go_sem]) rfl ⟨rfl, hb1⟩
  have ht : wTop s = true := by simp [wTop, hg]; omega
  have e1 : wOk s = decide ((openS s).size = 10 + valB ((openS s).extract 8 10)) := by simp [wOk, ht]
  have e2 : wNum s = valB ((openS s).extract 0 (0 + 8)) := rfl
  have e3 : wTxt s = (openS s).extract 10 (openS s).size := rfl
  unfold rN rT
  rw [e1, e2, e3]
  clear e1 e2 e3 ht
  have d1 : decide (((openS s).size : Int) < 10) = false := by simp; omega
  have hO := (refOpen_any s w (by omega))
  rw [hg] at hO
  generalize openS s = t at *
  have hG0 := fun W : World => refGet_any t 0 8 W (by omega) (by omega) (by omega) (by omega)
  have hG1 := fun W : World => refGet_any t 8 2 W (by omega) (by omega) (by omega) (by omega)
  have hl : valB (t.extract 8 (8 + 2)) < 65536 := valB_two _ (by rw [ByteArray.size_extract]; omega)
  generalize valB (t.extract 8 (8 + 2)) = L at *
  generalize valB (t.extract 0 (0 + 8)) = X at *
  obtain ⟨B, hB⟩ : ∃ B, t.extract 10 t.size = B := ⟨_, rfl⟩
  rw [hB]
  have HO := Lib.hid hO
  have HG0 := Lib.hid hG0
  have HG1 := Lib.hid hG1
  have h10' : (10 : Int) ≤ (t.size : Int) := by omega
  by_cases hL : t.size = 10 + L
  · have hdec : ((t.size : Int) != (L : Int) + 10) = false := by simp; omega
    rw [if_pos (by simpa using hL), if_pos (by simpa using hL), decide_eq_true hL]
    have HB := Lib.hid hB
    clear hO hG0 hG1 hL hB
    go_enter Try.func61, Try.ntmps61
    go_wp2_with fail
    refine HO.out.mono ?_
    rintro e w1 ⟨rfl, hb1⟩
    go_wp2_with fail
    refine (HG0.out _).mono ?_
    rintro e w2 ⟨rfl, rfl⟩
    go_wp2_with fail
    refine (HG1.out _).mono ?_
    rintro e w3 ⟨rfl, rfl⟩
    go_wp2_with fail
    go_quiet (fail)
    go_wp2
    refine bodyPost_ret (v := .tuple #[.int .u64 X, .string B, .bool true]) (by simp [results, Try.results61, go_sem, HB.out]) rfl ⟨rfl, bn hb1 _⟩
  · have hdec : ((t.size : Int) != (L : Int) + 10) = true := by simp; omega
    rw [if_neg (by simpa using hL), if_neg (by simpa using hL), decide_eq_false hL]
    have HB := Lib.hid hB
    clear hO hG0 hG1 hL hB
    go_enter Try.func61, Try.ntmps61
    go_wp2_with fail
    refine HO.out.mono ?_
    rintro e w1 ⟨rfl, hb1⟩
    go_wp2_with fail
    refine (HG0.out _).mono ?_
    rintro e w2 ⟨rfl, rfl⟩
    go_wp2_with fail
    refine (HG1.out _).mono ?_
    rintro e w3 ⟨rfl, rfl⟩
    go_wp2
    refine bodyPost_ret (v := .tuple #[.int .u64 0, .string ⟨#[]⟩, .bool false]) (by simp [results, Try.results61, go_sem]) rfl ⟨rfl, hb1⟩
theorem txtD_size (a b : ByteArray) (n : Nat) (ha : a.size ≤ n) (hb : b.size ≤ n) : (txtD a b).size ≤ n := by
  have h1 := openS_size a n ha
  have h2 := openS_size b n hb
  unfold txtD wTxt
  split
  · rw [ByteArray.size_extract]; omega
  · split
    · rw [ByteArray.size_extract]; omega
    · exact Nat.zero_le _
def rAt (pa pb : Bool) (na nb : Nat) : Int := if (pa && (!pb || decide (nb ≤ na))) = true then 1 else if pb = true then 2 else 0
def rNum (pa pb : Bool) (na nb : Nat) : Nat := if (pa && (!pb || decide (nb ≤ na))) = true then na else if pb = true then nb else 0
def rTxt (pa pb : Bool) (na nb : Nat) (ta tb : ByteArray) : ByteArray := if (pa && (!pb || decide (nb ≤ na))) = true then ta else if pb = true then tb else ⟨#[]⟩
set_option maxHeartbeats 1000000 in
theorem refnewest_core (a b ta tb : ByteArray) (pa pb : Bool) (na nb : Nat) (w : World)
    (hA : ∀ W : World, Calls Try.prog 61 #[.string a] W fun e w' => e = .returned (.tuple #[.int .u64 (na : Int), .string ta, .bool pa]) ∧ Below W.heap.size W w')
    (hB : ∀ W : World, Calls Try.prog 61 #[.string b] W fun e w' => e = .returned (.tuple #[.int .u64 (nb : Int), .string tb, .bool pb]) ∧ Below W.heap.size W w') :
    Calls Try.prog 55 #[.agg #[.string a, .string b]] w fun e w' => e = .returned (.tuple #[.int .i64 (rAt pa pb na nb), .int .u64 (rNum pa pb na nb : Int), .string (rTxt pa pb na nb ta tb)]) ∧ Below w.heap.size w w' := by
  have HA := Lib.hid hA
  have HB := Lib.hid hB
  clear hA hB
  have h : decide ((nb : Int) ≤ (na : Int)) = true ∧ decide (nb ≤ na) = true ∨ decide ((nb : Int) ≤ (na : Int)) = false ∧ decide (nb ≤ na) = false := by
    by_cases h : nb ≤ na
    · exact .inl ⟨by simp; omega, by simp; omega⟩
    · exact .inr ⟨by simp; omega, by simp; omega⟩
  cases pa <;> cases pb <;> rcases h with ⟨d1, d2⟩ | ⟨d1, d2⟩
  all_goals
    clear d1
    go_enter Try.func55, Try.ntmps55
    go_wp2_with fail
    refine (HA.out _).mono ?_
    rintro e w1 ⟨rfl, hb1⟩
    have c1 : w1.cell? ⟨w.heap.size, 1, none⟩ = some (.string b) := (hb1.cell (p := ⟨w.heap.size, 1, none⟩) (by simp)).trans (cell2_1 _ _ _ _)
    have hb1 := bt (ba (br _) _) hb1
    go_wp2_with fail
    refine (HB.out _).mono ?_
    rintro e w2 ⟨rfl, hb2⟩
    have hb2 := bt hb1 hb2
    go_wp2
    refine bodyPost_ret (v := .tuple #[_, _, _]) (by simp [results, Try.results55, go_sem]; first | exact ⟨rfl, rfl, rfl⟩ | rfl) rfl ⟨by simp [rAt, rNum, rTxt, d2], hb2⟩
theorem refnewest_any (a b : ByteArray) (w : World) (ha : a.size ≤ 1000000) (hb : b.size ≤ 1000000) :
    Calls Try.prog 55 #[.agg #[.string a, .string b]] w fun e w' => e = .returned (.tuple #[.int .i64 (atD a b + 1), .int .u64 (numD a b : Int), .string (txtD a b)]) ∧ Below w.heap.size w w' := by
  have h := refnewest_core a b _ _ _ _ _ _ w (fun W => refwhole_any a W ha) (fun W => refwhole_any b W hb)
  have e1 : rAt (wOk a) (wOk b) (rN a) (rN b) = atD a b + 1 := by
    unfold rAt atD isB rN
    cases xa : wOk a <;> cases xb : wOk b <;> by_cases h : wNum a < wNum b <;> simp [h, Nat.not_le.2, Nat.not_lt.1]
  have e2 : rNum (wOk a) (wOk b) (rN a) (rN b) = numD a b := by
    unfold rNum numD isB rN
    cases xa : wOk a <;> cases xb : wOk b <;> by_cases h : wNum a < wNum b <;> simp [h, Nat.not_le.2, Nat.not_lt.1]
  have e3 : rTxt (wOk a) (wOk b) (rN a) (rN b) (rT a) (rT b) = txtD a b := by
    unfold rTxt txtD isB rN rT
    cases xa : wOk a <;> cases xb : wOk b <;> by_cases h : wNum a < wNum b <;> simp [h, Nat.not_le.2, Nat.not_lt.1]
  rw [e1, e2, e3] at h
  exact h
/-! the disk's newest -/
def pAt (pa pb : Bool) (na nb : Nat) : Int := if (pb && (!pa || decide (na < nb))) = true then 1 else if pa = true then 0 else -1
def pNum (pa pb : Bool) (na nb : Nat) : Nat := if (pb && (!pa || decide (na < nb))) = true then nb else if pa = true then na else 0
def pTxt (pa pb : Bool) (na nb : Nat) (ta tb : ByteArray) : ByteArray := if (pb && (!pa || decide (na < nb))) = true then tb else if pa = true then ta else ⟨#[]⟩
set_option maxHeartbeats 2000000 in
theorem newest_core (a b ta tb : ByteArray) (pa pb : Bool) (na nb : Nat) (w : World)
    (hA : ∀ W : World, Calls Try.prog 60 #[.string a] W fun e w' => e = .returned (.tuple #[.int .u64 (na : Int), .string ta, .bool pa]) ∧ Below W.heap.size W w')
    (hB : ∀ W : World, Calls Try.prog 60 #[.string b] W fun e w' => e = .returned (.tuple #[.int .u64 (nb : Int), .string tb, .bool pb]) ∧ Below W.heap.size W w') :
    Calls Try.prog 54 #[.agg #[.string a, .string b]] w fun e w' => e = .returned (.tuple #[.int .i64 (pAt pa pb na nb), .int .u64 (pNum pa pb na nb : Int), .string (pTxt pa pb na nb ta tb)]) ∧ Below w.heap.size w w' := by
  have HA := Lib.hid hA
  have HB := Lib.hid hB
  clear hA hB
  have i0 : ∀ W : World, (Instr.index 34 (.agg #[.string a, .string b]) (.int .i64 0)).run Try.prog W = .ok (.string a) W := fun _ => by kernel_rfl
  have i1 : ∀ W : World, (Instr.index 34 (.agg #[.string a, .string b]) (.int .i64 1)).run Try.prog W = .ok (.string b) W := fun _ => by kernel_rfl
  have h : decide ((na : Int) < (nb : Int)) = true ∧ decide (na < nb) = true ∨ decide ((na : Int) < (nb : Int)) = false ∧ decide (na < nb) = false := by
    by_cases h : na < nb
    · exact .inl ⟨by simp; omega, by simp; omega⟩
    · exact .inr ⟨by simp; omega, by simp; omega⟩
  cases pa <;> cases pb <;> rcases h with ⟨d1, d2⟩ | ⟨d1, d2⟩
  all_goals
    clear d1
    go_enter Try.func54, Try.ntmps54
    go_wp2_with fail
    refine wp_loop_rounds 3 ?_
    rw [rounds_succ]
    go_wp2_with fail
    refine (HA.out _).mono ?_
    rintro e w1 ⟨rfl, hb1⟩
    have hb1 := bt (ba (br _) _) hb1
    go_wp2_with fail
    rw [rounds_succ]
    go_wp2_with fail
    refine (HB.out _).mono ?_
    rintro e w2 ⟨rfl, hb2⟩
    have hb2 := bt hb1 hb2
    go_wp2
    rw [rounds_succ]
    go_wp2
    refine bodyPost_ret (v := .tuple #[_, _, _]) (by simp [results, Try.results54, go_sem]; first | exact ⟨rfl, rfl, rfl⟩ | rfl) rfl ⟨by simp [pAt, pNum, pTxt, d2], hb2⟩
theorem newest_any (a b : ByteArray) (w : World) (ha : a.size ≤ 1000000) (hb : b.size ≤ 1000000) :
    Calls Try.prog 54 #[.agg #[.string a, .string b]] w fun e w' => e = .returned (.tuple #[.int .i64 (atD a b), .int .u64 (numD a b : Int), .string (txtD a b)]) ∧ Below w.heap.size w w' := by
  have h := newest_core a b _ _ _ _ _ _ w (fun W => whole_any a W ha) (fun W => whole_any b W hb)
  have e1 : pAt (wOk a) (wOk b) (wN a) (wN b) = atD a b := by
    unfold pAt atD isB
    cases xa : wOk a <;> cases xb : wOk b <;> simp [wN_ok, xa, xb]
  have e2 : pNum (wOk a) (wOk b) (wN a) (wN b) = numD a b := by
    unfold pNum numD isB
    cases xa : wOk a <;> cases xb : wOk b <;> simp [wN_ok, xa, xb]
  have e3 : pTxt (wOk a) (wOk b) (wN a) (wN b) (wT a) (wT b) = txtD a b := by
    unfold pTxt txtD isB
    cases xa : wOk a <;> cases xb : wOk b <;> simp [wN_ok, wT_ok, xa, xb]
  rw [e1, e2, e3] at h
  exact h
end Go.Proofs.Ytchonlodehogpaa
