/-
  The laws of the keys of the judge's maps.
  Conditions: none.
-/
import Derived.Test.YtogagkgkmoppmaaGreatDoorJuE
namespace Go.Proofs.YtogagkgkmoppmaaGreatDoor
set_option linter.unusedVariables false
set_option linter.unusedSimpArgs false
open Go.RowKit GM
set_option maxRecDepth 100000 in
theorem placeCheckJ (w : World) (em : Bool) (n : Nat) (a b c d : Int) : (Instr.checkKey em (n + 1 + 1 + 1) 73 (.agg #[.int .u64 a, .int .i64 b, .int .i64 c, .int .u32 d])).run Tryz.prog w = .ok () w := by
  unfold Instr.checkKey
  simp [go_sem, Tryz.underlying73, i64Check, u32Check, confCheck]
set_option maxRecDepth 100000 in
theorem hadCheckJ (w : World) (em : Bool) (n : Nat) (z a b c d : Int) : (Instr.checkKey em (n + 1 + 1 + 1 + 1) 79 (.agg #[.int .i64 z, .int .u64 a, .int .i64 b, .int .i64 c, .int .u32 d])).run Tryz.prog w = .ok () w := by
  unfold Instr.checkKey
  simp [go_sem, Tryz.underlying79, i64Check, u32Check, placeCheckJ]
set_option maxRecDepth 100000 in
theorem placeEqlJ (w : World) (a0 a1 a2 a3 b0 b1 b2 b3 : Int) : (Go.binOp .eql 73 (.agg #[.int .u64 a0, .int .i64 a1, .int .i64 a2, .int .u32 a3]) (.agg #[.int .u64 b0, .int .i64 b1, .int .i64 b2, .int .u32 b3])).run Tryz.prog w = .ok (.bool (a0 == b0 && a1 == b1 && a2 == b2 && a3 == b3)) w := by
  by_cases h0 : a0 = b0
  rotate_left
  · have d : (a0 == b0) = false := by simpa using h0
    rw [d]
    (try simp only [Bool.and_false, Bool.false_and])
    go_simp
  subst h0
  have e0 : (a0 == a0) = true := by simp
  by_cases h1 : a1 = b1
  rotate_left
  · have d : (a1 == b1) = false := by simpa using h1
    rw [d]
    (try simp only [Bool.and_false, Bool.false_and])
    go_simp
  subst h1
  have e1 : (a1 == a1) = true := by simp
  by_cases h2 : a2 = b2
  rotate_left
  · have d : (a2 == b2) = false := by simpa using h2
    rw [d]
    (try simp only [Bool.and_false, Bool.false_and])
    go_simp
  subst h2
  have e2 : (a2 == a2) = true := by simp
  by_cases h3 : a3 = b3
  rotate_left
  · have d : (a3 == b3) = false := by simpa using h3
    rw [d]
    (try simp only [Bool.and_false, Bool.false_and])
    go_simp
  subst h3
  have e3 : (a3 == a3) = true := by simp
  rw [e0, e1, e2, e3]
  (try simp only [Bool.and_self])
  go_simp
set_option maxRecDepth 100000 in
theorem hadEqlJ (w : World) (a0 a1 a2 a3 a4 b0 b1 b2 b3 b4 : Int) : (Go.binOp .eql 79 (.agg #[.int .i64 a0, .int .u64 a1, .int .i64 a2, .int .i64 a3, .int .u32 a4]) (.agg #[.int .i64 b0, .int .u64 b1, .int .i64 b2, .int .i64 b3, .int .u32 b4])).run Tryz.prog w = .ok (.bool (a0 == b0 && a1 == b1 && a2 == b2 && a3 == b3 && a4 == b4)) w := by
  by_cases h0 : a0 = b0
  rotate_left
  · have d : (a0 == b0) = false := by simpa using h0
    rw [d]
    (try simp only [Bool.and_false, Bool.false_and])
    go_simp
  subst h0
  have e0 : (a0 == a0) = true := by simp
  by_cases h1 : a1 = b1
  rotate_left
  · have d : (a1 == b1) = false := by simpa using h1
    rw [d]
    (try simp only [Bool.and_false, Bool.false_and])
    go_simp
  subst h1
  have e1 : (a1 == a1) = true := by simp
  by_cases h2 : a2 = b2
  rotate_left
  · have d : (a2 == b2) = false := by simpa using h2
    rw [d]
    (try simp only [Bool.and_false, Bool.false_and])
    go_simp
  subst h2
  have e2 : (a2 == a2) = true := by simp
  by_cases h3 : a3 = b3
  rotate_left
  · have d : (a3 == b3) = false := by simpa using h3
    rw [d]
    (try simp only [Bool.and_false, Bool.false_and])
    go_simp
  subst h3
  have e3 : (a3 == a3) = true := by simp
  by_cases h4 : a4 = b4
  rotate_left
  · have d : (a4 == b4) = false := by simpa using h4
    rw [d]
    (try simp only [Bool.and_false, Bool.false_and])
    go_simp
  subst h4
  have e4 : (a4 == a4) = true := by simp
  rw [e0, e1, e2, e3, e4]
  (try simp only [Bool.and_self])
  go_simp
theorem placeLawJ : KLaw Tryz.prog 73 placeV := KLaw.asking Tryz.underlying73 (fun a b h => by
    obtain ⟨a1, a2, a3, a4⟩ := a
    obtain ⟨b1, b2, b3, b4⟩ := b
    simp [placeV] at h
    rw [h.1, h.2.1, h.2.2.1, h.2.2.2]) (fun a => ⟨_, rfl⟩) (fun w em a => placeCheckJ w em 9997 _ _ _ _) (fun w a b => by
    have h := equal_of_eql (placeEqlJ w a.1 a.2.1 a.2.2.1 a.2.2.2 b.1 b.2.1 b.2.2.1 b.2.2.2)
    obtain ⟨a1, a2, a3, a4⟩ := a
    obtain ⟨b1, b2, b3, b4⟩ := b
    refine h.trans (congrArg (fun z => Result.ok z w) ?_)
    rw [Bool.eq_iff_iff]
    simp [and_assoc]) (fun a => by simp [placeV, Instr.sameBits])
theorem hadLawJ : KLaw Tryz.prog 79 hadV := KLaw.asking Tryz.underlying79 (fun a b h => by
    obtain ⟨a1, a2, a3, a4, a5⟩ := a
    obtain ⟨b1, b2, b3, b4, b5⟩ := b
    simp [hadV] at h
    rw [h.1, h.2.1, h.2.2.1, h.2.2.2.1, h.2.2.2.2]) (fun a => ⟨_, rfl⟩) (fun w em a => hadCheckJ w em 9996 _ _ _ _ _) (fun w a b => by
    have h := equal_of_eql (hadEqlJ w a.1 a.2.1 a.2.2.1 a.2.2.2.1 a.2.2.2.2 b.1 b.2.1 b.2.2.1 b.2.2.2.1 b.2.2.2.2)
    obtain ⟨a1, a2, a3, a4, a5⟩ := a
    obtain ⟨b1, b2, b3, b4, b5⟩ := b
    refine h.trans (congrArg (fun z => Result.ok z w) ?_)
    rw [Bool.eq_iff_iff]
    simp [and_assoc]) (fun a => by simp [hadV, Instr.sameBits])
end Go.Proofs.YtogagkgkmoppmaaGreatDoor
