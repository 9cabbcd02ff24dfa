/-
  The kinds of keys of the monitor's maps.
  Conditions: none.
-/
import Derived.Test.YtogagkgkmoppmaaMonA
namespace Go.Proofs.Ytogagkgkmoppmaa
set_option linter.unusedVariables false
set_option linter.unusedSimpArgs false
open Go.RowKit
abbrev ConfK := Int × Int
abbrev PlaceK := Int × Int × Int × Int
abbrev HadK := Int × Int × Int × Int × Int
def confV (c : ConfK) : Value := .agg #[.int .u64 c.1, .int .i64 c.2]
def placeV (p : PlaceK) : Value := .agg #[.int .u64 p.1, .int .i64 p.2.1, .int .i64 p.2.2.1, .int .u32 p.2.2.2]
def hadV (h : HadK) : Value := .agg #[.int .i64 h.1, .int .u64 h.2.1, .int .i64 h.2.2.1, .int .i64 h.2.2.2.1, .int .u32 h.2.2.2.2]
open Go.MapKept (IsKey)
theorem u64Check (w : World) (em : Bool) (n : Nat) (a : Int) : (Instr.checkKey em (n + 1) 28 (.int .u64 a)).run Try.prog w = .ok () w := MapKept.run_checkKey (P := Try.prog) (w := w) Try.underlying28 (k := .int .u64 a) (by simp [IsKey]) em n
theorem i64Check (w : World) (em : Bool) (n : Nat) (a : Int) : (Instr.checkKey em (n + 1) 3 (.int .i64 a)).run Try.prog w = .ok () w := MapKept.run_checkKey (P := Try.prog) (w := w) Try.underlying3 (k := .int .i64 a) (by simp [IsKey]) em n
theorem u32Check (w : World) (em : Bool) (n : Nat) (a : Int) : (Instr.checkKey em (n + 1) 31 (.int .u32 a)).run Try.prog w = .ok () w := MapKept.run_checkKey (P := Try.prog) (w := w) Try.underlying31 (k := .int .u32 a) (by simp [IsKey]) em n
set_option maxRecDepth 100000 in
theorem confCheck (w : World) (em : Bool) (n : Nat) (a b : Int) : (Instr.checkKey em (n + 1 + 1) 30 (.agg #[.int .u64 a, .int .i64 b])).run Try.prog w = .ok () w := by
  unfold Instr.checkKey
  simp [go_sem, Try.underlying30, u64Check, i64Check]
set_option maxRecDepth 100000 in
theorem placeCheck (w : World) (em : Bool) (n : Nat) (a b c d : Int) : (Instr.checkKey em (n + 1 + 1 + 1) 69 (.agg #[.int .u64 a, .int .i64 b, .int .i64 c, .int .u32 d])).run Try.prog w = .ok () w := by
  unfold Instr.checkKey
  simp [go_sem, Try.underlying69, i64Check, u32Check, confCheck]
set_option maxRecDepth 100000 in
theorem hadCheck (w : World) (em : Bool) (n : Nat) (z a b c d : Int) : (Instr.checkKey em (n + 1 + 1 + 1 + 1) 71 (.agg #[.int .i64 z, .int .u64 a, .int .i64 b, .int .i64 c, .int .u32 d])).run Try.prog w = .ok () w := by
  unfold Instr.checkKey
  simp [go_sem, Try.underlying71, i64Check, u32Check, placeCheck]
set_option maxRecDepth 100000 in
theorem confEql (w : World) (a0 a1 b0 b1 : Int) : (Go.binOp .eql 30 (.agg #[.int .u64 a0, .int .i64 a1]) (.agg #[.int .u64 b0, .int .i64 b1])).run Try.prog w = .ok (.bool (a0 == b0 && a1 == b1)) w := by
  by_cases h0 : a0 = b0
  rotate_left
  · have d : (a0 == b0) = false := by simpa using h0
    rw [d]
    (try simp only [Bool.and_false, Bool.false_and])
    go_simp
  subst h0
  have e0 : (a0 == a0) = true := by simp
  by_cases h1 : a1 = b1
  rotate_left
  · have d : (a1 == b1) = false := by simpa using h1
    rw [d]
    (try simp only [Bool.and_false, Bool.false_and])
    go_simp
  subst h1
  have e1 : (a1 == a1) = true := by simp
  rw [e0, e1]
  (try simp only [Bool.and_self])
  go_simp
set_option maxRecDepth 100000 in
theorem placeEql (w : World) (a0 a1 a2 a3 b0 b1 b2 b3 : Int) : (Go.binOp .eql 69 (.agg #[.int .u64 a0, .int .i64 a1, .int .i64 a2, .int .u32 a3]) (.agg #[.int .u64 b0, .int .i64 b1, .int .i64 b2, .int .u32 b3])).run Try.prog w = .ok (.bool (a0 == b0 && a1 == b1 && a2 == b2 && a3 == b3)) w := by
  by_cases h0 : a0 = b0
  rotate_left
  · have d : (a0 == b0) = false := by simpa using h0
    rw [d]
    (try simp only [Bool.and_false, Bool.false_and])
    go_simp
  subst h0
  have e0 : (a0 == a0) = true := by simp
  by_cases h1 : a1 = b1
  rotate_left
  · have d : (a1 == b1) = false := by simpa using h1
    rw [d]
    (try simp only [Bool.and_false, Bool.false_and])
    go_simp
  subst h1
  have e1 : (a1 == a1) = true := by simp
  by_cases h2 : a2 = b2
  rotate_left
  · have d : (a2 == b2) = false := by simpa using h2
    rw [d]
    (try simp only [Bool.and_false, Bool.false_and])
    go_simp
  subst h2
  have e2 : (a2 == a2) = true := by simp
  by_cases h3 : a3 = b3
  rotate_left
  · have d : (a3 == b3) = false := by simpa using h3
    rw [d]
    (try simp only [Bool.and_false, Bool.false_and])
    go_simp
  subst h3
  have e3 : (a3 == a3) = true := by simp
  rw [e0, e1, e2, e3]
  (try simp only [Bool.and_self])
  go_simp
set_option maxRecDepth 100000 in
theorem hadEql (w : World) (a0 a1 a2 a3 a4 b0 b1 b2 b3 b4 : Int) : (Go.binOp .eql 71 (.agg #[.int .i64 a0, .int .u64 a1, .int .i64 a2, .int .i64 a3, .int .u32 a4]) (.agg #[.int .i64 b0, .int .u64 b1, .int .i64 b2, .int .i64 b3, .int .u32 b4])).run Try.prog w = .ok (.bool (a0 == b0 && a1 == b1 && a2 == b2 && a3 == b3 && a4 == b4)) w := by
  by_cases h0 : a0 = b0
  rotate_left
  · have d : (a0 == b0) = false := by simpa using h0
    rw [d]
    (try simp only [Bool.and_false, Bool.false_and])
    go_simp
  subst h0
  have e0 : (a0 == a0) = true := by simp
  by_cases h1 : a1 = b1
  rotate_left
  · have d : (a1 == b1) = false := by simpa using h1
    rw [d]
    (try simp only [Bool.and_false, Bool.false_and])
    go_simp
  subst h1
  have e1 : (a1 == a1) = true := by simp
  by_cases h2 : a2 = b2
  rotate_left
  · have d : (a2 == b2) = false := by simpa using h2
    rw [d]
    (try simp only [Bool.and_false, Bool.false_and])
    go_simp
  subst h2
  have e2 : (a2 == a2) = true := by simp
  by_cases h3 : a3 = b3
  rotate_left
  · have d : (a3 == b3) = false := by simpa using h3
    rw [d]
    (try simp only [Bool.and_false, Bool.false_and])
    go_simp
  subst h3
  have e3 : (a3 == a3) = true := by simp
  by_cases h4 : a4 = b4
  rotate_left
  · have d : (a4 == b4) = false := by simpa using h4
    rw [d]
    (try simp only [Bool.and_false, Bool.false_and])
    go_simp
  subst h4
  have e4 : (a4 == a4) = true := by simp
  rw [e0, e1, e2, e3, e4]
  (try simp only [Bool.and_self])
  go_simp
theorem equal_of_eql {P : Program} {w : World} {t : TypeId} {x y : Array Value} {r : Bool} (h : (Go.binOp .eql t (.agg x) (.agg y)).run P w = .ok (.bool r) w) : (Op.equal t (.agg x) (.agg y)).run P w = .ok r w := by
  unfold Go.binOp at h
  simp [Result.andThen] at h
  split at h
  · rename_i b w' hb
    injection h with h1 h2
    injection h1 with h1
    rw [hb, h1, h2]
  all_goals cases h
end Go.Proofs.Ytogagkgkmoppmaa
