/-
  What a body's writer writes of a vector.
  Conditions: those that each theorem names.
-/
import Derived.Test.YtgpojbmloielmaaPackA
namespace Go.Proofs.Ytgpojbmloielmaa
set_option linter.unusedVariables false
set_option linter.unusedSimpArgs false
open Go.RowKit
/-- a row of numbers that was there at the start -/
def NumsOk (w0 : World) (da : Option Addr) (ds : List Nat) : Prop := ds.length ≤ 35184372087808 ∧ ∀ i (h : i < ds.length), ds[i] < 4294967296 ∧ ∃ b o, da = some ⟨b, o, none⟩ ∧ b < w0.heap.size ∧ w0.cell? ⟨b, o + i, none⟩ = some (.int .u32 (ds[i] : Int))
def vecB (ds : List Nat) : List UInt8 := ds.flatMap (putL · 4)
theorem vecB_len (ds : List Nat) : (vecB ds).length = 4 * ds.length := by
  unfold vecB
  induction ds with
  | nil => rfl
  | cons a l ih => simp only [List.flatMap_cons, List.length_append, putL_length, List.length_cons]; omega
def vecL (ds : List Nat) : Except Int (List UInt8) := if 64 < ds.length then .error 3 else .ok (putL ds.length 1 ++ vecB ds)
theorem vecB_succ {ds : List Nat} {k : Nat} (h : k < ds.length) : vecB (ds.take (k + 1)) = vecB (ds.take k) ++ putL ds[k] 4 := by
  unfold vecB
  rw [List.take_succ_eq_append_getElem h, List.flatMap_append]
  simp
theorem measI {n k : Nat} (h : k < n) : n - (intOf (.int .i64 ((k : Int) + 1))).toNat < n - (intOf (.int .i64 (k : Int))).toNat := by
  show n - ((k : Int) + 1).toNat < n - (k : Int).toNat
  omega
set_option maxHeartbeats 2000000 in
theorem wVec_any {w0 w : World} {l : List UInt8} (h : WrAt w0.heap.size w0 w l) (da : Option Addr) (dc : Nat) (ds : List Nat) (hl : l.length ≤ 99999000) (hd : NumsOk w0 da ds) :
    Calls Try.prog 64 #[.pointer (some ⟨w0.heap.size, 0, none⟩), .slice da ds.length dc] w fun e w' => WrEnd w0.heap.size w0 w l (vecL ds) e w' := by
  unfold vecL
  by_cases h1 : 64 < ds.length
  · rw [if_pos h1]
    have d1 : decide (64 < ds.length) = true := by simpa using h1
    have d2 : decide ((64 : Int) < (ds.length : Int)) = true := by simp; omega
    have hbel := h.bel
    clear h hd
    go_enter Try.func64, Try.ntmps64
    go_wp2_with (go_at_call 50; refine (bad_so 3 _).mono ?_; rintro e w' ⟨rfl, rfl⟩)
    exact bodyPost_pan rfl ⟨rfl, hbel⟩
  · rw [if_neg h1]
    have d1 : decide (64 < ds.length) = false := by simpa using h1
    have d2 : decide ((64 : Int) < (ds.length : Int)) = false := by simp; omega
    obtain ⟨n, hn⟩ : ∃ n, n = ds.length := ⟨_, rfl⟩
    have hw : IntKind.u64.wrap (n : Int) = (n : Int) := by rw [IntKind.wrap_u64]; omega
    have HN := Lib.hid (wNum_any h n 1 (by omega) (by omega) (by omega) (by omega))
    have HD := Lib.hid hd
    have HL := Lib.hid (And.intro hn (And.intro hl (show n ≤ 64 by omega)))
    have hn64 : n ≤ 64 := by omega
    rw [← hn] at d1 d2 ⊢
    clear h hd hl h1 hn
    go_enter Try.func64, Try.ntmps64
    go_wp2_with (go_at_call 50; refine (bad_no 3 _).mono ?_; rintro e w' ⟨rfl, rfl⟩)
    refine HN.out.mono ?_
    rintro e w1 ⟨rfl, h1, k1⟩
    have H1 := Lib.hid (And.intro h1 k1)
    clear h1 k1 HN d1 d2
    go_wp2_with fail
    go_loopw [17] (fun i wr => ∃ k : Nat, k ≤ n ∧ i = .int .i64 (k : Int) ∧ WrAt w0.heap.size w0 wr (l ++ putL n 1 ++ vecB (ds.take k)) ∧ KeptT w0.heap.size w wr) (fun i _ => n - (intOf i).toNat)
    case atStart => exact ⟨0, by omega, rfl, by simpa [vecB] using H1.out.1, H1.out.2⟩
    case round =>
      obtain ⟨k, hk, rfl, hW, hK⟩ := hrel
      by_cases hlt : k < n
      · have hbool : decide ((k : Int) < (n : Int)) = true := by simpa using hlt
        have hki : (k : Int) < (n : Int) := by omega
        have hkd : k < ds.length := by rw [← HL.out.1]; exact hlt
        obtain ⟨hv32, b, o, rfl, hb, hc⟩ := HD.out.2 k hkd
        have c0 : wr.cell? ⟨b, o + k, none⟩ = some (.int .u32 (ds[k] : Int)) := (hW.bel.cell (p := ⟨b, o + k, none⟩) hb).trans hc
        have hsucc := vecB_succ hkd
        generalize ds[k] = x at *
        have hwx : IntKind.u64.wrap (x : Int) = (x : Int) := by rw [IntKind.wrap_u64]; omega
        have HN2 := Lib.hid (wNum_any hW x 4 (by have := HL.out.2.1; simp only [List.length_append, putL_length, vecB_len, List.length_take]; omega) (by omega) (by omega) (by omega))
        have HK := Lib.hid (And.intro hK (And.intro hsucc hlt))
        clear hW hK hsucc hc hb hkd hv32
        go_wp2_with fail
        refine HN2.out.mono ?_
        rintro e w2 ⟨rfl, h2, k2⟩
        have HE := Lib.hid (And.intro (show WrAt w0.heap.size w0 w2 (l ++ putL n 1 ++ vecB (ds.take (k + 1))) from by rw [HK.out.2.1, ← List.append_assoc]; exact h2) (HK.out.1.trans k2))
        clear h2 k2 HN2 c0
        go_wp2_with fail
        exact ⟨⟨k + 1, HK.out.2.2, by go_num, HE.out⟩, measI HK.out.2.2⟩
      · have hbool : decide ((k : Int) < (n : Int)) = false := by simpa using hlt
        have HE := Lib.hid (show WrEnd w0.heap.size w0 w l (.ok (putL n 1 ++ vecB ds)) (.returned (.tuple #[])) wr from ⟨rfl, by
          have e1 : ds.take k = ds := List.take_of_length_le (by rw [← HL.out.1]; omega)
          rw [e1] at hW
          rw [← List.append_assoc]; exact hW, hK⟩)
        clear hW hK
        go_wp2_with fail
        go_end0
        exact HE.out
end Go.Proofs.Ytgpojbmloielmaa
