/-
  What a body's writer writes of an exchange.
  Conditions: those that each theorem names.
-/
import Derived.Test.YtgpojbmloielmaaPackC
namespace Go.Proofs.Ytgpojbmloielmaa
set_option linter.unusedVariables false
set_option linter.unusedSimpArgs false
open Go.RowKit
/-- an exchange's cells -/
structure Exch where
  who : Int
  oe : Nat
  orp : Int
  cs : List Nat
  ls : Nat
  lf : Int
  ca : Option Addr
  cc : Nat
def exA (x : Exch) : Array Value := #[.int .i64 x.who, .int .u64 (x.oe : Int), .int .i64 x.orp, .slice x.ca x.cs.length x.cc, .int .u64 (x.ls : Int), .int .i64 x.lf]
def exL (x : Exch) : Except Int (List UInt8) := cat (procL x.who) (cat (confL x.oe x.orp) (cat (vecL x.cs) (confL x.ls x.lf)))
def ExW (w0 : World) (x : Exch) : Prop := x.oe < 18446744073709551616 ∧ x.ls < 18446744073709551616 ∧ NumsOk w0 x.ca x.cs
theorem wrErr {B : Nat} {w0 w w1 : World} {l : List UInt8} {r : Except Int (List UInt8)} {c : Int} (hr : r = .error c) (hb : Below B w0 w1) : WrEnd B w0 w l r (.panicked (panL c)) w1 := by subst hr; exact ⟨rfl, hb⟩
theorem procL_len {p : Int} {y : List UInt8} (h : procL p = .ok y) : y.length ≤ 1 := by
  unfold procL at h
  split at h
  · injection h with h; rw [← h, putL_length]; omega
  · cases h
theorem cat_ok {a b : Except Int (List UInt8)} {y : List UInt8} (h : cat a b = .ok y) : ∃ u v, a = .ok u ∧ b = .ok v ∧ y = u ++ v := by
  cases a with
  | error c => cases h
  | ok u => cases b with
    | error c => cases h
    | ok v => injection h with h; exact ⟨u, v, rfl, rfl, h.symm⟩
theorem confL_len {e : Nat} {p : Int} {y : List UInt8} (h : confL e p = .ok y) : y.length ≤ 9 := by
  obtain ⟨u, v, h1, h2, rfl⟩ := cat_ok h
  injection h1 with h1
  have := procL_len h2
  rw [List.length_append, ← h1, putL_length]
  omega
theorem vecL_len {ds : List Nat} {y : List UInt8} (h : vecL ds = .ok y) : y.length ≤ 257 := by
  unfold vecL at h
  split at h
  · cases h
  · injection h with h; rw [← h, List.length_append, putL_length, vecB_len]; omega
theorem exL_len {x : Exch} {y : List UInt8} (h : exL x = .ok y) : y.length ≤ 276 := by
  obtain ⟨a, b, h1, h2, rfl⟩ := cat_ok h
  obtain ⟨c, d, h3, h4, rfl⟩ := cat_ok h2
  obtain ⟨e, f, h5, h6, rfl⟩ := cat_ok h4
  have := procL_len h1
  have := confL_len h3
  have := vecL_len h5
  have := confL_len h6
  simp only [List.length_append]
  omega
set_option maxHeartbeats 8000000 in
theorem wExch_any {w0 w : World} {l : List UInt8} (h : WrAt w0.heap.size w0 w l) (x : Exch) (hx : ExW w0 x) (hl : l.length ≤ 99000000) :
    Calls Try.prog 66 #[.pointer (some ⟨w0.heap.size, 0, none⟩), .agg (exA x)] w fun e w' => WrEnd w0.heap.size w0 w l (exL x) e w' := by
  obtain ⟨N, hN⟩ : ∃ N, N = w.heap.size := ⟨_, rfl⟩
  obtain ⟨W, hW⟩ : ∃ W, W = w.alloc (.cells (exA x) 51) := ⟨_, rfl⟩
  have hbA := ba (br w) (.cells (exA x) 51)
  have hxA := heap_alloc_new w (.cells (exA x) 51)
  rw [← hW] at hxA hbA
  rw [← hN] at hxA
  have h1 := h.below hbA
  have hne : N ≠ w0.heap.size := by have := h.lt; omega
  have HB := Lib.hid (And.intro hne (And.intro (KeptT.of_below (B := w0.heap.size) hbA) hxA))
  have HL := Lib.hid hl
  obtain ⟨r, hr⟩ : ∃ r, r = exL x := ⟨_, rfl⟩
  rw [← hr]
  unfold exL at hr
  have HXX := Lib.hid hx
  clear hx
  have HR := Lib.hid hr
  clear hr hne hbA h hl hxA
  have hma : exA x = #[.int .i64 x.who, .int .u64 (x.oe : Int), .int .i64 x.orp, .slice x.ca x.cs.length x.cc, .int .u64 (x.ls : Int), .int .i64 x.lf] := rfl
  rw [hma] at hW ⊢
  go_enter Try.func66, Try.ntmps66
  go_upto_region 1 with (fail)
  rw [← hW, ← hN]
  clear hma hW hN
  have k1 := KeptT.refl w0.heap.size W
  have b1 := k1.keep HB.out.2.2 HB.out.1 (by decide)
  have c0 : W.cell? ⟨N, 0, none⟩ = some (.int .i64 x.who) := cell_of_row _ _ 0 _ _ _ b1
  have H1 := Lib.hid (wProc_any h1 x.who (by have := HL.out; (try simp only [List.length_append, putL_length]); omega))
  have HK1 := Lib.hid k1
  clear h1 k1 b1
  go_wp2_with fail
  refine H1.out.mono ?_
  intro e w2 h2
  rcases hr1 : procL x.who with c | y1
  · rw [hr1] at h2
    obtain ⟨rfl, hb1⟩ := h2
    have HE := Lib.hid (wrErr (w := w) (l := l) (show r = .error c from by rw [HR.out, hr1] <;> rfl) hb1)
    clear hr1 hb1 H1
    exact bodyPost_pan rfl HE.out
  rw [hr1] at h2
  obtain ⟨rfl, h2, k2⟩ := h2
  have hy1 := procL_len hr1
  have E1 := Lib.hid hr1
  clear hr1
  replace k2 := HK1.out.trans k2
  clear c0 H1 HK1
  have b2 := k2.keep HB.out.2.2 HB.out.1 (by decide)
  have c1 : w2.cell? ⟨N, 1, none⟩ = some (.int .u64 (x.oe : Int)) := cell_of_row _ _ 1 _ _ _ b2
  have c2 : w2.cell? ⟨N, 2, none⟩ = some (.int .i64 x.orp) := cell_of_row _ _ 2 _ _ _ b2
  have H2 := Lib.hid (wConf_any h2 x.oe x.orp (by have := HL.out; (try simp only [List.length_append, putL_length]); omega) HXX.out.1)
  have HK2 := Lib.hid k2
  clear h2 k2 b2
  go_wp2_with fail
  refine H2.out.mono ?_
  intro e w3 h3
  rcases hr2 : confL x.oe x.orp with c | y2
  · rw [hr2] at h3
    obtain ⟨rfl, hb2⟩ := h3
    have HE := Lib.hid (wrErr (w := w) (l := l) (show r = .error c from by rw [HR.out, E1.out, hr2] <;> rfl) hb2)
    clear hr2 hb2 H2
    exact bodyPost_pan rfl HE.out
  rw [hr2] at h3
  obtain ⟨rfl, h3, k3⟩ := h3
  have hy2 := confL_len hr2
  have E2 := Lib.hid hr2
  clear hr2
  replace k3 := HK2.out.trans k3
  clear c1 c2 H2 HK2
  have b3 := k3.keep HB.out.2.2 HB.out.1 (by decide)
  have c3 : w3.cell? ⟨N, 3, none⟩ = some (.slice x.ca x.cs.length x.cc) := cell_of_row _ _ 3 _ _ _ b3
  have H3 := Lib.hid (wVec_any h3 x.ca x.cc x.cs (by have := HL.out; (try simp only [List.length_append, putL_length]); omega) HXX.out.2.2)
  have HK3 := Lib.hid k3
  clear h3 k3 b3
  go_wp2_with fail
  refine H3.out.mono ?_
  intro e w4 h4
  rcases hr3 : vecL x.cs with c | y3
  · rw [hr3] at h4
    obtain ⟨rfl, hb3⟩ := h4
    have HE := Lib.hid (wrErr (w := w) (l := l) (show r = .error c from by rw [HR.out, E1.out, E2.out, hr3] <;> rfl) hb3)
    clear hr3 hb3 H3
    exact bodyPost_pan rfl HE.out
  rw [hr3] at h4
  obtain ⟨rfl, h4, k4⟩ := h4
  have hy3 := vecL_len hr3
  have E3 := Lib.hid hr3
  clear hr3
  replace k4 := HK3.out.trans k4
  clear c3 H3 HK3
  have b4 := k4.keep HB.out.2.2 HB.out.1 (by decide)
  have c4 : w4.cell? ⟨N, 4, none⟩ = some (.int .u64 (x.ls : Int)) := cell_of_row _ _ 4 _ _ _ b4
  have c5 : w4.cell? ⟨N, 5, none⟩ = some (.int .i64 x.lf) := cell_of_row _ _ 5 _ _ _ b4
  have H4 := Lib.hid (wKey_any h4 x.ls x.lf (by have := HL.out; (try simp only [List.length_append, putL_length]); omega) HXX.out.2.1)
  have HK4 := Lib.hid k4
  clear h4 k4 b4
  go_wp2_with fail
  refine H4.out.mono ?_
  intro e w5 h5
  rcases hr4 : confL x.ls x.lf with c | y4
  · rw [hr4] at h5
    obtain ⟨rfl, hb4⟩ := h5
    have HE := Lib.hid (wrErr (w := w) (l := l) (show r = .error c from by rw [HR.out, E1.out, E2.out, E3.out, hr4] <;> rfl) hb4)
    clear hr4 hb4 H4
    exact bodyPost_pan rfl HE.out
  rw [hr4] at h5
  obtain ⟨rfl, h5, k5⟩ := h5
  have hy4 := confL_len hr4
  have E4 := Lib.hid hr4
  clear hr4
  replace k5 := HK4.out.trans k5
  clear c4 c5 H4 HK4
  have HE := Lib.hid (show WrEnd w0.heap.size w0 w l r (.returned (.tuple #[])) w5 from by
    rw [show r = .ok (y1 ++ (y2 ++ (y3 ++ (y4)))) from by rw [HR.out, E1.out, E2.out, E3.out, E4.out] <;> rfl]
    exact ⟨rfl, by simpa only [List.append_assoc] using h5, HB.out.2.1.trans k5⟩)
  clear h5 k5
  go_wp2_with fail
  go_end0
  exact HE.out
end Go.Proofs.Ytgpojbmloielmaa
