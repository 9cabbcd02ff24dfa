/-
  What the reference's maker makes: numbers, processes, configurations, vectors.
  Conditions: those that each theorem names.
-/
import Derived.Test.YtgpojbmloielmaaPackG
namespace Go.Proofs.Ytgpojbmloielmaa
set_option linter.unusedVariables false
set_option linter.unusedSimpArgs false
open Go.RowKit
def MkAt (B : Nat) (w0 w : World) (s : ByteArray) (e : Int) : Prop := w.heap[B]? = some (.cells #[.string s, .int .i64 e] 84 (0, 0)) ∧ Below B w0 w ∧ B ≤ w0.heap.size
theorem MkAt.below {B : Nat} {w0 w w' : World} {s : ByteArray} {e : Int} (h : MkAt B w0 w s e) (hb : Below w.heap.size w w') : MkAt B w0 w' s e := by
  have hlt := (Array.getElem?_eq_some_iff.1 h.1).1
  exact ⟨(hb.block _ hlt).trans h.1, h.2.1.trans (hb.mono (Nat.le_of_lt hlt)), h.2.2⟩
theorem MkAt.lt {B : Nat} {w0 w : World} {s : ByteArray} {e : Int} (h : MkAt B w0 w s e) : B < w.heap.size := (Array.getElem?_eq_some_iff.1 h.1).1
/-- what comes of a part: the first error stays -/
def MkR (s : ByteArray) (e : Int) (r : Except Int (List UInt8)) (s' : ByteArray) (e' : Int) : Prop :=
  (e ≠ 0 → e' = e) ∧ (e = 0 → (∀ x, r = .ok x → s' = s ++ strL x ∧ e' = 0) ∧ ∀ c, r = .error c → e' = c ∧ c ≠ 0)
def MkEnd (B : Nat) (w0 w : World) (s : ByteArray) (e : Int) (r : Except Int (List UInt8)) (K : Nat) (en : Ending) (w' : World) : Prop :=
  en = .returned (.tuple #[]) ∧ ∃ s' e', MkAt B w0 w' s' e' ∧ Kept (fun b => b = B) w w' ∧ s'.size ≤ s.size + K ∧ MkR s e r s' e'
theorem strL_append (s : ByteArray) (x y : List UInt8) : s ++ strL x ++ strL y = s ++ strL (x ++ y) := by
  apply ByteArray.ext
  simp [strL, ByteArray.data_append]
theorem strL_nil (s : ByteArray) : s ++ strL [] = s := by
  apply ByteArray.ext
  simp [strL, ByteArray.data_append]
theorem MkR.seq {s s1 s2 : ByteArray} {e e1 e2 : Int} {r1 r2 : Except Int (List UInt8)} (h1 : MkR s e r1 s1 e1) (h2 : MkR s1 e1 r2 s2 e2) : MkR s e (cat r1 r2) s2 e2 := by
  constructor
  · intro he
    have h3 := h1.1 he
    rw [h2.1 (by rw [h3]; exact he), h3]
  · intro he
    obtain ⟨hok, herr⟩ := h1.2 he
    constructor
    · intro x hx
      obtain ⟨u, v, hu, hv, rfl⟩ := cat_ok hx
      obtain ⟨a1, a2⟩ := hok u hu
      obtain ⟨b1, b2⟩ := (h2.2 a2).1 v hv
      exact ⟨by rw [b1, a1, strL_append], b2⟩
    · intro c hc
      cases r1 with
      | error c1 =>
        obtain ⟨a1, a2⟩ := herr c1 rfl
        injection hc with hc
        subst hc
        exact ⟨by rw [h2.1 (by rw [a1]; exact a2), a1], a2⟩
      | ok u =>
        obtain ⟨a1, a2⟩ := hok u rfl
        cases r2 with
        | ok v => cases hc
        | error c2 =>
          injection hc with hc
          subst hc
          exact (h2.2 a2).2 c2 rfl
theorem MkEnd.seq {B : Nat} {w0 w w1 w2 : World} {s s1 : ByteArray} {e e1 : Int} {r1 r2 : Except Int (List UInt8)} {K1 K2 : Nat} {en : Ending} (k1 : Kept (fun b => b = B) w w1) (hs : s1.size ≤ s.size + K1) (hr : MkR s e r1 s1 e1) (h : MkEnd B w0 w1 s1 e1 r2 K2 en w2) : MkEnd B w0 w s e (cat r1 r2) (K1 + K2) en w2 := by
  obtain ⟨h1, s', e', h2, h3, h4, h5⟩ := h
  exact ⟨h1, s', e', h2, k1.trans h3, by omega, hr.seq h5⟩
def badL (c : Int) (b : Bool) : Except Int (List UInt8) := if b = true then .error c else .ok []
theorem MkR.refl (s : ByteArray) (e : Int) : MkR s e (.ok []) s e := ⟨fun _ => rfl, fun he => ⟨fun x hx => by injection hx with hx; rw [← hx, strL_nil]; exact ⟨rfl, he⟩, fun c hc => by cases hc⟩⟩
set_option maxHeartbeats 1000000 in
theorem mBad_any {B : Nat} {w0 w : World} {s : ByteArray} {e : Int} (h : MkAt B w0 w s e) (c : Int) (hc : c ≠ 0) (b : Bool) :
    Calls Try.prog 72 #[.pointer (some ⟨B, 0, none⟩), .int .i64 c, .bool b] w fun en w' => MkEnd B w0 w s e (badL c b) 0 en w' := by
  have c1 : w.cell? ⟨B, 1, none⟩ = some (.int .i64 e) := cell_of_row _ _ 1 _ _ _ h.1
  have f1 : w.frozen? ⟨B, 1, none⟩ = false := frozen_of_row _ _ _ _ _ h.1
  have HH := Lib.hid h
  clear h
  cases b
  · have HE := Lib.hid (show MkEnd B w0 w s e (badL c false) 0 (.returned (.tuple #[])) w from ⟨rfl, s, e, HH.out, .refl _ _, by omega, .refl s e⟩)
    go_enter Try.func72, Try.ntmps72
    go_wp2_with fail
    go_end0
    exact HE.out
  · by_cases he : e = 0
    · subst he
      have hk : Kept (fun b => b = B) w (w.setCell ⟨B, 1, none⟩ (.int .i64 c)) := (show Kept (fun b => b = B) w w from .refl _ _).setCell (p := ⟨B, 1, none⟩) rfl _
      have HE := Lib.hid (show MkEnd B w0 w s 0 (badL c true) 0 (.returned (.tuple #[])) (w.setCell ⟨B, 1, none⟩ (.int .i64 c)) from
        ⟨rfl, s, c, ⟨setCell_block HH.out.1 1 _, hk.out HH.out.2.1 (Nat.le_of_lt HH.out.lt) (fun k hk' e => by omega), HH.out.2.2⟩, hk, by omega, fun h => absurd rfl h, fun _ => ⟨fun x hx => (by cases hx), fun c' hc' => by injection hc' with hc'; exact ⟨hc', hc' ▸ hc⟩⟩⟩)
      clear hk hc
      go_enter Try.func72, Try.ntmps72
      go_wp2_with fail
      go_end0
      exact HE.out
    · have he2 : (e == 0) = false := by simpa using he
      have he3 : decide (e = 0) = false := by simpa using he
      have HE := Lib.hid (show MkEnd B w0 w s e (badL c true) 0 (.returned (.tuple #[])) w from ⟨rfl, s, e, HH.out, .refl _ _, by omega, fun _ => rfl, fun h => absurd h he⟩)
      go_enter Try.func72, Try.ntmps72
      go_wp2_with fail
      go_end0
      exact HE.out
set_option maxHeartbeats 1000000 in
theorem mNum_any {B : Nat} {w0 w : World} {s : ByteArray} {e : Int} (h : MkAt B w0 w s e) (x n : Nat) (hl : s.size ≤ 100000000) (hx : x < 18446744073709551616) (hn : n ≤ 8) :
    Calls Try.prog 69 #[.pointer (some ⟨B, 0, none⟩), .int .u64 (x : Int), .int .i64 (n : Int)] w fun en w' => MkEnd B w0 w s e (.ok (putL x n)) n en w' := by
  have c0 : w.cell? ⟨B, 0, none⟩ = some (.string s) := cell_of_row _ _ 0 _ _ _ h.1
  have HP := Lib.hid (refPut_any s x n w hl hx hn)
  have HH := Lib.hid h
  clear h hl hx
  go_enter Try.func69, Try.ntmps69
  go_wp2_with fail
  refine HP.out.mono ?_
  rintro en w1 ⟨rfl, hb1⟩
  have h1 := HH.out.below hb1
  have d0 : w1.cell? ⟨B, 0, none⟩ = some (.string s) := cell_of_row _ _ 0 _ _ _ h1.1
  have f0 : w1.frozen? ⟨B, 0, none⟩ = false := frozen_of_row _ _ _ _ _ h1.1
  obtain ⟨t, ht⟩ : ∃ t, t = s ++ strL (putL x n) := ⟨_, rfl⟩
  rw [← ht]
  have hk : Kept (fun b => b = B) w1 (w1.setCell ⟨B, 0, none⟩ (.string t)) := (show Kept (fun b => b = B) w1 w1 from .refl _ _).setCell (p := ⟨B, 0, none⟩) rfl _
  have HE := Lib.hid (show MkEnd B w0 w s e (.ok (putL x n)) n (.returned (.tuple #[])) (w1.setCell ⟨B, 0, none⟩ (.string t)) from
    ⟨rfl, t, e, ⟨setCell_block h1.1 0 _, hk.out h1.2.1 (Nat.le_of_lt h1.lt) (fun k hk' e => by omega), h1.2.2⟩, (Kept.of_below hb1).trans hk, by
      rw [ht, ByteArray.size_append]
      have : (strL (putL x n)).size = n := putL_length n x
      omega, fun _ => rfl, fun he => ⟨fun y hy => by injection hy with hy; rw [← hy]; exact ⟨ht, he⟩, fun c hc => by cases hc⟩⟩)
  clear h1 hk hb1 ht
  go_wp2_with fail
  go_end0
  exact HE.out
theorem wrap_nat (p : Int) : ∃ x : Nat, IntKind.u64.wrap p = (x : Int) ∧ x < 18446744073709551616 ∧ (0 ≤ p ∧ p < 18446744073709551616 → x = p.toNat) := by
  rw [IntKind.wrap_u64]
  exact ⟨(p % 18446744073709551616).toNat, by omega, by omega, by omega⟩
theorem MkEnd.eq {B : Nat} {w0 w : World} {s : ByteArray} {e : Int} {r r' : Except Int (List UInt8)} {K K' : Nat} {en : Ending} {w' : World} (h : MkEnd B w0 w s e r K en w') (hr : r = r') (hK : K ≤ K') : MkEnd B w0 w s e r' K' en w' := by
  subst hr
  obtain ⟨h1, s', e', h2, h3, h4, h5⟩ := h
  exact ⟨h1, s', e', h2, h3, by omega, h5⟩
set_option maxHeartbeats 1000000 in
theorem mProc_any {B : Nat} {w0 w : World} {s : ByteArray} {e : Int} (h : MkAt B w0 w s e) (p : Int) (hl : s.size ≤ 99999900) :
    Calls Try.prog 71 #[.pointer (some ⟨B, 0, none⟩), .int .i64 p] w fun en w' => MkEnd B w0 w s e (procL p) 1 en w' := by
  obtain ⟨b, hb⟩ : ∃ b : Bool, b = (decide (p < 0) || decide (63 < p)) := ⟨_, rfl⟩
  have HB := Lib.hid (mBad_any h 1 (by decide) b)
  obtain ⟨x, hx1, hx2, hx3⟩ := wrap_nat p
  have HR := Lib.hid (show cat (badL 1 b) (.ok (putL x 1)) = procL p from by
    unfold procL badL
    by_cases hp : 0 ≤ p ∧ p < 64
    · rw [if_pos hp, hx3 ⟨hp.1, by omega⟩, if_neg (by rw [hb]; simp; omega)]
      rfl
    · rw [if_neg hp, if_pos (by rw [hb]; simp; omega)]
      rfl)
  clear h hx3
  have HX := Lib.hid hx2
  clear hx2
  by_cases h1 : p < 0
  · have d1 : decide (p < 0) = true := by simpa using h1
    have hbt : b = true := by rw [hb, d1]; rfl
    subst hbt
    clear hb
    go_enter Try.func71, Try.ntmps71
    go_wp2_with fail
    refine HB.out.mono ?_
    rintro en w1 ⟨rfl, s1, e1, h1, k1, z1, r1⟩
    have HN := Lib.hid (mNum_any h1 x 1 (by omega) HX.out (by omega))
    have HK := Lib.hid (And.intro k1 (And.intro z1 r1))
    clear h1 k1 z1 r1 HB
    go_wp2_with fail
    refine HN.out.mono ?_
    intro en w2 h2
    have HE := Lib.hid ((MkEnd.seq HK.out.1 HK.out.2.1 HK.out.2.2 h2).eq (K' := 1) HR.out (by omega))
    obtain ⟨rfl, _⟩ := h2
    go_wp2_with fail
    go_end0
    exact HE.out
  · have d1 : decide (p < 0) = false := by simpa using h1
    have hbt : decide (63 < p) = b := by rw [hb, d1]; rfl
    clear hb
    go_enter Try.func71, Try.ntmps71
    go_wp2_with fail
    refine HB.out.mono ?_
    rintro en w1 ⟨rfl, s1, e1, h1, k1, z1, r1⟩
    have HN := Lib.hid (mNum_any h1 x 1 (by omega) HX.out (by omega))
    have HK := Lib.hid (And.intro k1 (And.intro z1 r1))
    clear h1 k1 z1 r1 HB
    go_wp2_with fail
    refine HN.out.mono ?_
    intro en w2 h2
    have HE := Lib.hid ((MkEnd.seq HK.out.1 HK.out.2.1 HK.out.2.2 h2).eq (K' := 1) HR.out (by omega))
    obtain ⟨rfl, _⟩ := h2
    go_wp2_with fail
    go_end0
    exact HE.out
end Go.Proofs.Ytgpojbmloielmaa
