/-
  The laws' awake and Few; a slice of acts that is an argument.
  Conditions: none.
-/
import Derived.Test.YtchonlodehogpaaDiskC
import Derived.Deep.Slices
import Derived.Deep.Fields
import Derived.ChangeSame
import Derived.Lib.SmallJoins
namespace Go.Proofs.Ytchonlodehogpaa
set_option linter.unusedVariables false
open Go.RowKit Go.ChangeShapes Go.WideShapes Go.Deep
theorem act_size (p : ByteArray × ByteArray) (x : ActV) (h1 : p.1.size ≤ 10000) (h2 : p.2.size ≤ 10000) : (actD p x).1.size ≤ 10000 ∧ (actD p x).2.size ≤ 10000 := by
  unfold actD
  by_cases h : 8192 < x.data.size
  · rw [if_pos h]; exact ⟨h1, h2⟩
  · rw [if_neg h]
    have hz : (newB p.1 p.2 x.data).size = x.data.size + 14 := recB_size _ _
    have hb : (bytesD p.1 p.2 x).size ≤ 10000 := by
      unfold bytesD
      split
      · rw [ByteArray.size_extract]; omega
      · omega
    unfold putD
    split
    · exact ⟨h1, hb⟩
    · exact ⟨hb, h2⟩
instance : Inhabited ActV := ⟨⟨⟨#[]⟩, false, 0⟩⟩
/-- an element's three cells -/
def ActAt (w : World) (B o : Nat) (x : ActV) : Prop := w.cell? ⟨B, o, none⟩ = some (.string x.data) ∧ w.cell? ⟨B, o + 1, none⟩ = some (.bool x.tear) ∧ w.cell? ⟨B, o + 2, none⟩ = some (.int .i64 x.keep) ∧ x.data.size ≤ 9223372036854775807
def ActsAt (w : World) (v : Value) (l : List ActV) : Prop :=
  (∃ ad cap, v = .slice ad 0 cap ∧ l = []) ∨ ∃ B O cap, v = .slice (some ⟨B, O, none⟩) l.length cap ∧ l.length ≤ 9223372036854775807 ∧ B < w.heap.size ∧ ∀ i (h : i < l.length), ActAt w B (O + i * 3) l[i]
theorem ActAt.below {w w' : World} {B o n : Nat} {x : ActV} (h : ActAt w B o x) (hb : Below n w w') (hB : B < n) : ActAt w' B o x :=
  ⟨(hb.cell (p := ⟨B, o, none⟩) hB).trans h.1, (hb.cell (p := ⟨B, o + 1, none⟩) hB).trans h.2.1, (hb.cell (p := ⟨B, o + 2, none⟩) hB).trans h.2.2.1, h.2.2.2⟩
theorem cell_lt {w : World} {p : Addr} {v : Value} (h : w.cell? p = some v) : p.block < w.heap.size := by
  rcases Nat.lt_or_ge p.block w.heap.size with h' | h'
  · exact h'
  · obtain ⟨b, o, s⟩ := p
    simp [World.cell?, Array.getElem?_eq_none h'] at h
section
variable {H : Type} {enc : TypeId × Value → H} {P : Program} {w : World} {base : Nat} {spare : Nat → Bool} {held : Bool}
theorem acts_open {r : Reach} {b0 : Nat} {t e : TypeId} {f0 f1 f2 : Field} {v : Value} {d : DataW H} {p : List MemPlace} (ht : P.underlying t = some (.slice e)) (he : P.underlying e = some (.struct #[f0, f1, f2]))
    (ce : P.cellsOf e = 3) (o0 : f0.offset = 0) (o1 : f1.offset = 1) (o2 : f2.offset = 2) (c0 : P.cellsOf f0.type = 1) (c1 : P.cellsOf f1.type = 1) (c2 : P.cellsOf f2.type = 1)
    (t0 : P.underlying f0.type = some .string) (t1 : P.underlying f1.type = some .bool) (t2 : P.underlying f2.type = some (.int .i64))
    (hv : Value.okWide P w r b0 t v) (h : DataW.Trod enc P w base spare held t v d p) : ∃ l, ActsAt w v l := by
  obtain ⟨fuel, hf⟩ := h
  obtain ⟨a', len', cap', rfl⟩ := okWide_slice ht hv
  have hcs : (Value.slice a' len' cap').cells.toList = [Value.slice a' len' cap'] := by simp [Value.cells]
  rcases open_slice ht hf with ⟨h0, _⟩ | ⟨a, len, cap, m, n, D, Pl, h0, hb, hl, hm, hmm, _, hx⟩
  · rw [hcs] at h0
    simp at h0
    obtain ⟨_, rfl, _⟩ := h0
    exact ⟨[], .inl ⟨_, _, rfl, rfl⟩⟩
  · rw [hcs] at h0
    simp at h0
    obtain ⟨rfl, rfl, rfl⟩ := h0
    have hlm : len' ≤ m := by rw [hmm]; split <;> omega
    rcases Nat.eq_zero_or_pos len' with hz | hz
    · subst hz
      exact ⟨[], .inl ⟨_, _, rfl, rfl⟩⟩
    have each : ∀ i, i < len' → ∃ x : ActV, w.cell? (a.add (i * 3)) = some (.string x.data) ∧ w.cell? ((a.add (i * 3)).add 1) = some (.bool x.tear) ∧ w.cell? ((a.add (i * 3)).add 2) = some (.int .i64 x.keep) ∧ x.data.size ≤ 9223372036854775807 := by
      intro i hi
      obtain ⟨cs', h1, h2⟩ := hx i (by omega)
      rw [ce] at h1
      obtain ⟨_, hlen, hcell⟩ := World.cells?_some h1
      obtain ⟨xs, k, hk, hxy, _, hxl, hf⟩ := DataW.trod_struct he h2
      match xs, hxl, cs', hlen with
      | [y0, y1, y2], _, [v0, v1, v2], _ =>
        have g0 := hf 0 f0 rfl
        have g1 := hf 1 f1 rfl
        have g2 := hf 2 f2 rfl
        simp [o0, o1, o2, c0, c1, c2] at g0 g1 g2
        obtain ⟨s, e0, _, hs⟩ := DataW.trod_string t0 g0
        obtain ⟨b, e1, _⟩ := DataW.trod_bool t1 g1
        obtain ⟨z, e2, _, _⟩ := DataW.trod_int t2 g2
        simp at e0 e1 e2
        subst e0 e1 e2
        have q0 := hcell 0 (by omega)
        have q1 := hcell 1 (by omega)
        have q2 := hcell 2 (by omega)
        exact ⟨⟨s, b, z⟩, by simpa [Addr.add] using q0, by simpa using q1, by simpa using q2, by unfold maxLen at hs; exact hs⟩
    obtain ⟨q, hq⟩ := choose_lt each
    obtain ⟨b, off, spot⟩ := a
    have hspot : spot = none := by simpa [Addr.add] using World.cell?_spot (hq 0 hz).1
    subst hspot
    have hB := cell_lt (hq 0 hz).1
    refine ⟨(List.range len').map q, .inr ⟨b, off, cap', by simp, by simp; unfold maxLen at hm; omega, by simpa [Addr.add] using hB, fun i hi => ?_⟩⟩
    have hi' : i < len' := by simpa using hi
    obtain ⟨k0, k1, k2, k3⟩ := hq i hi'
    rw [List.getElem_map, List.getElem_range]
    refine ⟨?_, ?_, ?_, k3⟩
    · rw [← k0]; congr 1; simp [Addr.add]
    · rw [← k1]; congr 1; simp [Addr.add]; split <;> simp_all
    · rw [← k2]; congr 1; simp [Addr.add]; split <;> simp_all
end
def e0 : ByteArray := ⟨#[]⟩
theorem awake_txt : txtD ⟨#[]⟩ ⟨#[]⟩ = ⟨#[]⟩ := by decide +kernel
theorem awake_none : anyD ⟨#[]⟩ ⟨#[]⟩ = false := by decide +kernel
def aw1 : ByteArray × ByteArray := actD (⟨#[]⟩, ⟨#[]⟩) ⟨⟨#[97]⟩, false, 0⟩
def aw2 : ByteArray × ByteArray := actD aw1 ⟨⟨#[98]⟩, true, 5⟩
def aw3 : ByteArray × ByteArray := actD aw2 ⟨⟨#[99]⟩, false, 0⟩
theorem aw2_txt : txtD aw2.1 aw2.2 = ⟨#[97]⟩ := by decide +kernel
theorem aw2_any : anyD aw2.1 aw2.2 = true := by decide +kernel
theorem aw3_txt : txtD aw3.1 aw3.2 = ⟨#[99]⟩ := by decide +kernel
set_option maxRecDepth 100000 in
theorem aw3_size : aw3.1.size = 15 := by decide +kernel
set_option maxRecDepth 100000 in
set_option maxHeartbeats 1000000 in
theorem awake08_any (w : World) : Calls Try.prog 29 #[] w fun e w' => e = .returned (.bool true) ∧ Below w.heap.size w w' := by
  have z1 := act_size (⟨#[]⟩, ⟨#[]⟩) ⟨⟨#[97]⟩, false, 0⟩ (by decide) (by decide)
  have z2 := act_size aw1 ⟨⟨#[98]⟩, true, 5⟩ z1.1 z1.2
  have z3 := act_size aw2 ⟨⟨#[99]⟩, false, 0⟩ z2.1 z2.2
  change aw1.1.size ≤ _ ∧ aw1.2.size ≤ _ at z1
  change aw2.1.size ≤ _ ∧ aw2.2.size ≤ _ at z2
  change aw3.1.size ≤ _ ∧ aw3.2.size ≤ _ at z3
  have k1 : codeD ⟨⟨#[97]⟩, false, 0⟩ = 0 := by decide +kernel
  have k2 : codeD ⟨⟨#[98]⟩, true, 5⟩ = 0 := by decide +kernel
  have k3 : codeD ⟨⟨#[99]⟩, false, 0⟩ = 0 := by decide +kernel
  have hW1 : ∀ (W : World) (D : Nat), DkAt W D ⟨#[]⟩ ⟨#[]⟩ → Calls Try.prog 51 #[.pointer (some ⟨D, 0, none⟩), .string ⟨#[97]⟩] W fun e w' => e = .returned (.int .i64 0) ∧ DkStep W D aw1.1 aw1.2 w' := fun W D h => by
    have := dWrite_any D ⟨#[]⟩ ⟨#[]⟩ ⟨#[97]⟩ 0 W h (by decide) (by decide) (by decide +kernel)
    unfold ActPost at this; rw [k1] at this; exact this
  have hW2 : ∀ (W : World) (D : Nat), DkAt W D aw1.1 aw1.2 → Calls Try.prog 52 #[.pointer (some ⟨D, 0, none⟩), .string ⟨#[98]⟩, .int .i64 5] W fun e w' => e = .returned (.int .i64 0) ∧ DkStep W D aw2.1 aw2.2 w' := fun W D h => by
    have := dTear_any D aw1.1 aw1.2 ⟨#[98]⟩ 5 W h (by omega) (by omega) (by decide +kernel)
    unfold ActPost at this; rw [k2] at this; exact this
  have hW3 : ∀ (W : World) (D : Nat), DkAt W D aw2.1 aw2.2 → Calls Try.prog 51 #[.pointer (some ⟨D, 0, none⟩), .string ⟨#[99]⟩] W fun e w' => e = .returned (.int .i64 0) ∧ DkStep W D aw3.1 aw3.2 w' := fun W D h => by
    have := dWrite_any D aw2.1 aw2.2 ⟨#[99]⟩ 0 W h (by omega) (by omega) (by decide +kernel)
    unfold ActPost at this; rw [k3] at this; exact this
  have hR0 : ∀ (W : World) (D : Nat), DkAt W D ⟨#[]⟩ ⟨#[]⟩ → Calls Try.prog 35 #[.pointer (some ⟨D, 0, none⟩)] W fun e w' => e = .returned (.tuple #[.string ⟨#[]⟩, .bool false]) ∧ Below W.heap.size W w' := fun W D h => by
    have := dRead_any D ⟨#[]⟩ ⟨#[]⟩ W h (by decide) (by decide)
    rw [awake_txt, awake_none] at this; exact this
  have hR2 : ∀ (W : World) (D : Nat), DkAt W D aw2.1 aw2.2 → Calls Try.prog 35 #[.pointer (some ⟨D, 0, none⟩)] W fun e w' => e = .returned (.tuple #[.string ⟨#[97]⟩, .bool true]) ∧ Below W.heap.size W w' := fun W D h => by
    have := dRead_any D aw2.1 aw2.2 W h (by omega) (by omega)
    rw [aw2_txt, aw2_any] at this; exact this
  have hR3 : ∀ (W : World) (D : Nat), DkAt W D aw3.1 aw3.2 → Calls Try.prog 35 #[.pointer (some ⟨D, 0, none⟩)] W fun e w' => e = .returned (.tuple #[.string ⟨#[99]⟩, .bool (anyD aw3.1 aw3.2)]) ∧ Below W.heap.size W w' := fun W D h => by
    have := dRead_any D aw3.1 aw3.2 W h (by omega) (by omega)
    rw [aw3_txt] at this; exact this
  have h15 := aw3_size
  generalize anyD aw3.1 aw3.2 = any3 at *
  generalize aw1 = p1 at *
  generalize aw2 = p2 at *
  generalize aw3 = p3 at *
  obtain ⟨a1, b1⟩ := p1
  obtain ⟨a2, b2⟩ := p2
  obtain ⟨a3, b3⟩ := p3
  have HS := Lib.hid (And.intro hW1 (And.intro hW2 (And.intro hW3 (And.intro hR0 (And.intro hR2 hR3)))))
  clear hW1 hW2 hW3 hR0 hR2 hR3 z1 z2 z3 k1 k2 k3
  go_enter Try.func29, Try.ntmps29
  go_wp2_with fail
  refine (dNew_any _).mono ?_
  rintro e w0 ⟨rfl, hw0⟩
  have h0 : DkAt w0 w.heap.size ⟨#[]⟩ ⟨#[]⟩ := by rw [← hw0]; exact DkAt.new _ _ _ _
  have hb0 : Below w.heap.size w w0 := by rw [← hw0]; exact ba (br _) _
  clear hw0
  go_wp2_with fail
  refine (HS.out.2.2.2.1 _ _ h0).mono ?_
  rintro e w1 ⟨rfl, hb1⟩
  have h1 := h0.below hb1 h0.lt
  have hb1 := hb0.trans (hb1.mono hb0.size)
  go_wp2_with fail
  refine (HS.out.1 _ _ h1).mono ?_
  rintro e w2 ⟨rfl, hs2⟩
  have hb2 := hs2.out hb1 (Nat.le_refl _) hb1.size
  go_wp2_with fail
  refine (HS.out.2.1 _ _ hs2.1).mono ?_
  rintro e w3 ⟨rfl, hs3⟩
  have hb3 := hs3.out hb2 (Nat.le_refl _) hb2.size
  go_wp2_with fail
  refine (HS.out.2.2.2.2.1 _ _ hs3.1).mono ?_
  rintro e w4 ⟨rfl, hb4⟩
  have h4 := hs3.1.below hb4 hs3.1.lt
  have hb4 := hb3.trans (hb4.mono hb3.size)
  go_wp2_with fail
  refine (HS.out.2.2.1 _ _ h4).mono ?_
  rintro e w5 ⟨rfl, hs5⟩
  have hb5 := hs5.out hb4 (Nat.le_refl _) hb4.size
  go_wp2_with fail
  refine (HS.out.2.2.2.2.2 _ _ hs5.1).mono ?_
  rintro e w6 ⟨rfl, hb6⟩
  have h6 := hs5.1.below hb6 hs5.1.lt
  have hb6 := hb5.trans (hb6.mono hb5.size)
  go_wp2_with fail
  refine (dSlot0_any _ _ _ _ h6).mono ?_
  rintro e w7 ⟨rfl, rfl⟩
  go_wp2_with fail
  refine (dSlot2_any _ _).mono ?_
  rintro e w7 ⟨rfl, rfl⟩
  go_wp2
  go_ret
  exact ⟨rfl, hb6⟩
end Go.Proofs.Ytchonlodehogpaa
