/-
  What the disk's methods do to its block.
  Conditions: slots of at most 1000000 bytes.
-/
import Derived.Test.YtchonlodehogpaaDiskB
namespace Go.Proofs.Ytchonlodehogpaa
set_option linter.unusedVariables false
open Go.RowKit
/-- a disk's block -/
def DkAt (w : World) (D : Nat) (a b : ByteArray) : Prop := w.cell? ⟨D, 0, none⟩ = some (.string a) ∧ w.cell? ⟨D, 1, none⟩ = some (.string b) ∧ w.frozen? ⟨D, 0, none⟩ = false ∧ w.frozen? ⟨D, 1, none⟩ = false
def DkStep (w : World) (D : Nat) (a b : ByteArray) (w' : World) : Prop := DkAt w' D a b ∧ w.grownBy w' (some D)
theorem DkAt.lt {w : World} {D : Nat} {a b : ByteArray} (h : DkAt w D a b) : D < w.heap.size := by
  rcases Nat.lt_or_ge D w.heap.size with h' | h'
  · exact h'
  · have := h.1; simp [World.cell?, Array.getElem?_eq_none h'] at this
theorem DkAt.below {w w' : World} {D B : Nat} {a b : ByteArray} (h : DkAt w D a b) (hb : Below B w w') (hD : D < B) : DkAt w' D a b :=
  ⟨(hb.cell (p := ⟨D, 0, none⟩) hD).trans h.1, (hb.cell (p := ⟨D, 1, none⟩) hD).trans h.2.1, (hb.frozen (p := ⟨D, 0, none⟩) hD).trans h.2.2.1, (hb.frozen (p := ⟨D, 1, none⟩) hD).trans h.2.2.2⟩
theorem DkAt.new (a b : ByteArray) (w : World) (t : TypeId) : DkAt (w.alloc (.cells #[.string a, .string b] t)) w.heap.size a b := ⟨by simp [go_sem], by simp [go_sem], by simp [go_sem], by simp [go_sem]⟩
theorem DkStep.below {w w' : World} {D : Nat} {a b : ByteArray} (h : DkAt w D a b) (hb : Below w.heap.size w w') : DkStep w D a b w' :=
  ⟨h.below hb h.lt, ⟨hb.os, hb.tape, hb.output, hb.size, fun k hk _ => hb.block k hk⟩⟩
theorem DkStep.pre {w w1 w2 : World} {D : Nat} {a b : ByteArray} (hb : Below w.heap.size w w1) (h : DkStep w1 D a b w2) : DkStep w D a b w2 := by
  obtain ⟨h, hg⟩ := h
  exact ⟨h, ⟨hg.os.trans hb.os, hg.tape.trans hb.tape, hg.output.trans hb.output, Nat.le_trans hb.size hg.size, fun k hk hne => (hg.block k (Nat.lt_of_lt_of_le hk hb.size) hne).trans (hb.block k hk)⟩⟩
theorem DkStep.put0 {w w1 : World} {D : Nat} {a b : ByteArray} (h : DkAt w D a b) (hb : Below w.heap.size w w1) (m : Nat) (x : ByteArray) : DkStep w D x b ((w1.drewN m).setCell ⟨D, 0, none⟩ (.string x)) := by
  refine DkStep.pre hb ?_
  obtain ⟨h0, h1, f0, f1⟩ := h.below hb h.lt
  refine ⟨⟨?_, ?_, ?_, ?_⟩, ⟨rfl, rfl, rfl, by simp [World.setCell], fun k _ hk => ?_⟩⟩
  · rw [World.cell?_setCell_same' _ _ _ (by rw [World.cell?_drewN, h0]; rfl)]
  · rw [World.cell?_setCell_other _ _ _ _ (fun h => by injection h with _ h; cases h)]; exact h1
  · rw [World.frozen?_setCell]; exact f0
  · rw [World.frozen?_setCell]; exact f1
  · exact Below.heap_setCell _ _ _ _ (fun e => hk (by rw [e]))
theorem DkStep.put1 {w w1 : World} {D : Nat} {a b : ByteArray} (h : DkAt w D a b) (hb : Below w.heap.size w w1) (m : Nat) (x : ByteArray) : DkStep w D a x ((w1.drewN m).setCell ⟨D, 1, none⟩ (.string x)) := by
  refine DkStep.pre hb ?_
  obtain ⟨h0, h1, f0, f1⟩ := h.below hb h.lt
  refine ⟨⟨?_, ?_, ?_, ?_⟩, ⟨rfl, rfl, rfl, by simp [World.setCell], fun k _ hk => ?_⟩⟩
  · rw [World.cell?_setCell_other _ _ _ _ (fun h => by injection h with _ h; cases h)]; exact h0
  · rw [World.cell?_setCell_same' _ _ _ (by rw [World.cell?_drewN, h1]; rfl)]
  · rw [World.frozen?_setCell]; exact f0
  · rw [World.frozen?_setCell]; exact f1
  · exact Below.heap_setCell _ _ _ _ (fun e => hk (by rw [e]))
theorem DkStep.put0d {w w1 : World} {D : Nat} {a b : ByteArray} (h : DkAt w D a b) (hb : Below w.heap.size w w1) (x y : ByteArray) (hxy : x = y) : DkStep w D x b (w1.setCell ⟨D, 0, none⟩ (.string y)).drew := by
  subst hxy
  have h2 := DkStep.put0 h hb 0 x
  exact ⟨h2.1, ⟨h2.2.os, h2.2.tape, h2.2.output, h2.2.size, h2.2.block⟩⟩
theorem DkStep.put1d {w w1 : World} {D : Nat} {a b : ByteArray} (h : DkAt w D a b) (hb : Below w.heap.size w w1) (x y : ByteArray) (hxy : x = y) : DkStep w D a x (w1.setCell ⟨D, 1, none⟩ (.string y)).drew := by
  subst hxy
  have h2 := DkStep.put1 h hb 0 x
  exact ⟨h2.1, ⟨h2.2.os, h2.2.tape, h2.2.output, h2.2.size, h2.2.block⟩⟩
theorem DkStep.out {w0 w w1 : World} {D : Nat} {a b : ByteArray} {B : Nat} (h : DkStep w D a b w1) (hb : Below B w0 w) (hD : B ≤ D) (hB : B ≤ w.heap.size) : Below B w0 w1 :=
  hb.grown h.2 hB (fun k hk => by injection hk with hk; omega)
theorem dNew_any (w : World) :
    Calls Try.prog 31 #[] w fun e w' => e = .returned (.pointer (some ⟨w.heap.size, 0, none⟩)) ∧ w.alloc (.cells #[.string ⟨#[]⟩, .string ⟨#[]⟩] 82) = w' := by
  go_enter Try.func31, Try.ntmps31
  go_wp2
  go_ret
  exact ⟨rfl, rfl⟩
theorem dCopy_any (D : Nat) (a b : ByteArray) (w : World) (h : DkAt w D a b) :
    Calls Try.prog 38 #[.pointer (some ⟨D, 0, none⟩)] w fun e w' => e = .returned (.pointer (some ⟨w.heap.size, 0, none⟩)) ∧ DkAt w' w.heap.size a b ∧ Below w.heap.size w w' := by
  obtain ⟨h0, h1, f0, f1⟩ := h
  go_enter Try.func38, Try.ntmps38
  go_wp2
  go_ret
  exact ⟨rfl, DkAt.new a b w _, ba (br _) _⟩
theorem dSlot0_any (D : Nat) (a b : ByteArray) (w : World) (h : DkAt w D a b) :
    Calls Try.prog 37 #[.pointer (some ⟨D, 0, none⟩), .int .i64 0] w fun e w' => e = .returned (.string a) ∧ w = w' := by
  obtain ⟨h0, h1, f0, f1⟩ := h
  go_enter Try.func37, Try.ntmps37
  go_wp2
  go_ret
  exact ⟨rfl, rfl⟩
theorem dSlot1_any (D : Nat) (a b : ByteArray) (w : World) (h : DkAt w D a b) :
    Calls Try.prog 37 #[.pointer (some ⟨D, 0, none⟩), .int .i64 1] w fun e w' => e = .returned (.string b) ∧ w = w' := by
  obtain ⟨h0, h1, f0, f1⟩ := h
  go_enter Try.func37, Try.ntmps37
  go_wp2
  go_ret
  exact ⟨rfl, rfl⟩
theorem dSlot2_any (D : Nat) (w : World) :
    Calls Try.prog 37 #[.pointer (some ⟨D, 0, none⟩), .int .i64 2] w fun e w' => e = .returned (.string ⟨#[]⟩) ∧ w = w' := by
  go_enter Try.func37, Try.ntmps37
  go_wp2
  go_ret
  exact ⟨rfl, rfl⟩
theorem dSlotN_any (D : Nat) (w : World) :
    Calls Try.prog 37 #[.pointer (some ⟨D, 0, none⟩), .int .i64 (-1)] w fun e w' => e = .returned (.string ⟨#[]⟩) ∧ w = w' := by
  go_enter Try.func37, Try.ntmps37
  go_wp2
  go_ret
  exact ⟨rfl, rfl⟩
theorem dRead_any (D : Nat) (a b : ByteArray) (w : World) (h : DkAt w D a b) (ha : a.size ≤ 1000000) (hb : b.size ≤ 1000000) :
    Calls Try.prog 35 #[.pointer (some ⟨D, 0, none⟩)] w fun e w' => e = .returned (.tuple #[.string (txtD a b), .bool (anyD a b)]) ∧ Below w.heap.size w w' := by
  obtain ⟨h0, h1, f0, f1⟩ := h
  go_enter Try.func35, Try.ntmps35
  go_wp2_with fail
  refine (newest_any a b _ ha hb).mono ?_
  rintro e w1 ⟨rfl, hb1⟩
  go_wp2
  go_ret2
  exact ⟨rfl, hb1⟩
def wAt (a b : ByteArray) : Int := if atD a b = 0 then 1 else 0
theorem atD_cases (a b : ByteArray) : atD a b = -1 ∨ atD a b = 0 ∨ atD a b = 1 := by
  unfold atD
  split
  · exact .inr (.inr rfl)
  · split
    · exact .inr (.inl rfl)
    · exact .inl rfl
set_option maxHeartbeats 1000000 in
theorem dBytes_any (D : Nat) (a b s : ByteArray) (w : World) (h : DkAt w D a b) (ha : a.size ≤ 1000000) (hb : b.size ≤ 1000000) (hs : s.size ≤ 8192) :
    Calls Try.prog 59 #[.pointer (some ⟨D, 0, none⟩), .string s] w fun e w' => e = .returned (.tuple #[.string (newB a b s), .int .i64 (wAt a b)]) ∧ Below w.heap.size w w' := by
  obtain ⟨h0, h1, f0, f1⟩ := h
  have hw : IntKind.u64.wrap ((numD a b : Int) + 1) = (nextN a b : Int) := by rw [IntKind.wrap_u64]; unfold nextN; omega
  have hN : nextN a b < 18446744073709551616 := Nat.mod_lt _ (by omega)
  have hnew := newest_any a b w ha hb
  have hAt : ∀ A : Int, atD a b = A → (A = -1 ∧ wAt a b = 0) ∨ (A = 0 ∧ wAt a b = 1) ∨ (A = 1 ∧ wAt a b = 0) := by
    rintro A rfl
    unfold wAt
    rcases atD_cases a b with h | h | h <;> simp [h]
  unfold newB recB recT
  generalize numD a b = n at *
  generalize nextN a b = N at *
  generalize atD a b = A at *
  generalize wAt a b = K at *
  have hAt := hAt A rfl
  generalize txtD a b = T at *
  have HN := Lib.hid hnew
  clear hnew
  obtain ⟨H, hH⟩ : ∃ H, H = strL (putL N 8 ++ putL s.size 2) := ⟨_, rfl⟩
  have hsz : H.size = 10 := by rw [hH]; unfold strL; rw [size_mk, List.length_append, putL_length, putL_length]
  rw [← hH]
  have HH := Lib.hid hH
  clear hH
  rcases hAt with ⟨rfl, rfl⟩ | ⟨rfl, rfl⟩ | ⟨rfl, rfl⟩
  all_goals
    go_enter Try.func59, Try.ntmps59
    go_wp2_with fail
    refine HN.out.mono ?_
    rintro e w1 ⟨rfl, hb1⟩
    go_wp2_with fail
    refine (Put_any (.slice none 0 0) [] N 8 _ (.inl ⟨rfl, rfl⟩) (by simp) hN (by omega) (by omega)).mono ?_
    rintro e w2 ⟨v2, rfl, hv2⟩
    have hb2 : Below w.heap.size w w2 := by obtain ⟨_, _, _, hx, _⟩ := hv2; exact bt hb1 hx
    go_wp2_with fail
    refine (Put_any v2 (putL N 8) s.size 2 _ hv2.src (by rw [putL_length]; omega) (by omega) (by omega) (by omega)).mono ?_
    rintro e w3 ⟨v3, rfl, g, cap, rfl, hb3, _, _, hc3⟩
    have hb3 := bt hb2 hb3
    have hlen : (putL N 8 ++ putL s.size 2).length = 10 := by rw [List.length_append, putL_length, putL_length]
    rw [hlen]
    have hcv := conv_cells (putL N 8 ++ putL s.size 2) w3 g 10 cap hlen hc3
    change (convert 30 9 _).run Try.prog w3 = .ok (.string (strL _)) w3 at hcv
    rw [← HH.out] at hcv
    go_wp2_with fail
    refine (Seal_any (H ++ s) _ (by rw [ByteArray.size_append]; omega)).mono ?_
    rintro e w4 ⟨rfl, hb4⟩
    have hb4 := bt hb3 hb4
    go_wp2
    go_ret2
    exact ⟨rfl, hb4⟩
/-- an act's end -/
def ActPost (w : World) (D : Nat) (a b : ByteArray) (x : ActV) (e : Ending) (w' : World) : Prop := e = .returned (.int .i64 (codeD x)) ∧ DkStep w D (actD (a, b) x).1 (actD (a, b) x).2 w'
set_option maxHeartbeats 1000000 in
theorem dWrite_any (D : Nat) (a b s : ByteArray) (k : Int) (w : World) (h : DkAt w D a b) (ha : a.size ≤ 1000000) (hb : b.size ≤ 1000000) (hs : s.size ≤ 9223372036854775807) :
    Calls Try.prog 51 #[.pointer (some ⟨D, 0, none⟩), .string s] w (ActPost w D a b ⟨s, false, k⟩) := by
  by_cases h8 : 8192 < s.size
  · have d1 : decide ((8192 : Int) < (s.size : Int)) = true := by simp; omega
    have d2 : decide (8192 < s.size) = true := by simp; omega
    have e1 : codeD ⟨s, false, k⟩ = 3 := if_pos h8
    have e2 := act_long (a, b) ⟨s, false, k⟩ h8
    unfold ActPost
    rw [e1, e2]
    clear e1 e2 h8
    go_enter Try.func51, Try.ntmps51
    go_wp2
    go_ret
    exact ⟨rfl, DkStep.below h (br _)⟩
  have d1 : decide ((8192 : Int) < (s.size : Int)) = false := by simp; omega
  have d2 : decide (8192 < s.size) = false := by simp; omega
  have hs8 : s.size ≤ 8192 := by omega
  have hB := dBytes_any D a b s w h ha hb hs8
  have e1 : codeD ⟨s, false, k⟩ = 0 := if_neg h8
  have e2 : actD (a, b) ⟨s, false, k⟩ = putD a b (newB a b s) := if_neg h8
  unfold ActPost
  rw [e1, e2]
  unfold putD
  unfold wAt at hB
  generalize newB a b s = R at *
  clear e1 e2 h8
  by_cases hA : atD a b = 0
  · rw [if_pos hA] at hB ⊢
    have HB := Lib.hid hB
    have H := Lib.hid h
    clear hB h hA
    go_enter Try.func51, Try.ntmps51
    go_wp2_with fail
    refine HB.out.mono ?_
    rintro e w1 ⟨rfl, hb1⟩
    obtain ⟨h0, h1, f0, f1⟩ := H.out.below hb1 H.out.lt
    go_wp2
    go_ret
    exact ⟨rfl, DkStep.put1 H.out hb1 0 R⟩
  · rw [if_neg hA] at hB ⊢
    have HB := Lib.hid hB
    have H := Lib.hid h
    clear hB h hA
    go_enter Try.func51, Try.ntmps51
    go_wp2_with fail
    refine HB.out.mono ?_
    rintro e w1 ⟨rfl, hb1⟩
    obtain ⟨h0, h1, f0, f1⟩ := H.out.below hb1 H.out.lt
    go_wp2
    go_ret
    exact ⟨rfl, DkStep.put0 H.out hb1 0 R⟩
set_option maxHeartbeats 1000000 in
theorem dTear_any (D : Nat) (a b s : ByteArray) (k : Int) (w : World) (h : DkAt w D a b) (ha : a.size ≤ 1000000) (hb : b.size ≤ 1000000) (hs : s.size ≤ 9223372036854775807) :
    Calls Try.prog 52 #[.pointer (some ⟨D, 0, none⟩), .string s, .int .i64 k] w (ActPost w D a b ⟨s, true, k⟩) := by
  by_cases h8 : 8192 < s.size
  · have d1 : decide ((8192 : Int) < (s.size : Int)) = true := by simp; omega
    have d2 : decide (8192 < s.size) = true := by simp; omega
    have e1 : codeD ⟨s, true, k⟩ = 3 := if_pos h8
    have e2 := act_long (a, b) ⟨s, true, k⟩ h8
    unfold ActPost
    rw [e1, e2]
    clear e1 e2 h8
    go_enter Try.func52, Try.ntmps52
    go_wp2
    go_ret
    exact ⟨rfl, DkStep.below h (br _)⟩
  have d1 : decide ((8192 : Int) < (s.size : Int)) = false := by simp; omega
  have d2 : decide (8192 < s.size) = false := by simp; omega
  have hs8 : s.size ≤ 8192 := by omega
  have hB := dBytes_any D a b s w h ha hb hs8
  have e1 : codeD ⟨s, true, k⟩ = 0 := if_neg h8
  have e2 : actD (a, b) ⟨s, true, k⟩ = putD a b ((newB a b s).extract 0 (keepN (newB a b s) k)) := if_neg h8
  have hz : (newB a b s).size = s.size + 14 := recB_size _ _
  unfold ActPost
  rw [e1, e2]
  unfold putD
  unfold wAt at hB
  have hk : (keepN (newB a b s) k : Int) = max 0 (min k (((newB a b s).size : Int) - 1)) := by unfold keepN; omega
  generalize keepN (newB a b s) k = K at *
  generalize newB a b s = R at *
  clear e1 e2 h8
  have hk0 : max 0 (min k ((R.size : Int) - 1)) ≤ (R.size : Int) := by omega
  have hk1 : (0 : Int) ≤ max 0 (min k ((R.size : Int) - 1)) := by omega
  have hE : K = 0 → R.extract 0 K = ByteArray.empty := by rintro rfl; apply bax; rw [ext_list]; rfl
  by_cases hA : atD a b = 0
  · rw [if_pos hA] at hB ⊢
    have HB := Lib.hid hB
    have H := Lib.hid h
    have HE := Lib.hid hE
    clear hB h hA hE
    go_enter Try.func52, Try.ntmps52
    go_wp2_with fail
    refine HB.out.mono ?_
    rintro e w1 ⟨rfl, hb1⟩
    obtain ⟨h0, h1, f0, f1⟩ := H.out.below hb1 H.out.lt
    go_wp2
    go_region
    go_wp2
    all_goals go_ret
    all_goals
      first
      | exact ⟨rfl, DkStep.put1d H.out hb1 _ _ (by congr 1; omega)⟩
      | exact ⟨rfl, DkStep.put1d H.out hb1 _ _ (HE.out (by omega))⟩
  · rw [if_neg hA] at hB ⊢
    have HB := Lib.hid hB
    have H := Lib.hid h
    have HE := Lib.hid hE
    clear hB h hA hE
    go_enter Try.func52, Try.ntmps52
    go_wp2_with fail
    refine HB.out.mono ?_
    rintro e w1 ⟨rfl, hb1⟩
    obtain ⟨h0, h1, f0, f1⟩ := H.out.below hb1 H.out.lt
    go_wp2
    go_region
    go_wp2
    all_goals go_ret
    all_goals
      first
      | exact ⟨rfl, DkStep.put0d H.out hb1 _ _ (by congr 1; omega)⟩
      | exact ⟨rfl, DkStep.put0d H.out hb1 _ _ (HE.out (by omega))⟩
def actV (x : ActV) : Value := .agg #[.string x.data, .bool x.tear, .int .i64 x.keep]
theorem do_any (D : Nat) (a b : ByteArray) (x : ActV) (w : World) (h : DkAt w D a b) (ha : a.size ≤ 1000000) (hb : b.size ≤ 1000000) (hs : x.data.size ≤ 9223372036854775807) :
    Calls Try.prog 32 #[.pointer (some ⟨D, 0, none⟩), actV x] w (ActPost w D a b x) := by
  obtain ⟨s, t, k⟩ := x
  have hb1 : Below w.heap.size w (w.alloc (.cells #[.string s, .bool t, .int .i64 k] 56)) := ba (br _) _
  have h1 := h.below hb1 h.lt
  cases t
  · have hC := dWrite_any D a b s k _ h1 ha hb hs
    have HC := Lib.hid hC
    clear hC h1
    go_enter Try.func32, Try.ntmps32
    unfold actV
    go_wp2_with fail
    refine HC.out.mono ?_
    rintro e w1 ⟨rfl, hst⟩
    go_wp2
    go_ret
    exact ⟨rfl, hst.pre hb1⟩
  · have hC := dTear_any D a b s k _ h1 ha hb hs
    have HC := Lib.hid hC
    clear hC h1
    go_enter Try.func32, Try.ntmps32
    unfold actV
    go_wp2_with fail
    refine HC.out.mono ?_
    rintro e w1 ⟨rfl, hst⟩
    go_wp2
    go_ret
    exact ⟨rfl, hst.pre hb1⟩
end Go.Proofs.Ytchonlodehogpaa
