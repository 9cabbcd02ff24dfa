/-
  A new monitor; a trace that came in; which traces are gone through; what the law asks of a new monitor.
  Conditions: those that each theorem names.
-/
import Derived.Test.YtogagkgkmoppmaaMonX
import Derived.Test.YtogagkgkmoppmaaEvs
namespace Go.Proofs.Ytogagkgkmoppmaa
set_option linter.unusedVariables false
set_option linter.unusedSimpArgs false
open Go.RowKit GM
def newM (s : Nat) : MM := ⟨⟨s, s + 1, s + 2, none, 0, 0, s + 3, s + 4, 0, 0, 0, 0⟩, [], [], [], [], [], []⟩
def NewEnd (w : World) (b0 : Nat) (R : List Pc) (e : Ending) (w' : World) : Prop := ∃ B M, e = .returned (.pointer (some ⟨B, 0, none⟩)) ∧ Now w B b0 M R w' ∧ MOk M ∧ Sz 0 M ∧ proj M = PM0 ∧ w.heap.size ≤ B
def newW (w : World) : World := (((((w.alloc (.map #[] 0)).alloc (.map #[] 0)).alloc (.map #[] 0)).alloc (.map #[] 0)).alloc (.map #[] 0)).alloc (.cells (monC (newM w.heap.size).c) 54)
theorem new_own {w : World} {b0 : Nat} {R : List Pc} (h : Own w b0 R) (hb0 : b0 ≤ w.heap.size) : Now w (w.heap.size + 5) b0 (newM w.heap.size) R (newW w) := by
  obtain ⟨s, hs⟩ : ∃ s, s = w.heap.size := ⟨_, rfl⟩
  have z1 : (w.alloc (.map #[] 0)).heap.size = s + 1 := by simp [hs]
  obtain ⟨w1, e1⟩ : ∃ w1, w1 = w.alloc (.map #[] 0) := ⟨_, rfl⟩
  obtain ⟨w2, e2⟩ : ∃ w2, w2 = w1.alloc (.map #[] 0) := ⟨_, rfl⟩
  obtain ⟨w3, e3⟩ : ∃ w3, w3 = w2.alloc (.map #[] 0) := ⟨_, rfl⟩
  obtain ⟨w4, e4⟩ : ∃ w4, w4 = w3.alloc (.map #[] 0) := ⟨_, rfl⟩
  obtain ⟨w5, e5⟩ : ∃ w5, w5 = w4.alloc (.map #[] 0) := ⟨_, rfl⟩
  obtain ⟨w6, e6⟩ : ∃ w6, w6 = w5.alloc (.cells (monC (newM s).c) 54) := ⟨_, rfl⟩
  have z1 : w1.heap.size = s + 1 := by rw [e1]; exact z1
  have z2 : w2.heap.size = s + 2 := by rw [e2]; simp [z1]
  have z3 : w3.heap.size = s + 3 := by rw [e3]; simp [z2]
  have z4 : w4.heap.size = s + 4 := by rw [e4]; simp [z3]
  have z5 : w5.heap.size = s + 5 := by rw [e5]; simp [z4]
  have h0 : Own w b0 (rowP (newM s) :: R) := own_new _ h hb0 (br w) ⟨rfl, .inl ⟨rfl, rfl⟩⟩ (fun b e => by cases e)
  have h1 : Own w1 b0 (sendsPc (newM s) :: rowP (newM s) :: R) := own_new _ h0 hb0 (by rw [e1]; exact ba (br _) _) (by rw [e1]; show GMap placeV _ s _; rw [hs]; exact GMap.made placeV w) (fun b e => by injection e with e; show w.heap.size ≤ b; rw [← hs, ← e]; exact Nat.le_refl _)
  have h2 : Own w2 b0 (seenPc (newM s) :: sendsPc (newM s) :: rowP (newM s) :: R) := own_new _ h1 (by omega) (by rw [e2]; exact ba (br _) _) (by rw [e2]; show GMap hadV _ (s + 1) _; rw [← z1]; exact GMap.made hadV w1) (fun b e => by injection e with e; rw [z1, ← e]; exact Nat.le_refl _)
  have h3 : Own w3 b0 (memsPc (newM s) :: seenPc (newM s) :: sendsPc (newM s) :: rowP (newM s) :: R) := own_new _ h2 (by omega) (by rw [e3]; exact ba (br _) _) (by rw [e3]; show GMap confV _ (s + 2) _; rw [← z2]; exact GMap.made confV w2) (fun b e => by injection e with e; rw [z2, ← e]; exact Nat.le_refl _)
  have h4 : Own w4 b0 (livePc (newM s) :: memsPc (newM s) :: seenPc (newM s) :: sendsPc (newM s) :: rowP (newM s) :: R) := own_new _ h3 (by omega) (by rw [e4]; exact ba (br _) _) (by rw [e4]; show GMap intV _ (s + 3) _; rw [← z3]; exact GMap.made intV w3) (fun b e => by injection e with e; rw [z3, ← e]; exact Nat.le_refl _)
  have h5 : Own w5 b0 (nowPc (newM s) :: livePc (newM s) :: memsPc (newM s) :: seenPc (newM s) :: sendsPc (newM s) :: rowP (newM s) :: R) := own_new _ h4 (by omega) (by rw [e5]; exact ba (br _) _) (by rw [e5]; show GMap intV _ (s + 4) _; rw [← z4]; exact GMap.made intV w4) (fun b e => by injection e with e; rw [z4, ← e]; exact Nat.le_refl _)
  have h6 : Own w6 b0 (monPc (s + 5) (newM s).c :: nowPc (newM s) :: livePc (newM s) :: memsPc (newM s) :: seenPc (newM s) :: sendsPc (newM s) :: rowP (newM s) :: R) := own_new _ h5 (by omega) (by rw [e6]; exact ba (br _) _) (by rw [e6]; show MAt _ (s + 5) _; rw [← z5]; exact heap_alloc_new w5 _) (fun b e => by injection e with e; rw [z5, ← e]; exact Nat.le_refl _)
  have hw : newW w = w6 := by rw [e6, e5, e4, e3, e2, e1, hs]; rfl
  rw [← hs, hw]
  have hb : Below w.heap.size w w6 := by rw [e6, e5, e4, e3, e2, e1]; exact ba (ba (ba (ba (ba (ba (br w) _) _) _) _) _) _
  refine ⟨h6.perm ?_, .of_below hb, Nat.le_trans hb0 hb.size⟩
  show (monPc (s + 5) (newM s).c :: ([nowPc (newM s), livePc (newM s), memsPc (newM s), seenPc (newM s), sendsPc (newM s)] ++ (rowP (newM s) :: R))).Perm (monPc (s + 5) (newM s).c :: ([nowPc (newM s), livePc (newM s), memsPc (newM s), seenPc (newM s), sendsPc (newM s)].reverse ++ (rowP (newM s) :: R)))
  exact List.Perm.cons _ (List.Perm.append_right _ (List.reverse_perm _).symm)
set_option maxHeartbeats 4000000 in
theorem new_any (w : World) (b0 : Nat) (R : List Pc) (h : Own w b0 R) (hb0 : b0 ≤ w.heap.size) : Calls Try.prog 8 #[] w (NewEnd w b0 R) := by
  have HE := Lib.hid (new_own h hb0)
  have hmm := @run_makeMap Try.prog
  clear h hb0
  go_enter Try.func8, Try.ntmps8
  go_wp2
  go_ret
  refine ⟨_, newM w.heap.size, rfl, HE.out, ⟨rfl, fun p hp => (by cases hp)⟩, ⟨Nat.le_refl _, fun x hx => (by cases hx), fun x hx => (by cases hx), fun k => Nat.le_refl _⟩, rfl, by omega⟩
def ev0 : Ev := ⟨5, 0, 0, 0, 0, 0, 0, ⟨0, 0, 0, 0, [], ⟨#[]⟩, none, 0⟩, 0, 0, 0, 0, none, 0, 0, ⟨#[]⟩⟩
def ev1 : Ev := ⟨2, 1, 0, 0, 0, 0, 0, ⟨0, 0, 0, 0, [], ⟨#[]⟩, none, 0⟩, 0, 0, 0, 0, none, 0, 0, ⟨#[]⟩⟩
theorem evA0 : evA ev0 = #[.int .i64 5, .int .i64 0, .int .u64 0, .int .i64 0, .int .u64 0, .int .i64 0, .int .u64 0, .int .i64 0, .int .u32 0, .int .u64 0, .int .i64 0, .slice none 0 0, .string ⟨#[]⟩, .int .u64 0, .int .u64 0, .int .i64 0, .int .u64 0, .slice none 0 0, .string ⟨#[]⟩] := rfl
theorem evA1 : evA ev1 = #[.int .i64 2, .int .i64 1, .int .u64 0, .int .i64 0, .int .u64 0, .int .i64 0, .int .u64 0, .int .i64 0, .int .u32 0, .int .u64 0, .int .i64 0, .slice none 0 0, .string ⟨#[]⟩, .int .u64 0, .int .u64 0, .int .i64 0, .int .u64 0, .slice none 0 0, .string ⟨#[]⟩] := rfl
theorem told2 : (padd PM0 ev0).broken = 0 ∧ (padd (padd PM0 ev0) ev1).broken = 1 ∧ (padd (padd PM0 ev0) ev1).len = 2 ∧ (padd (padd PM0 ev0) ev1).at_ = 2 ∧ (padd (padd PM0 ev0) ev1).rule = 1 := by
  refine ⟨rfl, rfl, rfl, rfl, rfl⟩
theorem res_c {M : MM} {P : PM} (h : proj M = P) : M.c.broken = P.broken ∧ M.c.len = P.len ∧ M.c.at_ = P.at_ ∧ M.c.rule = P.rule := by
  subst h
  exact ⟨rfl, rfl, rfl, rfl⟩
set_option maxRecDepth 100000 in
set_option maxHeartbeats 8000000 in
theorem awake_any (w : World) : Calls Try.prog 6 #[] w fun e w' => e = .returned (.bool true) ∧ Below w.heap.size w w' := by
  have HN := Lib.hid (new_any w w.heap.size [] ⟨fun p hp => (by cases hp), fun p hp => (by cases hp), List.Pairwise.nil⟩ (Nat.le_refl _))
  go_enter Try.func6, Try.ntmps6
  go_wp2_with fail
  refine HN.out.mono ?_
  rintro e w1 ⟨B, M, rfl, N1, hM, hS, hP, hB⟩
  have h0 := res_c hP
  have HC := Lib.hid (show Calls Try.prog 9 #[.pointer (some ⟨B, 0, none⟩), .agg (evA ev0)] w1 fun e w' => e = .returned (.int .i64 0) ∧ Res w1 B w.heap.size [] (padd PM0 ev0) 1 w' from by
    have h := add_any w1 B w.heap.size 0 M [] N1.own hM N1.low hS (by decide) (by rw [h0.2.1]; decide) ev0 (fun q hq => by cases hq) (by decide) ⟨rfl, fun h => absurd h (by decide)⟩
    rw [hP] at h
    exact h)
  have H1 := Lib.hid N1.kept
  clear N1 hM hS hP h0 HN
  rw [evA0] at HC
  go_wp2_with fail
  refine HC.out.mono ?_
  rintro e w2 ⟨rfl, M2, N2, hM2, hS2, hP2⟩
  have h0 := res_c hP2
  have HC2 := Lib.hid (show Calls Try.prog 9 #[.pointer (some ⟨B, 0, none⟩), .agg (evA ev1)] w2 fun e w' => e = .returned (.int .i64 1) ∧ Res w2 B w.heap.size [] (padd (padd PM0 ev0) ev1) 2 w' from by
    have h := add_any w2 B w.heap.size 1 M2 [] N2.own hM2 N2.low hS2 (by decide) (by rw [h0.2.1]; decide) ev1 (fun q hq => by cases hq) (by decide) ⟨rfl, fun h => absurd h (by decide)⟩
    rw [hP2] at h
    exact h)
  have H2 := Lib.hid (H1.out.trans N2.kept)
  clear N2 hM2 hS2 hP2 h0 HC
  rw [evA1] at HC2
  go_wp2_with fail
  refine HC2.out.mono ?_
  rintro e w3 ⟨rfl, M3, N3, hM3, hS3, hP3⟩
  have h0 := res_c hP3
  rw [told2.2.1, told2.2.2.1, told2.2.2.2.1, told2.2.2.2.2] at h0
  have HF := Lib.hid (first_any w3 B M3.c (own_mon N3.own))
  have HN3 := Lib.hid N3
  have HQ := Lib.hid h0
  have H3 := Lib.hid (H2.out.trans N3.kept)
  clear N3 hM3 hS3 hP3 h0 HC2
  go_wp2_with fail
  refine HF.out.mono ?_
  rintro e w4 ⟨rfl, hb4⟩
  rw [HQ.out.2.2.1, HQ.out.2.2.2]
  have HB := Lib.hid (broken_any w4 B M3.c ((own_mon HN3.out.own).below hb4))
  have HL := Lib.hid (len_any w4 B M3.c ((own_mon HN3.out.own).below hb4))
  rw [HQ.out.1] at HB
  rw [HQ.out.2.1] at HL
  have H4 := Lib.hid (show Below w.heap.size w w4 from (H3.out.trans (Kept.of_below hb4)).below (Nat.le_refl _) (fun k hk h => by omega))
  clear hb4 HF
  go_wp2_with (first | (go_at_call 12; refine HB.out.mono ?_; rintro e w5 ⟨rfl, rfl⟩) | (go_at_call 13; refine HL.out.mono ?_; rintro e w5 ⟨rfl, rfl⟩) | fail)
  go_ret
  exact ⟨rfl, H4.out⟩
end Go.Proofs.Ytogagkgkmoppmaa
