/-
  What frame.Parse and the reference's Parse return.
  Conditions: a text has at most 1000000 bytes.
-/
import Derived.Test.YtgpojbmloielmaaFrameA
namespace Go.Proofs.Ytgpojbmloielmaa
set_option linter.unusedVariables false
open Go.RowKit
theorem RdAt.alloc {w : World} {R : Nat} {s : ByteArray} {p : Nat} (h : RdAt w R s p) (o : Obj) : RdAt (w.alloc o) R s p := by
  have hl := h.lt
  obtain ⟨h0, h1, h2⟩ := h
  exact ⟨(World.cell?_alloc_lt w o _ hl).trans h0, (World.cell?_alloc_lt w o _ hl).trans h1, ((Below.refl _ _).alloc (Nat.le_refl _) o |>.frozen (p := ⟨R, 1, none⟩) hl).trans h2⟩
theorem RdAt.drewN {w : World} {R : Nat} {s : ByteArray} {p : Nat} (h : RdAt w R s p) (n : Nat) : RdAt (w.drewN n) R s p := h
theorem RdStep.cell {w w' : World} {R : Nat} {s : ByteArray} {q : Nat} (h : RdStep w R s q w') {p : Addr} (hp : p.block < w.heap.size) (hne : p.block ≠ R) : w'.cell? p = w.cell? p :=
  World.cell?_of_block (h.2.block _ hp (fun e => hne (by injection e)))
theorem RdStep.free {w w' : World} {R : Nat} {s : ByteArray} {q : Nat} (h : RdStep w R s q w') {p : Addr} (hp : p.block < w.heap.size) (hne : p.block ≠ R) : w'.frozen? p = w.frozen? p :=
  World.frozen?_of_block (h.2.block _ hp (fun e => hne (by injection e)))
theorem Num_val (R : Nat) (s : ByteArray) (p n v q : Nat) (w : World) (h : RdAt w R s p) (hs : s.size ≤ 1000000000) (hp : p + n ≤ s.size) (hn : n ≤ 8) (hn0 : 0 < n) (hv : valB (s.extract p (p + n)) = v) (hq : p + n = q) :
    Calls Try.prog 40 #[.pointer (some ⟨R, 0, none⟩), .int .i64 (n : Int)] w fun e w' => e = .returned (.int .u64 (v : Int)) ∧ RdStep w R s q w' := by
  subst hv hq
  exact Num_any R s p n w h hs hp hn hn0
theorem Left_val (R : Nat) (s : ByteArray) (p v : Nat) (w : World) (h : RdAt w R s p) (hs : s.size ≤ 1000000000) (hv : s.size = p + v) :
    Calls Try.prog 42 #[.pointer (some ⟨R, 0, none⟩)] w fun e w' => e = .returned (.int .i64 (v : Int)) ∧ ∃ n, w' = w.drewN n :=
  (Left_any R s p w h hs (by omega)).mono fun e w' ⟨he, hw⟩ => ⟨by rw [he]; exact ret_int (by omega), hw⟩
theorem Text_val (R : Nat) (s : ByteArray) (p n q : Nat) (b : ByteArray) (w : World) (h : RdAt w R s p) (hs : s.size ≤ 1000000000) (hp : p + n ≤ s.size) (hb : s.extract p (p + n) = b) (hq : p + n = q) :
    Calls Try.prog 41 #[.pointer (some ⟨R, 0, none⟩), .int .i64 (n : Int)] w fun e w' => e = .returned (.string b) ∧ RdStep w R s q w' := by
  subst hb hq
  exact Text_any R s p n w h hs hp
theorem valB_one (s : ByteArray) (p : Nat) (h : p < s.size) : valB (s.extract p (p + 1)) = (s[p]).toNat := by
  rw [← valFrom_all, valFrom_succ s p 0 (by omega)]
  have := (s[p]).toNat_lt
  simp [valFrom, valL, valStep]
/-- the bytes of a frame, its sum taken off -/
def cutS (s : ByteArray) : ByteArray := s.extract 0 (s.size - 4)
def byteN (s : ByteArray) (i : Nat) : Nat := ((s.data.toList.getD i 0).toNat)
def bodyS (s : ByteArray) : ByteArray := (cutS s).extract 7 (cutS s).size
def lenN (s : ByteArray) : Nat := valB ((cutS s).extract 5 7)
structure FrameAt (w : World) (P : Nat) (k f t : Int) (b : ByteArray) : Prop where
  lt : P < w.heap.size
  c0 : w.cell? ⟨P, 0, none⟩ = some (.int .i64 k)
  c1 : w.cell? ⟨P, 1, none⟩ = some (.int .i64 f)
  c2 : w.cell? ⟨P, 2, none⟩ = some (.int .i64 t)
  c3 : w.cell? ⟨P, 3, none⟩ = some (.string b)
  f0 : w.frozen? ⟨P, 0, none⟩ = false
  f1 : w.frozen? ⟨P, 1, none⟩ = false
  f2 : w.frozen? ⟨P, 2, none⟩ = false
  f3 : w.frozen? ⟨P, 3, none⟩ = false
theorem FrameAt.new (w : World) (k f t : Int) (b : ByteArray) (ty : TypeId) : FrameAt (w.alloc (.cells #[.int .i64 k, .int .i64 f, .int .i64 t, .string b] ty)) w.heap.size k f t b :=
  ⟨by simp, by simp [go_sem], by simp [go_sem], by simp [go_sem], by simp [go_sem], by simp [go_sem], by simp [go_sem], by simp [go_sem], by simp [go_sem]⟩
theorem FrameAt.keep {w w' : World} {P : Nat} {k f t : Int} {b : ByteArray} (h : FrameAt w P k f t b) (hl : P < w'.heap.size) (hc : ∀ p : Addr, p.block = P → w'.cell? p = w.cell? p) (hf : ∀ p : Addr, p.block = P → w'.frozen? p = w.frozen? p) : FrameAt w' P k f t b :=
  ⟨hl, (hc _ rfl).trans h.c0, (hc _ rfl).trans h.c1, (hc _ rfl).trans h.c2, (hc _ rfl).trans h.c3, (hf _ rfl).trans h.f0, (hf _ rfl).trans h.f1, (hf _ rfl).trans h.f2, (hf _ rfl).trans h.f3⟩
theorem FrameAt.below {w w' : World} {P B : Nat} {k f t : Int} {b : ByteArray} (h : FrameAt w P k f t b) (hb : Below B w w') (hP : P < B) : FrameAt w' P k f t b :=
  h.keep (Nat.lt_of_lt_of_le h.lt hb.size) (fun p hp => hb.cell (by omega)) (fun p hp => hb.frozen (by omega))
theorem FrameAt.step {w w' : World} {P R : Nat} {s : ByteArray} {q : Nat} {k f t : Int} {b : ByteArray} (h : FrameAt w P k f t b) (hs : RdStep w R s q w') (hP : P ≠ R) : FrameAt w' P k f t b :=
  h.keep (Nat.lt_of_lt_of_le h.lt hs.2.size) (fun p hp => hs.cell (by rw [hp]; exact h.lt) (by rw [hp]; exact hP)) (fun p hp => hs.free (by rw [hp]; exact h.lt) (by rw [hp]; exact hP))
theorem FrameAt.alloc {w : World} {P : Nat} {k f t : Int} {b : ByteArray} (h : FrameAt w P k f t b) (o : Obj) : FrameAt (w.alloc o) P k f t b := h.below ((Below.refl _ _).alloc (Nat.le_refl _) o) h.lt
theorem FrameAt.drewN {w : World} {P : Nat} {k f t : Int} {b : ByteArray} (h : FrameAt w P k f t b) (n : Nat) : FrameAt (w.drewN n) P k f t b := ⟨h.lt, h.c0, h.c1, h.c2, h.c3, h.f0, h.f1, h.f2, h.f3⟩
theorem val_byte (s : ByteArray) (i : Nat) (h : i + 4 < s.size) : valB ((cutS s).extract i (i + 1)) = byteN s i := by
  have hz : (cutS s).size = s.size - 4 := by unfold cutS; rw [ByteArray.size_extract]; omega
  rw [valB_one _ _ (by omega)]
  unfold byteN cutS
  congr 1
  have h2 : i < s.data.toList.length := by show i < s.size; omega
  rw [List.getD_eq_getElem?_getD, List.getElem?_eq_getElem h2, Option.getD_some, ByteArray.getElem_extract]
  simp
  rfl
theorem byteN_lt (s : ByteArray) (i : Nat) : byteN s i < 256 := UInt8.toNat_lt _
theorem lenN_lt (s : ByteArray) : lenN s < 65536 := by
  unfold lenN
  rw [← valFrom_all (cutS s) 5 2]
  unfold valFrom valL
  match h : (List.take 2 (List.drop 5 (cutS s).data.toList)) with
  | [] => decide
  | [a] => have := a.toNat_lt; simp [valStep]; omega
  | [a, b] => have := a.toNat_lt; have := b.toNat_lt; simp [valStep]; omega
  | a :: b :: c :: l => have := congrArg List.length h; simp at this; omega
theorem open_cut (s : ByteArray) (h : goodB s = true) : openS s = cutS s := by unfold openS; rw [if_pos h]; rfl
def parseE (s : ByteArray) : Int :=
  if s.size < 11 then 2 else if goodB s = false then 8 else if byteN s 0 ≠ 197 then 4 else if byteN s 1 ≠ 1 then 9 else if kindB (byteN s 2) = false then 10
  else if procB (byteN s 3) = false ∨ procB (byteN s 4) = false then 1 else if 32768 < (bodyS s).size ∨ (bodyS s).size ≠ lenN s then 3 else 0
def parseN (s : ByteArray) (i : Nat) : Int := if parseE s = 0 then (byteN s i : Int) else 0
def parseB (s : ByteArray) : ByteArray := if parseE s = 0 then bodyS s else ⟨#[]⟩
def frameV (k f t : Int) (b : ByteArray) : Value := .agg #[.int .i64 k, .int .i64 f, .int .i64 t, .string b]
set_option maxHeartbeats 2000000 in
theorem Parse_any (s : ByteArray) (w : World) (hs : s.size ≤ 1000000) :
    Calls Try.prog 20 #[.string s] w fun e w' => e = .returned (.tuple #[frameV (parseN s 2) (parseN s 3) (parseN s 4) (parseB s), .int .i64 (parseE s)]) ∧ Below w.heap.size w w' := by
  by_cases h11 : s.size < 11
  · have he : parseE s = 2 := by simp [parseE, h11]
    have e2 : parseN s 2 = 0 := by simp [parseN, he]
    have e3 : parseN s 3 = 0 := by simp [parseN, he]
    have e4 : parseN s 4 = 0 := by simp [parseN, he]
    have eb : parseB s = ⟨#[]⟩ := by simp [parseB, he]
    rw [he, e2, e3, e4, eb]
    clear he e2 e3 e4 eb
    have d1 : decide ((s.size : Int) < 11) = true := by simp; omega
    go_enter Try.func20, Try.ntmps20
    go_wp2
    refine bodyPost_ret (v := .tuple #[frameV 0 0 0 ⟨#[]⟩, .int .i64 2]) (by simp [results, Try.results20, go_sem, frameV]) rfl ⟨rfl, ?_⟩
    exact ba (br _) _
  have d1 : decide ((s.size : Int) < 11) = false := by simp; omega
  cases hg : goodB s
  · have he : parseE s = 8 := by simp [parseE, h11, hg]
    have e2 : parseN s 2 = 0 := by simp [parseN, he]
    have e3 : parseN s 3 = 0 := by simp [parseN, he]
    have e4 : parseN s 4 = 0 := by simp [parseN, he]
    have eb : parseB s = ⟨#[]⟩ := by simp [parseB, he]
    rw [he, e2, e3, e4, eb]
    clear he e2 e3 e4 eb
    go_enter Try.func20, Try.ntmps20
    go_wp2_with fail
    refine (Open_any _ _ (by omega)).mono ?_
    rintro e w1 ⟨rfl, hb1⟩
    have hP := (FrameAt.new w 0 0 0 ⟨#[]⟩ 56).below hb1 (by simp)
    obtain ⟨_, c0, c1, c2, c3, f0, f1, f2, f3⟩ := hP
    go_wp2
    refine bodyPost_ret (v := .tuple #[frameV 0 0 0 ⟨#[]⟩, .int .i64 8]) (by simp [results, Try.results20, go_sem, frameV, c0, c1, c2, c3]) rfl ⟨rfl, ?_⟩
    exact bs (bs (bs (bs (bt (ba (br _) _) hb1) (Nat.le_refl _) _) (Nat.le_refl _) _) (Nat.le_refl _) _) (Nat.le_refl _) _
  have hT := open_cut s hg
  have hz : (cutS s).size + 4 = s.size := by unfold cutS; rw [ByteArray.size_extract]; omega
  have v0 := val_byte s 0 (by omega)
  have v1 := val_byte s 1 (by omega)
  have v2 := val_byte s 2 (by omega)
  have v3 := val_byte s 3 (by omega)
  have v4 := val_byte s 4 (by omega)
  have v5 : valB ((cutS s).extract 5 (5 + 2)) = lenN s := rfl
  have l0 := byteN_lt s 0
  have l1 := byteN_lt s 1
  have l2 := byteN_lt s 2
  have l3 := byteN_lt s 3
  have l4 := byteN_lt s 4
  have l5 := lenN_lt s
  have hE : parseE s = if byteN s 0 ≠ 197 then 4 else if byteN s 1 ≠ 1 then 9 else if kindB (byteN s 2) = false then 10
      else if procB (byteN s 3) = false ∨ procB (byteN s 4) = false then 1 else if 32768 < (bodyS s).size ∨ (bodyS s).size ≠ lenN s then 3 else 0 := by
    unfold parseE; rw [if_neg h11, if_neg (by rw [hg]; exact Bool.noConfusion)]
  have hN2 : parseN s 2 = if parseE s = 0 then (byteN s 2 : Int) else 0 := rfl
  have hN3 : parseN s 3 = if parseE s = 0 then (byteN s 3 : Int) else 0 := rfl
  have hN4 : parseN s 4 = if parseE s = 0 then (byteN s 4 : Int) else 0 := rfl
  have hB : parseB s = if parseE s = 0 then bodyS s else ⟨#[]⟩ := rfl
  have hbody : bodyS s = (cutS s).extract 7 (cutS s).size := rfl
  generalize parseN s 2 = N2 at hN2 ⊢
  generalize parseN s 3 = N3 at hN3 ⊢
  generalize parseN s 4 = N4 at hN4 ⊢
  generalize parseB s = NB at hB ⊢
  generalize parseE s = E at hE hN2 hN3 hN4 hB ⊢
  generalize byteN s 0 = y0 at *
  generalize byteN s 1 = y1 at *
  generalize byteN s 2 = y2 at *
  generalize byteN s 3 = y3 at *
  generalize byteN s 4 = y4 at *
  generalize lenN s = y5 at *
  generalize bodyS s = body at *
  generalize cutS s = t at *
  have ht7 : 7 ≤ t.size := by omega
  have HH := Lib.hid (And.intro hE (And.intro hN2 (And.intro hN3 (And.intro hN4 hB))))
  have V := Lib.hid (And.intro v0 (And.intro v1 (And.intro v2 (And.intro v3 (And.intro v4 v5)))))
  have HB := Lib.hid hbody
  have HZ := Lib.hid hz
  have ht1 : t.size ≤ 1000000 := by omega
  clear hE hN2 hN3 hN4 hB v0 v1 v2 v3 v4 v5 hbody hz hs
  go_enter Try.func20, Try.ntmps20
  go_wp2_with fail
  refine (Open_any _ _ (by have := HZ.out; omega)).mono ?_
  rintro e w1 ⟨rfl, hb1⟩
  have hP := (FrameAt.new w 0 0 0 ⟨#[]⟩ 56).below hb1 (by simp)
  have hne : w.heap.size ≠ w1.heap.size := Nat.ne_of_lt hP.lt
  have hb1 := bt (ba (br _) _) hb1
  go_wp2_with fail
  refine (New_any _ _).mono ?_
  rintro e w2 ⟨rfl, hw2⟩
  have hR0 : RdAt w2 w1.heap.size t 0 := by rw [← hw2]; exact RdAt.new _ _ _
  have hP : FrameAt w2 w.heap.size 0 0 0 ⟨#[]⟩ := by rw [← hw2]; exact hP.alloc _
  have hb2 : Below w.heap.size w w2 := by rw [← hw2]; exact ba hb1 _
  have hRb : w.heap.size ≤ w1.heap.size := hb1.size
  clear hw2
  go_wp2_with fail
  refine (Num_val w1.heap.size t 0 1 y0 1 _ hR0 (by omega) (by omega) (by omega) (by omega) V.out.1 rfl).mono ?_
  rintro e w3 ⟨rfl, hs3⟩
  go_wp2_with fail
  refine (Num_val w1.heap.size t 1 1 y1 2 _ hs3.1 (by omega) (by omega) (by omega) (by omega) V.out.2.1 rfl).mono ?_
  rintro e w4 ⟨rfl, hs4⟩
  go_wp2_with fail
  refine (Num_val w1.heap.size t 2 1 y2 3 _ hs4.1 (by omega) (by omega) (by omega) (by omega) V.out.2.2.1 rfl).mono ?_
  rintro e w5 ⟨rfl, hs5⟩
  go_wp2_with fail
  refine (Num_val w1.heap.size t 3 1 y3 4 _ hs5.1 (by omega) (by omega) (by omega) (by omega) V.out.2.2.2.1 rfl).mono ?_
  rintro e w6 ⟨rfl, hs6⟩
  go_wp2_with fail
  refine (Num_val w1.heap.size t 4 1 y4 5 _ hs6.1 (by omega) (by omega) (by omega) (by omega) V.out.2.2.2.2.1 rfl).mono ?_
  rintro e w7 ⟨rfl, hs7⟩
  go_wp2_with fail
  obtain ⟨m, hm⟩ : ∃ m, t.size = 7 + m := ⟨t.size - 7, by omega⟩
  have hbm : t.extract 7 (7 + m) = body := by rw [HB.out, hm]
  have hF := FrameAt.new w7 y2 y3 y4 ⟨#[]⟩ 56
  have hP7 : FrameAt w7 w.heap.size 0 0 0 ⟨#[]⟩ := ((((hP.step hs3 hne).step hs4 hne).step hs5 hne).step hs6 hne).step hs7 hne
  have hP8 := hP7.alloc (.cells #[.int .i64 y2, .int .i64 y3, .int .i64 y4, .string ⟨#[]⟩] 56)
  have hb3 := hs3.out hb2 hRb hb2.size
  have hb4 := hs4.out hb3 hRb hb3.size
  have hb5 := hs5.out hb4 hRb hb4.size
  have hb6 := hs6.out hb5 hRb hb5.size
  have hb7 := hs7.out hb6 hRb hb6.size
  have hb8 := ba hb7 (.cells #[.int .i64 y2, .int .i64 y3, .int .i64 y4, .string ⟨#[]⟩] 56)
  have hFR : w7.heap.size ≠ w1.heap.size := (Nat.ne_of_lt hs7.1.lt).symm
  have hFP : w.heap.size ≤ w7.heap.size := hb7.size
  have hPF : w.heap.size ≠ w7.heap.size := Nat.ne_of_lt hP7.lt
  have hR7 := hs7.1.alloc (.cells #[.int .i64 y2, .int .i64 y3, .int .i64 y4, .string ⟨#[]⟩] 56)
  clear hs3 hs4 hs5 hs6 hs7 hP hP7 hb1 hb2 hb3 hb4 hb5 hb6 hb7 hR0
  refine (Num_val w1.heap.size t 5 2 y5 7 _ hR7 (by omega) (by omega) (by omega) (by omega) V.out.2.2.2.2.2 rfl).mono ?_
  rintro e w8 ⟨rfl, hs8⟩
  have hF := hF.step hs8 hFR
  have hP8 := hP8.step hs8 hne
  have hb8 := hs8.out hb8 hRb hb8.size
  have HM := Lib.hid hm
  have HBM := Lib.hid hbm
  clear hm hbm hR7
  go_wp2_with fail
  refine (Left_val w1.heap.size t 7 m _ hs8.1 (by omega) HM.out).mono ?_
  rintro e w9 ⟨rfl, n9, rfl⟩
  go_wp2_with fail
  refine (Text_val w1.heap.size t 7 m t.size body _ (hs8.1.drewN n9) (by omega) (by have := HM.out; omega) HBM.out HM.out.symm).mono ?_
  rintro e w9 ⟨rfl, hs9⟩
  have hF := (hF.drewN n9).step hs9 hFR
  have hP := (hP8.drewN n9).step hs9 hne
  have hb9 := hs9.out (bn hb8 n9) hRb (bn hb8 n9).size
  clear hs9 hs8 hP8 hb8
  generalize w7.heap.size = F at hF hFR hFP hPF ⊢
  have HP := Lib.hid hP
  have HF := Lib.hid hF
  obtain ⟨_, c0, c1, c2, c3, f0, f1, f2, f3⟩ := hF
  obtain ⟨_, p0, p1, p2, p3, q0, q1, q2, q3⟩ := hP
  have hbsz : body.size ≤ 1000000 := by rw [← HBM.out, ByteArray.size_extract]; omega
  go_upto_region 11 with (fail)
  have hFb : FrameAt (w9.setCell ⟨F, 3, none⟩ (.string body)) F y2 y3 y4 body := ⟨by simpa [World.setCell] using HF.out.lt,
    by simp [go_sem, c0], by simp [go_sem, c1], by simp [go_sem, c2], by simp [go_sem, c3], by simp [go_sem, f0], by simp [go_sem, f1], by simp [go_sem, f2], by simp [go_sem, f3]⟩
  have hPb : FrameAt (w9.setCell ⟨F, 3, none⟩ (.string body)) w.heap.size 0 0 0 ⟨#[]⟩ := HP.out.keep (by simpa [World.setCell] using HP.out.lt)
    (fun p hp => World.cell?_setCell_other _ _ _ _ (fun e => hPF (by rw [← hp, ← e]))) (fun p _ => World.frozen?_setCell _ _ _ _)
  have hWb : Below w.heap.size w (w9.setCell ⟨F, 3, none⟩ (.string body)) := bs hb9 hFP _
  generalize w9.setCell ⟨F, 3, none⟩ (.string body) = W at hFb hPb hWb ⊢
  clear c0 c1 c2 c3 f0 f1 f2 f3 p0 p1 p2 p3 q0 q1 q2 q3 HF HP hb9 hFR hRb hne
  obtain ⟨_, c0, c1, c2, c3, f0, f1, f2, f3⟩ := hFb
  obtain ⟨_, p0, p1, p2, p3, q0, q1, q2, q3⟩ := hPb
  by_cases t0 : y0 = 197
  rotate_left
  · have b0 : ((y0 : Int) != 197) = true := by rw [bne_iff_ne]; omega
    have hE : E = 4 := by rw [HH.out.1]; rw [if_pos t0]
    have h2 : N2 = 0 := by rw [HH.out.2.1, hE]; rfl
    have h3 : N3 = 0 := by rw [HH.out.2.2.1, hE]; rfl
    have h4 : N4 = 0 := by rw [HH.out.2.2.2.1, hE]; rfl
    have hb : NB = ⟨#[]⟩ := by rw [HH.out.2.2.2.2, hE]; rfl
    have HE := Lib.hid (And.intro hE (And.intro h2 (And.intro h3 (And.intro h4 hb))))
    clear hE h2 h3 h4 hb
    clear t0
    go_wp2_with (first | (go_at_call 43; refine (kind_any _ _).mono ?_; rintro e w' ⟨rfl, rfl⟩) | (go_at_call 44; refine (proc_any _ _).mono ?_; rintro e w' ⟨rfl, rfl⟩))
    refine bodyPost_ret (v := .tuple #[frameV 0 0 0 ⟨#[]⟩, .int .i64 4]) (by simp [results, Try.results20, go_sem, frameV, p0, p1, p2, p3]) rfl ⟨?_, ?_⟩
    · rw [HE.out.1, HE.out.2.1, HE.out.2.2.1, HE.out.2.2.2.1, HE.out.2.2.2.2]
    · exact bs (bs (bs (bs hWb (Nat.le_refl _) _) (Nat.le_refl _) _) (Nat.le_refl _) _) (Nat.le_refl _) _
  have b0 : ((y0 : Int) != 197) = false := by rw [bne_eq_false_iff_eq]; omega
  by_cases t1 : y1 = 1
  rotate_left
  · have b1 : ((y1 : Int) != 1) = true := by rw [bne_iff_ne]; omega
    have hE : E = 9 := by rw [HH.out.1]; rw [if_neg (by simpa using t0), if_pos t1]
    have h2 : N2 = 0 := by rw [HH.out.2.1, hE]; rfl
    have h3 : N3 = 0 := by rw [HH.out.2.2.1, hE]; rfl
    have h4 : N4 = 0 := by rw [HH.out.2.2.2.1, hE]; rfl
    have hb : NB = ⟨#[]⟩ := by rw [HH.out.2.2.2.2, hE]; rfl
    have HE := Lib.hid (And.intro hE (And.intro h2 (And.intro h3 (And.intro h4 hb))))
    clear hE h2 h3 h4 hb
    clear t0 t1
    go_wp2_with (first | (go_at_call 43; refine (kind_any _ _).mono ?_; rintro e w' ⟨rfl, rfl⟩) | (go_at_call 44; refine (proc_any _ _).mono ?_; rintro e w' ⟨rfl, rfl⟩))
    refine bodyPost_ret (v := .tuple #[frameV 0 0 0 ⟨#[]⟩, .int .i64 9]) (by simp [results, Try.results20, go_sem, frameV, p0, p1, p2, p3]) rfl ⟨?_, ?_⟩
    · rw [HE.out.1, HE.out.2.1, HE.out.2.2.1, HE.out.2.2.2.1, HE.out.2.2.2.2]
    · exact bs (bs (bs (bs hWb (Nat.le_refl _) _) (Nat.le_refl _) _) (Nat.le_refl _) _) (Nat.le_refl _) _
  have b1 : ((y1 : Int) != 1) = false := by rw [bne_eq_false_iff_eq]; omega
  cases t2 : kindB (y2 : Int)
  · have hE : E = 10 := by rw [HH.out.1]; rw [if_neg (by simpa using t0), if_neg (by simpa using t1), if_pos t2]
    have h2 : N2 = 0 := by rw [HH.out.2.1, hE]; rfl
    have h3 : N3 = 0 := by rw [HH.out.2.2.1, hE]; rfl
    have h4 : N4 = 0 := by rw [HH.out.2.2.2.1, hE]; rfl
    have hb : NB = ⟨#[]⟩ := by rw [HH.out.2.2.2.2, hE]; rfl
    have HE := Lib.hid (And.intro hE (And.intro h2 (And.intro h3 (And.intro h4 hb))))
    clear hE h2 h3 h4 hb
    clear t0 t1
    go_wp2_with (first | (go_at_call 43; refine (kind_any _ _).mono ?_; rintro e w' ⟨rfl, rfl⟩) | (go_at_call 44; refine (proc_any _ _).mono ?_; rintro e w' ⟨rfl, rfl⟩))
    refine bodyPost_ret (v := .tuple #[frameV 0 0 0 ⟨#[]⟩, .int .i64 10]) (by simp [results, Try.results20, go_sem, frameV, p0, p1, p2, p3]) rfl ⟨?_, ?_⟩
    · rw [HE.out.1, HE.out.2.1, HE.out.2.2.1, HE.out.2.2.2.1, HE.out.2.2.2.2]
    · exact bs (bs (bs (bs hWb (Nat.le_refl _) _) (Nat.le_refl _) _) (Nat.le_refl _) _) (Nat.le_refl _) _
  cases t3 : procB (y3 : Int)
  · have hE : E = 1 := by rw [HH.out.1]; rw [if_neg (by simpa using t0), if_neg (by simpa using t1), if_neg (by simp [t2]), if_pos (by simp [t3])]
    have h2 : N2 = 0 := by rw [HH.out.2.1, hE]; rfl
    have h3 : N3 = 0 := by rw [HH.out.2.2.1, hE]; rfl
    have h4 : N4 = 0 := by rw [HH.out.2.2.2.1, hE]; rfl
    have hb : NB = ⟨#[]⟩ := by rw [HH.out.2.2.2.2, hE]; rfl
    have HE := Lib.hid (And.intro hE (And.intro h2 (And.intro h3 (And.intro h4 hb))))
    clear hE h2 h3 h4 hb
    clear t0 t1
    go_wp2_with (first | (go_at_call 43; refine (kind_any _ _).mono ?_; rintro e w' ⟨rfl, rfl⟩) | (go_at_call 44; refine (proc_any _ _).mono ?_; rintro e w' ⟨rfl, rfl⟩))
    refine bodyPost_ret (v := .tuple #[frameV 0 0 0 ⟨#[]⟩, .int .i64 1]) (by simp [results, Try.results20, go_sem, frameV, p0, p1, p2, p3]) rfl ⟨?_, ?_⟩
    · rw [HE.out.1, HE.out.2.1, HE.out.2.2.1, HE.out.2.2.2.1, HE.out.2.2.2.2]
    · exact bs (bs (bs (bs hWb (Nat.le_refl _) _) (Nat.le_refl _) _) (Nat.le_refl _) _) (Nat.le_refl _) _
  cases t4 : procB (y4 : Int)
  · have hE : E = 1 := by rw [HH.out.1]; rw [if_neg (by simpa using t0), if_neg (by simpa using t1), if_neg (by simp [t2]), if_pos (by simp [t4])]
    have h2 : N2 = 0 := by rw [HH.out.2.1, hE]; rfl
    have h3 : N3 = 0 := by rw [HH.out.2.2.1, hE]; rfl
    have h4 : N4 = 0 := by rw [HH.out.2.2.2.1, hE]; rfl
    have hb : NB = ⟨#[]⟩ := by rw [HH.out.2.2.2.2, hE]; rfl
    have HE := Lib.hid (And.intro hE (And.intro h2 (And.intro h3 (And.intro h4 hb))))
    clear hE h2 h3 h4 hb
    clear t0 t1
    go_wp2_with (first | (go_at_call 43; refine (kind_any _ _).mono ?_; rintro e w' ⟨rfl, rfl⟩) | (go_at_call 44; refine (proc_any _ _).mono ?_; rintro e w' ⟨rfl, rfl⟩))
    refine bodyPost_ret (v := .tuple #[frameV 0 0 0 ⟨#[]⟩, .int .i64 1]) (by simp [results, Try.results20, go_sem, frameV, p0, p1, p2, p3]) rfl ⟨?_, ?_⟩
    · rw [HE.out.1, HE.out.2.1, HE.out.2.2.1, HE.out.2.2.2.1, HE.out.2.2.2.2]
    · exact bs (bs (bs (bs hWb (Nat.le_refl _) _) (Nat.le_refl _) _) (Nat.le_refl _) _) (Nat.le_refl _) _
  by_cases t5 : 32768 < body.size
  · have b5 : decide ((32768 : Int) < (body.size : Int)) = true := by simp; omega
    have hE : E = 3 := by rw [HH.out.1]; rw [if_neg (by simpa using t0), if_neg (by simpa using t1), if_neg (by simp [t2]), if_neg (by simp [t3, t4]), if_pos (.inl t5)]
    have h2 : N2 = 0 := by rw [HH.out.2.1, hE]; rfl
    have h3 : N3 = 0 := by rw [HH.out.2.2.1, hE]; rfl
    have h4 : N4 = 0 := by rw [HH.out.2.2.2.1, hE]; rfl
    have hb : NB = ⟨#[]⟩ := by rw [HH.out.2.2.2.2, hE]; rfl
    have HE := Lib.hid (And.intro hE (And.intro h2 (And.intro h3 (And.intro h4 hb))))
    clear hE h2 h3 h4 hb
    clear t0 t1 t5
    go_wp2_with (first | (go_at_call 43; refine (kind_any _ _).mono ?_; rintro e w' ⟨rfl, rfl⟩) | (go_at_call 44; refine (proc_any _ _).mono ?_; rintro e w' ⟨rfl, rfl⟩))
    refine bodyPost_ret (v := .tuple #[frameV 0 0 0 ⟨#[]⟩, .int .i64 3]) (by simp [results, Try.results20, go_sem, frameV, p0, p1, p2, p3]) rfl ⟨?_, ?_⟩
    · rw [HE.out.1, HE.out.2.1, HE.out.2.2.1, HE.out.2.2.2.1, HE.out.2.2.2.2]
    · exact bs (bs (bs (bs hWb (Nat.le_refl _) _) (Nat.le_refl _) _) (Nat.le_refl _) _) (Nat.le_refl _) _
  have b5 : decide ((32768 : Int) < (body.size : Int)) = false := by simp; omega
  by_cases t6 : body.size = y5
  rotate_left
  · have b6 : ((body.size : Int) != (y5 : Int)) = true := by rw [bne_iff_ne]; omega
    have hE : E = 3 := by rw [HH.out.1]; rw [if_neg (by simpa using t0), if_neg (by simpa using t1), if_neg (by simp [t2]), if_neg (by simp [t3, t4]), if_pos (.inr t6)]
    have h2 : N2 = 0 := by rw [HH.out.2.1, hE]; rfl
    have h3 : N3 = 0 := by rw [HH.out.2.2.1, hE]; rfl
    have h4 : N4 = 0 := by rw [HH.out.2.2.2.1, hE]; rfl
    have hb : NB = ⟨#[]⟩ := by rw [HH.out.2.2.2.2, hE]; rfl
    have HE := Lib.hid (And.intro hE (And.intro h2 (And.intro h3 (And.intro h4 hb))))
    clear hE h2 h3 h4 hb
    clear t0 t1 t5 t6
    go_wp2_with (first | (go_at_call 43; refine (kind_any _ _).mono ?_; rintro e w' ⟨rfl, rfl⟩) | (go_at_call 44; refine (proc_any _ _).mono ?_; rintro e w' ⟨rfl, rfl⟩))
    refine bodyPost_ret (v := .tuple #[frameV 0 0 0 ⟨#[]⟩, .int .i64 3]) (by simp [results, Try.results20, go_sem, frameV, p0, p1, p2, p3]) rfl ⟨?_, ?_⟩
    · rw [HE.out.1, HE.out.2.1, HE.out.2.2.1, HE.out.2.2.2.1, HE.out.2.2.2.2]
    · exact bs (bs (bs (bs hWb (Nat.le_refl _) _) (Nat.le_refl _) _) (Nat.le_refl _) _) (Nat.le_refl _) _
  have b6 : ((body.size : Int) != (y5 : Int)) = false := by rw [bne_eq_false_iff_eq]; omega
  have hE : E = 0 := by rw [HH.out.1, if_neg (by simpa using t0), if_neg (by simpa using t1), if_neg (by simp [t2]), if_neg (by simp [t3, t4]), if_neg (by omega)]
  have h2 : N2 = y2 := by rw [HH.out.2.1, hE]; rfl
  have h3 : N3 = y3 := by rw [HH.out.2.2.1, hE]; rfl
  have h4 : N4 = y4 := by rw [HH.out.2.2.2.1, hE]; rfl
  have hb : NB = body := by rw [HH.out.2.2.2.2, hE]; rfl
  have HE := Lib.hid (And.intro hE (And.intro h2 (And.intro h3 (And.intro h4 hb))))
  clear hE h2 h3 h4 hb t0 t1 t5 t6
  go_wp2_with (first | (go_at_call 43; refine (kind_any _ _).mono ?_; rintro e w' ⟨rfl, rfl⟩) | (go_at_call 44; refine (proc_any _ _).mono ?_; rintro e w' ⟨rfl, rfl⟩))
  refine bodyPost_ret (v := .tuple #[frameV y2 y3 y4 body, .int .i64 0]) (by simp [results, Try.results20, go_sem, frameV, p0, p1, p2, p3]) rfl ⟨?_, ?_⟩
  · rw [HE.out.1, HE.out.2.1, HE.out.2.2.1, HE.out.2.2.2.1, HE.out.2.2.2.2]
  · exact bs (bs (bs (bs hWb (Nat.le_refl _) _) (Nat.le_refl _) _) (Nat.le_refl _) _) (Nat.le_refl _) _
end Go.Proofs.Ytgpojbmloielmaa
