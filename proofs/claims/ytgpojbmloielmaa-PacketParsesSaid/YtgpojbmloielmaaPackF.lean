/-
  What a body's writer writes of a packet that holds exchanges; of any packet.
  Conditions: those that each theorem names.
-/
import Derived.Test.YtgpojbmloielmaaPackE
namespace Go.Proofs.Ytgpojbmloielmaa
set_option linter.unusedVariables false
set_option linter.unusedSimpArgs false
open Go.RowKit
def oneX (xs : List Exch) : Except Int (List UInt8) := match xs with
  | [x] => exL x
  | _ => .error 1
def exsL : List Exch → Except Int (List UInt8)
  | [] => .ok []
  | x :: l => cat (exL x) (exsL l)
theorem exsL_append (a b : List Exch) : exsL (a ++ b) = cat (exsL a) (exsL b) := by
  induction a with
  | nil => cases h : exsL b <;> simp [exsL, cat, Except.map, h]
  | cons x l ih =>
    simp only [List.cons_append, exsL, ih]
    cases exL x <;> cases exsL l <;> cases exsL b <;> simp [cat, Except.map]
theorem exsL_bad {xs : List Exch} {k : Nat} (hk : k < xs.length) {y : List UInt8} {c : Int} (h1 : exsL (xs.take k) = .ok y) (h2 : exL xs[k] = .error c) : exsL xs = .error c := by
  have e := List.take_append_drop k xs
  rw [List.drop_eq_getElem_cons hk] at e
  rw [← e, exsL_append, h1]
  simp only [exsL, h2]
  rfl
theorem exsL_succ {xs : List Exch} {k : Nat} (hk : k < xs.length) {y z : List UInt8} (h1 : exsL (xs.take k) = .ok y) (h2 : exL xs[k] = .ok z) : exsL (xs.take (k + 1)) = .ok (y ++ z) := by
  rw [List.take_succ_eq_append_getElem hk, exsL_append, h1]
  simp [exsL, h2, cat, Except.map]
theorem exsL_len {xs : List Exch} : ∀ {y : List UInt8}, exsL xs = .ok y → y.length ≤ 276 * xs.length := by
  induction xs with
  | nil => intro y h; injection h with h; rw [← h]; simp
  | cons x l ih =>
    intro y h
    obtain ⟨u, v, h1, h2, rfl⟩ := cat_ok h
    have := exL_len h1
    have := ih h2
    simp only [List.length_append, List.length_cons]
    omega
theorem ex_cells {w : World} {g o : Nat} {x : Exch} (h : w.rangeAt g o (exA x).toList) : w.cell? ⟨g, o, none⟩ = some (.int .i64 x.who) ∧ w.cell? ⟨g, o + 1, none⟩ = some (.int .u64 (x.oe : Int)) ∧ w.cell? ⟨g, o + 2, none⟩ = some (.int .i64 x.orp) ∧ w.cell? ⟨g, o + 3, none⟩ = some (.slice x.ca x.cs.length x.cc) ∧ w.cell? ⟨g, o + 4, none⟩ = some (.int .u64 (x.ls : Int)) ∧ w.cell? ⟨g, o + 5, none⟩ = some (.int .i64 x.lf) :=
  ⟨h 0 _ rfl, h 1 _ rfl, h 2 _ rfl, h 3 _ rfl, h 4 _ rfl, h 5 _ rfl⟩
set_option maxHeartbeats 8000000 in
theorem wBody6_any {w0 w : World} {l : List UInt8} (h : WrAt w0.heap.size w0 w l) (p : Pkt) (hp : PktOk w0 p) (hkd : p.kind = 6) (hl : l.length ≤ 98000000) :
    Calls Try.prog 33 #[.pointer (some ⟨w0.heap.size, 0, none⟩), .agg (pktA p)] w fun e w' => WrEnd w0.heap.size w0 w l (cat (confL p.ce p.cr) (oneX p.xs)) e w' := by
  obtain ⟨N, hN⟩ : ∃ N, N = w.heap.size := ⟨_, rfl⟩
  obtain ⟨W, hW⟩ : ∃ W, W = w.alloc (.cells (pktA p) 35) := ⟨_, rfl⟩
  have hbA := ba (br w) (.cells (pktA p) 35)
  have hxA := heap_alloc_new w (.cells (pktA p) 35)
  rw [← hW] at hxA hbA
  rw [← hN] at hxA
  have h1 := h.below hbA
  have hne : N ≠ w0.heap.size := by have := h.lt; omega
  have HB := Lib.hid (And.intro hne (And.intro (KeptT.of_below (B := w0.heap.size) hbA) hxA))
  have HL := Lib.hid hl
  obtain ⟨r, hr⟩ : ∃ r, r = cat (confL p.ce p.cr) (oneX p.xs) := ⟨_, rfl⟩
  rw [← hr]
  have HP := Lib.hid hp
  have HKD := Lib.hid hkd
  clear hp hkd
  have HR := Lib.hid hr
  clear hr hne hbA h hl hxA
  have hma : pktA p = #[.int .i64 p.kind, .int .i64 p.frm, .int .i64 p.dst, .int .u64 (p.ce : Int), .int .i64 p.cr, .int .i64 p.m.frm, .int .u32 (p.m.seq : Int), .int .u64 (p.m.stamp : Int), .int .i64 p.m.service, .slice p.m.da p.m.ds.length p.m.dc, .string p.m.pay, .int .u64 (p.stamp : Int), .int .u32 (p.sent : Int), .slice p.ga p.got.length p.gc, .int .u64 (p.hor : Int), .int .i64 p.whom, .int .u32 (p.seq : Int), .int .u64 (p.mem : Int), .int .u64 (p.pe : Int), .int .i64 p.pr, .int .u64 (p.epoch : Int), .slice p.xa p.xs.length p.xc] := rfl
  rw [hma] at hW ⊢
  go_enter Try.func33, Try.ntmps33
  go_upto_region 1 with (fail)
  rw [← hW, ← hN]
  clear hma hW hN
  have k1 := KeptT.refl w0.heap.size W
  have b1 := k1.keep HB.out.2.2 HB.out.1 (by decide)
  have c3 : W.cell? ⟨N, 3, none⟩ = some (.int .u64 (p.ce : Int)) := cell_of_row _ _ 3 _ _ _ b1
  have c4 : W.cell? ⟨N, 4, none⟩ = some (.int .i64 p.cr) := cell_of_row _ _ 4 _ _ _ b1
  have H1 := Lib.hid (wConf_any h1 p.ce p.cr (by have := HL.out; (try simp only [List.length_append, putL_length]); omega) HP.out.ce)
  have HK1 := Lib.hid k1
  clear h1 k1 b1
  go_wp2_with fail
  refine H1.out.mono ?_
  intro e w2 h2
  rcases hr1 : confL p.ce p.cr with c | y1
  · rw [hr1] at h2
    obtain ⟨rfl, hb1⟩ := h2
    have HE := Lib.hid (wrErr (w := w) (l := l) (show r = .error c from by rw [HR.out, hr1] <;> rfl) hb1)
    clear hr1 hb1 H1
    exact bodyPost_pan rfl HE.out
  rw [hr1] at h2
  obtain ⟨rfl, h2, k2⟩ := h2
  have hy1 := confL_len hr1
  have E1 := Lib.hid hr1
  clear hr1
  replace k2 := HK1.out.trans k2
  clear c3 c4 H1 HK1
  have c0 : w2.cell? ⟨N, 0, none⟩ = some (.int .i64 6) := by rw [← HKD.out]; exact cell_of_row _ _ 0 _ _ _ (k2.keep HB.out.2.2 HB.out.1 (by decide))
  have c21 : w2.cell? ⟨N, 21, none⟩ = some (.slice p.xa p.xs.length p.xc) := cell_of_row _ _ 21 _ _ _ (k2.keep HB.out.2.2 HB.out.1 (by decide))
  by_cases hn : p.xs.length = 1
  · obtain ⟨x, hx⟩ : ∃ x, p.xs = [x] := List.length_eq_one_iff.1 hn
    rw [hn] at c21
    obtain ⟨hxs, g, o, hxa, hg, hrow⟩ := HP.out.xs.2 0 (by omega)
    have hx0 : p.xs[0] = x := by simp [hx]
    rw [hx0] at hxs hrow
    obtain ⟨d0, d1, d2, d3, d4, d5⟩ := ex_cells (fun j u hu => (h2.bel.cell (p := ⟨g, o + 0 * 6 + j, none⟩) hg).trans (hrow j u hu))
    simp only [Nat.zero_mul, Nat.add_zero] at d0 d1 d2 d3 d4 d5
    rw [hxa] at c21
    have H2 := Lib.hid (wExch_any h2 x hxs (by have := HL.out; (try simp only [List.length_append, putL_length]); omega))
    have HK2 := Lib.hid k2
    have HXE := Lib.hid (show oneX p.xs = exL x from by rw [hx]; rfl)
    clear h2 k2 hx hx0 hxs hrow hxa hn
    go_wp2_with (go_at_call 50; refine (bad_no 1 _).mono ?_; rintro e w' ⟨rfl, rfl⟩)
    refine H2.out.mono ?_
    intro e w3 h3
    rcases hr2 : exL x with c | y2
    · rw [hr2] at h3
      obtain ⟨rfl, hb2⟩ := h3
      have HE := Lib.hid (wrErr (w := w) (l := l) (show r = .error c from by rw [HR.out, E1.out, HXE.out, hr2] <;> rfl) hb2)
      clear hr2 hb2 H2
      exact bodyPost_pan rfl HE.out
    rw [hr2] at h3
    obtain ⟨rfl, h3, k3⟩ := h3
    replace k3 := HK2.out.trans k3
    have HE := Lib.hid (show WrEnd w0.heap.size w0 w l r (.returned (.tuple #[])) w3 from by
      rw [show r = .ok (y1 ++ y2) from by rw [HR.out, E1.out, HXE.out, hr2] <;> rfl]
      exact ⟨rfl, by simpa only [List.append_assoc] using h3, HB.out.2.1.trans k3⟩)
    clear h3 k3 c0 c21 d0 d1 d2 d3 d4 d5 hr2 H2
    go_wp2_with fail
    go_end0
    exact HE.out
  · have hn2 : ((p.xs.length : Int) != 1) = true := by simp; omega
    have HE := Lib.hid (wrErr (w := w) (l := l) (show r = .error 1 from by
      rw [HR.out, E1.out]
      have e : oneX p.xs = .error 1 := by
        unfold oneX
        split
        · rename_i e; rw [e] at hn; simp at hn
        · rfl
      rw [e] <;> rfl) h2.bel)
    clear h2 k2
    go_wp2_with (go_at_call 50; refine (bad_so 1 _).mono ?_; rintro e w' ⟨rfl, rfl⟩)
    exact bodyPost_pan rfl HE.out
set_option maxHeartbeats 8000000 in
theorem wBody7_any {w0 w : World} {l : List UInt8} (h : WrAt w0.heap.size w0 w l) (p : Pkt) (hp : PktOk w0 p) (hkd : p.kind = 7) (hl : l.length ≤ 98000000) :
    Calls Try.prog 33 #[.pointer (some ⟨w0.heap.size, 0, none⟩), .agg (pktA p)] w fun e w' => WrEnd w0.heap.size w0 w l (cat (confL p.ce p.cr) (if 64 < p.xs.length then .error 3 else cat (.ok (putL p.mem 8)) (cat (.ok (putL p.xs.length 1)) (exsL p.xs)))) e w' := by
  obtain ⟨N, hN⟩ : ∃ N, N = w.heap.size := ⟨_, rfl⟩
  obtain ⟨W, hW⟩ : ∃ W, W = w.alloc (.cells (pktA p) 35) := ⟨_, rfl⟩
  have hbA := ba (br w) (.cells (pktA p) 35)
  have hxA := heap_alloc_new w (.cells (pktA p) 35)
  rw [← hW] at hxA hbA
  rw [← hN] at hxA
  have h1 := h.below hbA
  have hne : N ≠ w0.heap.size := by have := h.lt; omega
  have HB := Lib.hid (And.intro hne (And.intro (KeptT.of_below (B := w0.heap.size) hbA) hxA))
  have HL := Lib.hid hl
  obtain ⟨r, hr⟩ : ∃ r, r = cat (confL p.ce p.cr) (if 64 < p.xs.length then .error 3 else cat (.ok (putL p.mem 8)) (cat (.ok (putL p.xs.length 1)) (exsL p.xs))) := ⟨_, rfl⟩
  rw [← hr]
  have HP := Lib.hid hp
  have HKD := Lib.hid hkd
  clear hp hkd
  have HR := Lib.hid hr
  clear hr hne hbA h hl hxA
  have hma : pktA p = #[.int .i64 p.kind, .int .i64 p.frm, .int .i64 p.dst, .int .u64 (p.ce : Int), .int .i64 p.cr, .int .i64 p.m.frm, .int .u32 (p.m.seq : Int), .int .u64 (p.m.stamp : Int), .int .i64 p.m.service, .slice p.m.da p.m.ds.length p.m.dc, .string p.m.pay, .int .u64 (p.stamp : Int), .int .u32 (p.sent : Int), .slice p.ga p.got.length p.gc, .int .u64 (p.hor : Int), .int .i64 p.whom, .int .u32 (p.seq : Int), .int .u64 (p.mem : Int), .int .u64 (p.pe : Int), .int .i64 p.pr, .int .u64 (p.epoch : Int), .slice p.xa p.xs.length p.xc] := rfl
  rw [hma] at hW ⊢
  go_enter Try.func33, Try.ntmps33
  go_upto_region 1 with (fail)
  rw [← hW, ← hN]
  clear hma hW hN
  have k1 := KeptT.refl w0.heap.size W
  have b1 := k1.keep HB.out.2.2 HB.out.1 (by decide)
  have c3 : W.cell? ⟨N, 3, none⟩ = some (.int .u64 (p.ce : Int)) := cell_of_row _ _ 3 _ _ _ b1
  have c4 : W.cell? ⟨N, 4, none⟩ = some (.int .i64 p.cr) := cell_of_row _ _ 4 _ _ _ b1
  have H1 := Lib.hid (wConf_any h1 p.ce p.cr (by have := HL.out; (try simp only [List.length_append, putL_length]); omega) HP.out.ce)
  have HK1 := Lib.hid k1
  clear h1 k1 b1
  go_wp2_with fail
  refine H1.out.mono ?_
  intro e w2 h2
  rcases hr1 : confL p.ce p.cr with c | y1
  · rw [hr1] at h2
    obtain ⟨rfl, hb1⟩ := h2
    have HE := Lib.hid (wrErr (w := w) (l := l) (show r = .error c from by rw [HR.out, hr1] <;> rfl) hb1)
    clear hr1 hb1 H1
    exact bodyPost_pan rfl HE.out
  rw [hr1] at h2
  obtain ⟨rfl, h2, k2⟩ := h2
  have hy1 := confL_len hr1
  have E1 := Lib.hid hr1
  clear hr1
  replace k2 := HK1.out.trans k2
  clear c3 c4 H1 HK1
  have c0 : w2.cell? ⟨N, 0, none⟩ = some (.int .i64 7) := by rw [← HKD.out]; exact cell_of_row _ _ 0 _ _ _ (k2.keep HB.out.2.2 HB.out.1 (by decide))
  have c21 : w2.cell? ⟨N, 21, none⟩ = some (.slice p.xa p.xs.length p.xc) := cell_of_row _ _ 21 _ _ _ (k2.keep HB.out.2.2 HB.out.1 (by decide))
  obtain ⟨n, hn⟩ : ∃ n, n = p.xs.length := ⟨_, rfl⟩
  have HN := Lib.hid hn
  rw [← hn] at c21
  by_cases h64 : 64 < n
  · have d1 : decide (64 < n) = true := by simpa using h64
    have d2 : decide ((64 : Int) < (n : Int)) = true := by simp; omega
    have HE := Lib.hid (wrErr (w := w) (l := l) (show r = .error 3 from by rw [HR.out, E1.out, if_pos (by rw [← hn]; exact h64)] <;> rfl) h2.bel)
    clear h2 k2 hn
    go_wp2_with (go_at_call 50; refine (bad_so 3 _).mono ?_; rintro e w' ⟨rfl, rfl⟩)
    exact bodyPost_pan rfl HE.out
  have d1 : decide (64 < n) = false := by simpa using h64
  have d2 : decide ((64 : Int) < (n : Int)) = false := by simp; omega
  have hn64 : n ≤ 64 := by omega
  have E2 := Lib.hid (show r = cat (.ok y1) (cat (.ok (putL p.mem 8)) (cat (.ok (putL n 1)) (exsL p.xs))) from by rw [HR.out, E1.out, if_neg (by rw [← hn]; exact h64), ← hn])
  have c17 : w2.cell? ⟨N, 17, none⟩ = some (.int .u64 (p.mem : Int)) := cell_of_row _ _ 17 _ _ _ (k2.keep HB.out.2.2 HB.out.1 (by decide))
  have H2 := Lib.hid (wNum_any h2 p.mem 8 (by have := HL.out; simp only [List.length_append]; omega) HP.out.mem (by omega) (by omega))
  have HK2 := Lib.hid k2
  clear h2 k2 hn h64
  go_wp2_with (go_at_call 50; refine (bad_no 3 _).mono ?_; rintro e w' ⟨rfl, rfl⟩)
  refine H2.out.mono ?_
  rintro e w3 ⟨rfl, h3, k3⟩
  replace k3 := HK2.out.trans k3
  clear c0 c17 c21 d1 d2 H2 HK2
  have c21 : w3.cell? ⟨N, 21, none⟩ = some (.slice p.xa n p.xc) := by rw [HN.out]; exact cell_of_row _ _ 21 _ _ _ (k3.keep HB.out.2.2 HB.out.1 (by decide))
  have hw : IntKind.u64.wrap (n : Int) = (n : Int) := by rw [IntKind.wrap_u64]; omega
  have H3 := Lib.hid (wNum_any h3 n 1 (by have := HL.out; simp only [List.length_append, putL_length]; omega) (by omega) (by omega) (by omega))
  have HK3 := Lib.hid k3
  clear h3 k3
  go_wp2_with fail
  refine H3.out.mono ?_
  rintro e w4 ⟨rfl, h4, k4⟩
  replace k4 := HK3.out.trans k4
  clear c21 H3 HK3 hw
  have c21 : w4.cell? ⟨N, 21, none⟩ = some (.slice p.xa n p.xc) := by rw [HN.out]; exact cell_of_row _ _ 21 _ _ _ (k4.keep HB.out.2.2 HB.out.1 (by decide))
  obtain ⟨x4, hx4⟩ : ∃ x4, x4 = l ++ y1 ++ putL p.mem 8 ++ putL n 1 := ⟨_, rfl⟩
  have hx4l : x4.length ≤ l.length + 30 := by rw [hx4]; simp only [List.length_append, putL_length]; omega
  rw [← hx4] at h4
  have H4 := Lib.hid (And.intro h4 (And.intro k4 (And.intro hx4 hx4l)))
  clear h4 k4 hx4 hx4l
  by_cases hn0 : n = 0
  · subst hn0
    have HE := Lib.hid (show WrEnd w0.heap.size w0 w l r (.returned (.tuple #[])) w4 from by
      have e : p.xs = [] := List.length_eq_zero_iff.1 HN.out.symm
      rw [show r = .ok (y1 ++ (putL p.mem 8 ++ (putL 0 1 ++ []))) from by rw [E2.out, e] <;> rfl]
      refine ⟨rfl, ?_, HB.out.2.1.trans H4.out.2.1⟩
      rw [List.append_nil, ← List.append_assoc, ← List.append_assoc, ← H4.out.2.2.1]
      exact H4.out.1)
    go_wp2_with fail
    go_loopw [102] (fun i wr => i = .int .i64 0 ∧ wr = w4) (fun i _ => 0)
    case atStart => exact ⟨rfl, rfl⟩
    case round =>
      obtain ⟨rfl, rfl⟩ := hrel
      go_wp2_with fail
      go_end0
      exact HE.out
  obtain ⟨hx0, g, o, hxa, hg, hr0⟩ := HP.out.xs.2 0 (by have := HN.out; omega)
  clear hx0 hr0
  rw [hxa] at c21 ⊢
  have HXA := Lib.hid hxa
  clear hxa hn0
  go_wp2_with fail
  go_loopw [102] (fun i wr => ∃ (k : Nat) (y : List UInt8), k ≤ n ∧ i = .int .i64 (k : Int) ∧ exsL (p.xs.take k) = .ok y ∧ WrAt w0.heap.size w0 wr (x4 ++ y) ∧ KeptT w0.heap.size W wr) (fun i _ => n - (intOf i).toNat)
  case atStart => exact ⟨0, [], by omega, rfl, rfl, by simpa using H4.out.1, H4.out.2.1⟩
  case round =>
    obtain ⟨k, y, hk, rfl, hy, hW, hK⟩ := hrel
    by_cases hlt : k < n
    · have hbool : decide ((k : Int) < (n : Int)) = true := by simpa using hlt
      have hki : (k : Int) < (n : Int) := by omega
      have hkd : k < p.xs.length := by rw [← HN.out]; exact hlt
      obtain ⟨hxs, g', o', hxa, hg', hrow⟩ := HP.out.xs.2 k hkd
      clear hg'
      rw [HXA.out] at hxa
      injection hxa with hxa
      injection hxa with hxa1 hxa2
      subst hxa1 hxa2
      have hbad := fun c => exsL_bad (c := c) hkd hy
      have hsuc := fun z => exsL_succ (z := z) hkd hy
      have hyl := exsL_len hy
      rw [List.length_take] at hyl
      generalize p.xs[k] = x at *
      obtain ⟨d0, d1, d2, d3, d4, d5⟩ := ex_cells (fun j u hu => (hW.bel.cell (p := ⟨g, o + k * 6 + j, none⟩) hg).trans (hrow j u hu))
      have hb5 := ba (br wr) (.cells (exA x) 51)
      have H5 := Lib.hid (wExch_any (hW.below hb5) x hxs (by have := HL.out; have := H4.out.2.2.2; simp only [List.length_append]; omega))
      have HX := Lib.hid (And.intro hbad (And.intro hsuc (And.intro hlt (hK.trans (KeptT.of_below (B := w0.heap.size) hb5)))))
      clear hbad hsuc hlt hy hW hK hb5 hrow hxs hkd hyl
      go_wp2_with fail
      refine H5.out.mono ?_
      intro e w6 h6
      rcases hr2 : exL x with c | z
      · rw [hr2] at h6
        obtain ⟨rfl, hb2⟩ := h6
        have HE := Lib.hid (wrErr (w := w) (l := l) (show r = .error c from by rw [E2.out, HX.out.1 c hr2] <;> rfl) hb2)
        clear hr2 hb2 H5
        (try simp only [Exit.inBlock, Exit.then])
        exact bodyPost_pan (P := Try.prog) (fn := Try.f33) rfl HE.out
      rw [hr2] at h6
      obtain ⟨rfl, h6, k6⟩ := h6
      have HE := Lib.hid (And.intro (HX.out.2.1 z hr2) (And.intro (show WrAt w0.heap.size w0 w6 (x4 ++ (y ++ z)) from by rw [← List.append_assoc]; exact h6) (HX.out.2.2.2.trans k6)))
      clear h6 k6 hr2 H5 d0 d1 d2 d3 d4 d5
      go_wp2_with fail
      exact ⟨⟨k + 1, y ++ z, HX.out.2.2.1, by go_num, HE.out⟩, measI HX.out.2.2.1⟩
    · have hbool : decide ((k : Int) < (n : Int)) = false := by simpa using hlt
      have HE := Lib.hid (show WrEnd w0.heap.size w0 w l r (.returned (.tuple #[])) wr from by
        rw [List.take_of_length_le (by rw [← HN.out]; omega)] at hy
        rw [show r = .ok (y1 ++ (putL p.mem 8 ++ (putL n 1 ++ y))) from by rw [E2.out, hy] <;> rfl]
        refine ⟨rfl, ?_, HB.out.2.1.trans hK⟩
        rw [← List.append_assoc, ← List.append_assoc, ← List.append_assoc, ← H4.out.2.2.1]
        exact hW)
      clear hy hW hK
      go_wp2_with fail
      go_end0
      exact HE.out
/-- a packet's body -/
def bodyL (p : Pkt) : Except Int (List UInt8) := cat (confL p.ce p.cr) (
  if p.kind = 1 then msgL p.m
  else if p.kind = 2 then cat (.ok (putL p.stamp 8)) (cat (.ok (putL p.sent 4)) (cat (vecL p.got) (.ok (putL p.hor 8))))
  else if p.kind = 3 ∨ p.kind = 8 then cat (procL p.whom) (.ok (putL p.seq 4))
  else if p.kind = 4 then cat (confL p.pe p.pr) (cat (.ok (putL p.epoch 8)) (.ok (putL p.mem 8)))
  else if p.kind = 5 then .ok (putL p.mem 8)
  else if p.kind = 6 then oneX p.xs
  else if p.kind = 7 then if 64 < p.xs.length then .error 3 else cat (.ok (putL p.mem 8)) (cat (.ok (putL p.xs.length 1)) (exsL p.xs))
  else if p.kind = 9 then cat (procL p.whom) (msgL p.m)
  else .ok [])
theorem cat_nil (a : Except Int (List UInt8)) : cat a (.ok []) = a := by cases a <;> simp [cat, Except.map]
theorem wBody_any {w0 w : World} {l : List UInt8} (h : WrAt w0.heap.size w0 w l) (p : Pkt) (hp : PktOk w0 p) (hk : 1 ≤ p.kind ∧ p.kind ≤ 11) (hl : l.length ≤ 98000000) :
    Calls Try.prog 33 #[.pointer (some ⟨w0.heap.size, 0, none⟩), .agg (pktA p)] w fun e w' => WrEnd w0.heap.size w0 w l (bodyL p) e w' := by
  have hc : p.kind = 1 ∨ p.kind = 2 ∨ p.kind = 3 ∨ p.kind = 4 ∨ p.kind = 5 ∨ p.kind = 6 ∨ p.kind = 7 ∨ p.kind = 8 ∨ p.kind = 9 ∨ p.kind = 10 ∨ p.kind = 11 := by omega
  unfold bodyL
  rcases hc with e | e | e | e | e | e | e | e | e | e | e <;> simp only [e, reduceIte, Int.reduceEq, false_or, or_false, or_self, or_true, true_or]
  · exact wBody1_any h p hp e hl
  · exact wBody2_any h p hp e hl
  · exact wBody3_any h p hp e hl
  · exact wBody4_any h p hp e hl
  · exact wBody5_any h p hp e hl
  · exact wBody6_any h p hp e hl
  · exact wBody7_any h p hp e hl
  · exact wBody8_any h p hp e hl
  · exact wBody9_any h p hp e hl
  · rw [cat_nil]; exact wBody10_any h p hp e hl
  · rw [cat_nil]; exact wBody11_any h p hp e hl
end Go.Proofs.Ytgpojbmloielmaa
