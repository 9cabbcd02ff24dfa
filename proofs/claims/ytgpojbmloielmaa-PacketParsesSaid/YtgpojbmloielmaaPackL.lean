/-
  What the reference's Print of a packet returns.
  Conditions: those that each theorem names.
-/
import Derived.Test.YtgpojbmloielmaaPackK
namespace Go.Proofs.Ytgpojbmloielmaa
set_option linter.unusedVariables false
set_option linter.unusedSimpArgs false
open Go.RowKit
/-- the letters of a kind's row -/
def rowL (k : Int) : List Nat :=
  if k = 1 then [99, 109] else if k = 2 then [99, 115, 110, 103, 104] else if k = 3 then [99, 119, 113] else if k = 4 then [99, 112, 101, 98] else if k = 5 then [99, 98]
  else if k = 6 then [99, 120] else if k = 7 then [99, 98, 108] else if k = 8 then [99, 119, 113] else if k = 9 then [99, 119, 109] else if k = 10 then [99] else if k = 11 then [99] else []
def rowB (k : Int) : ByteArray := ⟨((rowL k).map fun n => UInt8.ofNat n).toArray⟩
theorem kind_cases {k : Int} (h : 1 ≤ k ∧ k ≤ 11) : k = 1 ∨ k = 2 ∨ k = 3 ∨ k = 4 ∨ k = 5 ∨ k = 6 ∨ k = 7 ∨ k = 8 ∨ k = 9 ∨ k = 10 ∨ k = 11 := by omega
theorem row_get {k : Int} (h : 1 ≤ k ∧ k ≤ 11) : (rowB k).size = (rowL k).length ∧ (rowL k).length ≤ 5 ∧ ∀ i (hi : i < (rowL k).length), (∀ W : World, (Instr.index 9 (.string (rowB k)) (.int .i64 (i : Int))).run Try.prog W = .ok (.int .u8 ((rowL k)[i] : Int)) W) ∧
    ((rowL k)[i] = 99 ∨ (rowL k)[i] = 109 ∨ (rowL k)[i] = 115 ∨ (rowL k)[i] = 110 ∨ (rowL k)[i] = 103 ∨ (rowL k)[i] = 104 ∨ (rowL k)[i] = 119 ∨ (rowL k)[i] = 113 ∨ (rowL k)[i] = 112 ∨ (rowL k)[i] = 101 ∨ (rowL k)[i] = 98 ∨ (rowL k)[i] = 120 ∨ (rowL k)[i] = 108) := by
  rcases kind_cases h with e | e | e | e | e | e | e | e | e | e | e <;> subst e <;> refine ⟨by decide, by decide, ?_⟩ <;> intro i hi
  all_goals
    have hi' := hi
    simp only [rowL, reduceIte, Int.reduceEq, List.length_cons, List.length_nil] at hi'
    have hc : i = 0 ∨ i = 1 ∨ i = 2 ∨ i = 3 ∨ i = 4 := by omega
    rcases hc with e | e | e | e | e <;> subst e <;> first | (exfalso; omega) | exact ⟨fun W => by kernel_rfl, by simp [rowL]⟩
theorem row_last {k : Int} (h : 1 ≤ k ∧ k ≤ 11) : ∀ i, i + 1 < (rowL k).length → (rowL k)[i]? ≠ some 109 := by
  rcases kind_cases h with e | e | e | e | e | e | e | e | e | e | e <;> subst e <;> intro i hi
  all_goals
    have hi' := hi
    simp only [rowL, reduceIte, Int.reduceEq, List.length_cons, List.length_nil] at hi'
    have hc : i = 0 ∨ i = 1 ∨ i = 2 ∨ i = 3 := by omega
    rcases hc with e | e | e | e <;> subst e <;> first | (exfalso; omega) | simp [rowL]
set_option maxHeartbeats 4000000 in
theorem refRow_any (k : Int) (h : 1 ≤ k ∧ k ≤ 11) (w : World) : Calls Try.prog 25 #[.int .i64 k] w fun e w' => e = .returned (.string (rowB k)) ∧ Below w.heap.size w w' := by
  obtain ⟨b, hb⟩ : ∃ b, b = rowB k := ⟨_, rfl⟩
  have hidx : ∀ W : World, (Instr.index 103 (.agg #[.string ⟨#[]⟩, .string (rowB 1), .string (rowB 2), .string (rowB 3), .string (rowB 4), .string (rowB 5), .string (rowB 6), .string (rowB 7), .string (rowB 8), .string (rowB 9), .string (rowB 10), .string (rowB 11)]) (.int .i64 k)).run Try.prog W = .ok (.string b) W := by
    intro W
    rw [hb]
    rcases kind_cases h with e | e | e | e | e | e | e | e | e | e | e <;> subst e <;> kernel_rfl
  rw [← hb]
  simp only [show rowB 1 = ⟨#[99, 109]⟩ from by decide, show rowB 2 = ⟨#[99, 115, 110, 103, 104]⟩ from by decide, show rowB 3 = ⟨#[99, 119, 113]⟩ from by decide, show rowB 4 = ⟨#[99, 112, 101, 98]⟩ from by decide, show rowB 5 = ⟨#[99, 98]⟩ from by decide, show rowB 6 = ⟨#[99, 120]⟩ from by decide, show rowB 7 = ⟨#[99, 98, 108]⟩ from by decide, show rowB 8 = ⟨#[99, 119, 113]⟩ from by decide, show rowB 9 = ⟨#[99, 119, 109]⟩ from by decide, show rowB 10 = ⟨#[99]⟩ from by decide, show rowB 11 = ⟨#[99]⟩ from by decide] at hidx
  clear hb
  go_enter Try.func25, Try.ntmps25
  go_wp2
  go_ret
  exact ⟨rfl, br _⟩
theorem MkR.error {s : ByteArray} {r : Except Int (List UInt8)} {s' : ByteArray} {e' : Int} (h : MkR s 0 r s' e') (he : e' ≠ 0) : r = .error e' := by
  cases r with
  | ok x => exact absurd ((h.2 rfl).1 x rfl).2 he
  | error c => rw [((h.2 rfl).2 c rfl).1]
theorem MkR.okay {s : ByteArray} {r : Except Int (List UInt8)} {s' : ByteArray} (h : MkR s 0 r s' 0) : ∃ y, r = .ok y ∧ s' = s ++ strL y := by
  cases r with
  | ok x => exact ⟨x, rfl, ((h.2 rfl).1 x rfl).1⟩
  | error c => exact absurd ((h.2 rfl).2 c rfl).1.symm ((h.2 rfl).2 c rfl).2
/-- a row of fields -/
def fieldsL : List Nat → Pkt → Except Int (List UInt8)
  | [], _ => .ok []
  | f :: l, p => cat (fieldL f p) (fieldsL l p)
theorem fieldsL_append (a b : List Nat) (p : Pkt) : fieldsL (a ++ b) p = cat (fieldsL a p) (fieldsL b p) := by
  induction a with
  | nil => rw [List.nil_append]; exact (nil_cat _).symm
  | cons f l ih => rw [List.cons_append, fieldsL, fieldsL, ih, cat_assoc]
theorem fieldsL_body (p : Pkt) (hk : 1 ≤ p.kind ∧ p.kind ≤ 11) : fieldsL (rowL p.kind) p = bodyL p := by
  unfold bodyL rowL
  rcases kind_cases hk with e | e | e | e | e | e | e | e | e | e | e <;> simp only [e, reduceIte, Int.reduceEq, false_or, or_false, or_self, or_true, true_or, fieldsL, fieldL, Nat.reduceEqDiff, cat_nil]
  unfold manyL
  congr 1
  split
  · rfl
  · rfl
theorem fieldsL_stop {l : List Nat} {k : Nat} {p : Pkt} {s : ByteArray} {e : Int} {s' : ByteArray} {e' : Int} (h : MkR s e (fieldsL (l.take k) p) s' e') (he : e' ≠ 0) : MkR s e (fieldsL l p) s' e' := by
  have e1 : fieldsL l p = cat (fieldsL (l.take k) p) (fieldsL (l.drop k) p) := by rw [← fieldsL_append, List.take_append_drop]
  rw [e1]
  exact h.stay he _
theorem fieldsL_succ {l : List Nat} {k : Nat} {p : Pkt} (hk : k < l.length) : fieldsL (l.take (k + 1)) p = cat (fieldsL (l.take k) p) (fieldL l[k] p) := by
  rw [List.take_succ_eq_append_getElem hk, fieldsL_append]
  simp [fieldsL, cat_nil]
theorem range_of_block {w : World} {b : Nat} {cs : Array Value} {t : TypeId} {fr : Nat × Nat} (h : w.heap[b]? = some (.cells cs t fr)) : w.rangeAt b 0 cs.toList := by
  intro j u hu
  rw [Nat.zero_add]
  exact (cell_of_row _ _ j _ _ _ h).trans (by simpa using hu)
set_option maxRecDepth 100000 in
set_option maxHeartbeats 8000000 in
theorem refPkPrint_any (p : Pkt) (w : World) (hp : PktOk w p) :
    Calls Try.prog 15 #[.agg (pktA p)] w fun e w' => e = .returned (.tuple #[.string (pktS p), .int .i64 (pktE p)]) ∧ Below w.heap.size w w' := by
  obtain ⟨S, hS⟩ : ∃ S, S = pktS p := ⟨_, rfl⟩
  obtain ⟨E, hE⟩ : ∃ E, E = pktE p := ⟨_, rfl⟩
  rw [← hS, ← hE]
  have hSE1 := And.intro hS hE
  unfold pktS pktE at hSE1
  have HP := Lib.hid hp
  clear hS hE hp
  obtain ⟨N, hN⟩ : ∃ N, N = w.heap.size := ⟨_, rfl⟩
  obtain ⟨W, hW⟩ : ∃ W, W = w.alloc (.cells (pktA p) 35) := ⟨_, rfl⟩
  have hbA := ba (br w) (.cells (pktA p) 35)
  have hxA := heap_alloc_new w (.cells (pktA p) 35)
  rw [← hW] at hxA hbA
  rw [← hN] at hxA
  have hma : pktA p = #[.int .i64 p.kind, .int .i64 p.frm, .int .i64 p.dst, .int .u64 (p.ce : Int), .int .i64 p.cr, .int .i64 p.m.frm, .int .u32 (p.m.seq : Int), .int .u64 (p.m.stamp : Int), .int .i64 p.m.service, .slice p.m.da p.m.ds.length p.m.dc, .string p.m.pay, .int .u64 (p.stamp : Int), .int .u32 (p.sent : Int), .slice p.ga p.got.length p.gc, .int .u64 (p.hor : Int), .int .i64 p.whom, .int .u32 (p.seq : Int), .int .u64 (p.mem : Int), .int .u64 (p.pe : Int), .int .i64 p.pr, .int .u64 (p.epoch : Int), .slice p.xa p.xs.length p.xc] := rfl
  rw [hma] at hW ⊢
  go_enter Try.func15, Try.ntmps15
  go_upto_region 1 with (fail)
  rw [← hW, ← hN]
  have c0 : W.cell? ⟨N, 0, none⟩ = some (.int .i64 p.kind) := cell_of_row _ _ 0 _ _ _ hxA
  have c1 : W.cell? ⟨N, 1, none⟩ = some (.int .i64 p.frm) := cell_of_row _ _ 1 _ _ _ hxA
  have c2 : W.cell? ⟨N, 2, none⟩ = some (.int .i64 p.dst) := cell_of_row _ _ 2 _ _ _ hxA
  have H3 := Lib.hid (And.intro hxA (And.intro hbA hN))
  clear hma hW hxA hbA hN
  have HPr := Lib.hid (refPrint_any p.kind p.frm p.dst ⟨#[]⟩ W (by simp [ByteArray.size]))
  obtain ⟨z, hzE⟩ : ∃ z, z = printE p.kind p.frm p.dst ⟨#[]⟩ := ⟨_, rfl⟩
  rw [← hzE] at HPr hSE1
  have HZE := Lib.hid hzE.symm
  clear hzE
  generalize printS p.kind p.frm p.dst ⟨#[]⟩ = s0 at HPr
  have HZ := Lib.hid hSE1
  clear hSE1
  go_wp2_with fail
  refine HPr.out.mono ?_
  rintro e w4 ⟨rfl, hb4⟩
  have hx0 := (hb4.block _ (Array.getElem?_eq_some_iff.1 H3.out.1).1).trans H3.out.1
  have H4 := Lib.hid (And.intro hx0 (bt H3.out.2.1 hb4))
  clear hx0 hb4 c0 c1 c2 HPr
  by_cases hz : z = 0
  · subst hz
    have hk := printE_kind HZE.out
    have hxW := heap_alloc_new w4 (.cells #[.string ⟨#[]⟩, .int .i64 0] 84)
    have hbW := ba (br w4) (.cells #[.string ⟨#[]⟩, .int .i64 0] 84)
    have hM5 : MkAt w4.heap.size w4 (w4.alloc (.cells #[.string ⟨#[]⟩, .int .i64 0] 84)) ⟨#[]⟩ 0 := ⟨hxW, hbW, Nat.le_refl _⟩
    have hp4 := HP.out.below H4.out.2
    have HRo := Lib.hid (refRow_any p.kind hk (w4.alloc (.cells #[.string ⟨#[]⟩, .int .i64 0] 84)))
    have hN4 := (Array.getElem?_eq_some_iff.1 H4.out.1).1
    have x5 := (hbW.block _ hN4).trans H4.out.1
    have c0 : (w4.alloc (.cells #[.string ⟨#[]⟩, .int .i64 0] 84)).cell? ⟨N, 0, none⟩ = some (.int .i64 p.kind) := cell_of_row _ _ 0 _ _ _ x5
    have HM5 := Lib.hid (And.intro hM5 (And.intro hp4 (And.intro hN4 (And.intro x5 hk))))
    clear hk hxW hbW hM5 hp4 hN4 x5
    go_wp2_with fail
    refine HRo.out.mono ?_
    rintro e w6 ⟨rfl, hb6⟩
    have hM6 := HM5.out.1.below hb6
    have x6 := (hb6.block _ (Array.getElem?_eq_some_iff.1 HM5.out.2.2.2.1).1).trans HM5.out.2.2.2.1
    obtain ⟨hrs, hr5, hrg⟩ := row_get HM5.out.2.2.2.2
    have hfb := fieldsL_body p HM5.out.2.2.2.2
    have hlst := row_last HM5.out.2.2.2.2
    generalize rowB p.kind = r at *
    generalize rowL p.kind = L at *
    obtain ⟨n, hn⟩ : ∃ n, n = L.length := ⟨_, rfl⟩
    have hrn : r.size = n := by rw [hn]; exact hrs
    have hn5 : n ≤ 5 := by rw [hn]; exact hr5
    have HLS := Lib.hid hlst
    clear hlst
    have H6 := Lib.hid (And.intro hM6 (And.intro x6 (And.intro hrg (And.intro hfb hn))))
    clear hM6 x6 hrs hr5 hrg hfb hn hb6 c0 HRo
    go_wp2_with fail
    go_loopw [8] (fun i wr => ∃ (k : Nat) (s' : ByteArray) (e' : Int), k ≤ n ∧ i = .int .i64 (k : Int) ∧ MkAt w4.heap.size w4 wr s' e' ∧ Kept (fun b => b = w4.heap.size) w6 wr ∧ Hid (k < n → s'.size ≤ 60000 * k) ∧ MkR ⟨#[]⟩ 0 (fieldsL (L.take k) p) s' e') (fun i _ => n - (intOf i).toNat)
    case atStart => exact ⟨0, ⟨#[]⟩, 0, by omega, rfl, H6.out.1, .refl _ _, fun _ => by simp [ByteArray.size], MkR.refl _ _⟩
    case round =>
      obtain ⟨k, s4, e4, hk, rfl, h4, k4, z4, r4⟩ := hrel
      have c1 : wr.cell? ⟨w4.heap.size, 1, none⟩ = some (.int .i64 e4) := cell_of_row _ _ 1 _ _ _ h4.1
      by_cases hlt : k < n
      · have hbool : decide ((k : Int) < (n : Int)) = true := by simpa using hlt
        have hki : (k : Int) < (n : Int) := by omega
        by_cases he : e4 = 0
        · subst he
          have hkd : k < L.length := by rw [← H6.out.2.2.2.2]; exact hlt
          obtain ⟨hidx, hf⟩ := H6.out.2.2.1 k hkd
          have hsucc := fieldsL_succ (p := p) hkd
          have hlf : k + 1 < n → L[k] ≠ 109 := fun h e => HLS.out k (by rw [← H6.out.2.2.2.2]; exact h) (by rw [List.getElem?_eq_getElem hkd, e])
          have z4' := z4.out hlt
          generalize L[k] = f at *
          have xk := k4.keep H6.out.2.1 (fun e => Nat.ne_of_lt HM5.out.2.2.1 e)
          have HLF := Lib.hid hlf
          clear hlf
          have HX := Lib.hid (And.intro k4 (And.intro z4' (And.intro r4 (And.intro hsucc (And.intro hlt (And.intro h4 (And.intro hf xk)))))))
          clear hsucc k4 z4 z4' r4 hkd h4 hf xk
          go_upto_region 9 with (fail)
          refine wp_region_drew_tail 5 (by kernel_rfl) (by kernel_rfl) ?_
          simp only [List.take_succ_cons, List.take_zero, List.drop_succ_cons, List.drop_zero]
          repeat (first | (refine wpQuiet_load_mid rfl 35 (.tmp 1) rfl N 0 rfl (pktA p).toList _ (fun w' hw' => by obtain ⟨q, rfl⟩ := hw'; exact range_of_block (fr := (0, 0)) (t := 35) ((bn (br wr) q).block _ (Array.getElem?_eq_some_iff.1 HX.out.2.2.2.2.2.2.2).1 |>.trans HX.out.2.2.2.2.2.2.2)) Try.underlying35 rfl (by kernel_rfl) ?_) | go_big_quiet_step ((fail)))
          refine wpQuiet_nil ?_
          intro w9 hw9
          obtain ⟨q, rfl⟩ := hw9
          have h9 := HX.out.2.2.2.2.2.1.below (bn (br wr) q)
          have H5 := Lib.hid (mFld_any h9 p HM5.out.2.1 f HX.out.2.2.2.2.2.2.1 (by have := HX.out.2.1; omega))
          clear h9
          go_wp2_with fail
          refine H5.out.mono ?_
          rintro en w10 ⟨rfl, s6, e6, h6, k6, z6, r6⟩
          have HE := Lib.hid (And.intro h6 (And.intro (HX.out.1.trans ((Kept.of_below (bn (br wr) q)).trans k6)) (And.intro (show Hid (k + 1 < n → s6.size ≤ 60000 * (k + 1)) from fun h => by have := HX.out.2.1; rw [fldK_le (HLF.out h)] at z6; rw [Nat.mul_add, Nat.mul_one]; omega) (show MkR ⟨#[]⟩ 0 (fieldsL (L.take (k + 1)) p) s6 e6 from by rw [HX.out.2.2.2.1]; exact HX.out.2.2.1.seq r6))))
          clear h6 k6 z6 r6 H5 c1
          go_wp2_with fail
          exact ⟨⟨k + 1, s6, e6, HX.out.2.2.2.2.1, by go_num, HE.out⟩, measI HX.out.2.2.2.2.1⟩
        · have he2 : (e4 == 0) = false := by simpa using he
          have he3 : decide (e4 = 0) = false := by simpa using he
          have he4 : (e4 != 0) = true := by simpa using he
          have HE := Lib.hid (show MkR ⟨#[]⟩ 0 (bodyL p) s4 e4 from by rw [← H6.out.2.2.2.1]; exact fieldsL_stop r4 he)
          have HF := Lib.hid (show S = ⟨#[]⟩ ∧ E = e4 from by rw [if_neg (by simp), if_neg (by simp), HE.out.error he] at HZ; exact HZ.out)
          have HG := Lib.hid (show Below w.heap.size w wr from bt H4.out.2 (by have := h4.2.1; exact this))
          have pe := Bel.cell c1 h4.lt
          clear h4 k4 z4 r4 he
          go_wp2_with fail
          refine wp_region_bel (by kernel_rfl) (by kernel_rfl) ?_
          repeat (go_big_quiet_step ((fail)))
          refine wpQuiet_nil ?_
          rintro w7 ⟨X, rfl⟩
          have hb67 := bt HG.out X.prop
          go_wp2_with fail
          go_ret2
          exact ⟨by rw [HF.out.1, HF.out.2]; rfl, hb67⟩
      · have hbool : decide ((k : Int) < (n : Int)) = false := by simpa using hlt
        have HE := Lib.hid (show MkR ⟨#[]⟩ 0 (bodyL p) s4 e4 from by
          rw [List.take_of_length_le (by rw [← H6.out.2.2.2.2]; omega), H6.out.2.2.2.1] at r4
          exact r4)
        by_cases he : e4 = 0
        · subst he
          obtain ⟨y, hb, hs4⟩ := HE.out.okay
          have hyl := bodyL_len hb
          have xk := k4.keep H6.out.2.1 (fun e => Nat.ne_of_lt HM5.out.2.2.1 e)
          have l0 := (Array.getElem?_eq_some_iff.1 xk).1
          have p0 := Bel.cell (v := .int .i64 p.kind) (show wr.cell? ⟨N, 0, none⟩ = some (.int .i64 p.kind) from cell_of_row _ _ 0 _ _ _ xk) l0
          have p1 := Bel.cell (v := .int .i64 p.frm) (show wr.cell? ⟨N, 1, none⟩ = some (.int .i64 p.frm) from cell_of_row _ _ 1 _ _ _ xk) l0
          have p2 := Bel.cell (v := .int .i64 p.dst) (show wr.cell? ⟨N, 2, none⟩ = some (.int .i64 p.dst) from cell_of_row _ _ 2 _ _ _ xk) l0
          have pw := Bel.cell (v := .string s4) (show wr.cell? ⟨w4.heap.size, 0, none⟩ = some (.string s4) from cell_of_row _ _ 0 _ _ _ h4.1) (Array.getElem?_eq_some_iff.1 h4.1).1
          have hs5 : s4 = strL y := by rw [hs4]; apply ByteArray.ext; simp [strL, ByteArray.data_append]
          have HPr2 := Lib.hid (show ∀ X : Bel wr, Calls Try.prog 9 #[.int .i64 p.kind, .int .i64 p.frm, .int .i64 p.dst, .string s4] X.val fun e w' => e = .returned (.tuple #[.string (printS p.kind p.frm p.dst s4), .int .i64 (printE p.kind p.frm p.dst s4)]) ∧ Below X.val.heap.size X.val w' from fun X => refPrint_any _ _ _ s4 X.val (by rw [hs5]; show y.toArray.size ≤ _; simp; omega))
          have HF := Lib.hid (show S = printS p.kind p.frm p.dst s4 ∧ E = printE p.kind p.frm p.dst s4 from by rw [if_neg (by simp), if_neg (by simp), hb] at HZ; rw [hs5]; exact HZ.out)
          generalize printS p.kind p.frm p.dst s4 = s2 at *
          generalize printE p.kind p.frm p.dst s4 = z2 at *
          have HG := Lib.hid (show Below w.heap.size w wr from bt H4.out.2 (by have := h4.2.1; exact this))
          clear h4 k4 z4 r4 hb hs4 hyl xk l0 hs5
          go_upto_region 12 with (fail)
          refine wp_region_bel (by kernel_rfl) (by kernel_rfl) ?_
          repeat (go_big_quiet_step ((go_at_call 9; exact bel_call (HPr2.out _))))
          refine wpQuiet_nil ?_
          rintro w7 ⟨X, rfl⟩
          have hb67 := bt HG.out X.prop
          go_wp2_with fail
          go_ret2
          exact ⟨by rw [HF.out.1, HF.out.2]; rfl, hb67⟩
        · have he2 : (e4 == 0) = false := by simpa using he
          have he3 : decide (e4 = 0) = false := by simpa using he
          have he4 : (e4 != 0) = true := by simpa using he
          have HF := Lib.hid (show S = ⟨#[]⟩ ∧ E = e4 from by rw [if_neg (by simp), if_neg (by simp), HE.out.error he] at HZ; exact HZ.out)
          have HG := Lib.hid (show Below w.heap.size w wr from bt H4.out.2 (by have := h4.2.1; exact this))
          have pe := Bel.cell c1 h4.lt
          clear h4 k4 z4 r4 he
          go_wp2_with fail
          refine wp_region_bel (by kernel_rfl) (by kernel_rfl) ?_
          repeat (go_big_quiet_step ((fail)))
          refine wpQuiet_nil ?_
          rintro w7 ⟨X, rfl⟩
          have hb67 := bt HG.out X.prop
          go_wp2_with fail
          go_ret2
          exact ⟨by rw [HF.out.1, HF.out.2]; rfl, hb67⟩
  · have hz2 : (z != 0) = true := by simpa using hz
    have HE := Lib.hid (show S = ⟨#[]⟩ ∧ E = z from by rw [if_pos hz, if_pos hz] at HZ; exact HZ.out)
    go_wp2_with fail
    go_ret2
    exact ⟨by rw [HE.out.1, HE.out.2]; rfl, H4.out.2⟩
end Go.Proofs.Ytgpojbmloielmaa
