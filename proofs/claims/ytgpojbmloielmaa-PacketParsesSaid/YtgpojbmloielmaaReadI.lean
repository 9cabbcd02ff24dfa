/-
  What packet.Parse returns.
  Conditions: a text has at most 1000000 bytes.
-/
import Derived.Test.YtgpojbmloielmaaReadH
import Derived.Test.YtgpojbmloielmaaFrameB
import Derived.Test.YtgpojbmloielmaaMaskP
namespace Go.Proofs.Ytgpojbmloielmaa
set_option linter.unusedVariables false
set_option linter.unusedSimpArgs false
open Go.RowKit
def pktR (s : ByteArray) : Except Int (Pkt × List UInt8) := if parseE s ≠ 0 then .error (parseE s) else rdBody (parseN s 2) (parseN s 3) (parseN s 4) (parseB s).data.toList
def pktPQ (s : ByteArray) : Pkt := match pktR s with
  | .ok x => x.1
  | .error _ => zeroP
def pktPE (s : ByteArray) : Int := match pktR s with
  | .ok _ => 0
  | .error c => c
def ParseEnd (s : ByteArray) (w : World) (e : Ending) (w' : World) : Prop := (∃ q, e = .returned (.tuple #[.agg (pktA q), .int .i64 (pktPE s)]) ∧ coreP q = coreP (pktPQ s) ∧ OwnPk w.heap.size w' q) ∧ Below w.heap.size w w'
structure PSt (w W : World) (C : Array Value) (z : Int) : Prop where
  a : W.heap[w.heap.size]? = some (.cells C 35 (0, 0))
  b : W.heap[w.heap.size + 1]? = some (.cells #[.int .i64 z] 36 (0, 0))
  bel : Below w.heap.size w W
theorem PSt.below {w W W' : World} {C : Array Value} {z : Int} (h : PSt w W C z) (hb : Below W.heap.size W W') : PSt w W' C z :=
  ⟨(hb.block _ (Array.getElem?_eq_some_iff.1 h.a).1).trans h.a, (hb.block _ (Array.getElem?_eq_some_iff.1 h.b).1).trans h.b, bt h.bel hb⟩
theorem PSt.row {w W : World} {C : Array Value} {z : Int} (h : PSt w W C z) (D : Array Value) : PSt w (W.setRow w.heap.size D) D z :=
  ⟨setRow_heap _ _ _ _ _ _ h.a, (kept_setRow W w.heap.size D).keep h.b (by omega), (kept_setRow W w.heap.size D).out h.bel h.bel.size (fun k hk e => by omega)⟩
theorem PSt.err {w W : World} {C : Array Value} {z : Int} (h : PSt w W C z) (c : Int) : PSt w (W.setCell ⟨w.heap.size + 1, 0, none⟩ (.int .i64 c)) C c :=
  ⟨(keptS W ⟨w.heap.size + 1, 0, none⟩ _).keep h.a (by simp), setCell_block h.b 0 _, (keptS W ⟨w.heap.size + 1, 0, none⟩ _).out h.bel h.bel.size (fun k hk e => by simp at e; omega)⟩
theorem two_pst (w : World) : PSt w ((w.alloc (.cells (pktA zeroP) 35)).alloc (.cells #[.int .i64 0] 36)) (pktA zeroP) 0 := by
  have b1 := ba (br w) (.cells (pktA zeroP) 35)
  have b2 := ba (br (w.alloc (.cells (pktA zeroP) 35))) (.cells #[.int .i64 0] 36)
  have h1 := heap_alloc_new w (.cells (pktA zeroP) 35)
  have h2 := heap_alloc_new (w.alloc (.cells (pktA zeroP) 35)) (.cells #[.int .i64 0] 36)
  have s1 : (w.alloc (.cells (pktA zeroP) 35)).heap.size = w.heap.size + 1 := by simp
  exact ⟨(b2.block _ (by omega)).trans h1, by rw [← s1]; exact h2, bt b1 b2⟩
theorem res2 {tmps : Array Value} {w W : World} {C : Array Value} {z : Int} (h : PSt w W C z) (hC : C.size = 22) {N : Nat} (hN : N = w.heap.size) (ha : tmps.getD 2 undef = .pointer (some ⟨N, 0, none⟩)) (hb : tmps.getD 3 undef = .pointer (some ⟨N + 1, 0, none⟩)) :
    (results Try.f10 tmps).run Try.prog W = .ok (.tuple #[.agg C, .int .i64 z]) W := by
  subst hN
  simp only [Array.getD_eq_getD_getElem?] at ha hb
  have e1 := run_loadVar_row W w.heap.size 35 35 C (0, 0) _ h.a Try.underlying35 rfl (by rw [hC]; kernel_rfl)
  have e2 : W.cell? ⟨w.heap.size + 1, 0, none⟩ = some (.int .i64 z) := cell_of_row _ _ 0 _ _ _ h.b
  have e3 : (loadVar 36 ⟨w.heap.size + 1, 0, none⟩).run Try.prog W = .ok (.int .i64 z) W := by simp [go_sem, e2]
  simp [results, Try.results10, ha, hb, asAddr, e1, e3]
theorem bldQ (a b c : Int) : Try.prog.built 35 [(0, .int .i64 a), (1, .int .i64 b), (2, .int .i64 c)] = some (pktA { zeroP with kind := a, frm := b, dst := c }) := by kernel_rfl
theorem parseB_size (s : ByteArray) : (parseB s).size ≤ s.size := by
  unfold parseB bodyS cutS
  split
  · simp only [ByteArray.size_extract]; omega
  · show 0 ≤ _; omega
theorem parseE_kind {s : ByteArray} (h : parseE s = 0) : 1 ≤ parseN s 2 ∧ parseN s 2 ≤ 11 := by
  unfold parseN
  rw [if_pos h]
  unfold parseE at h
  by_cases h1 : s.size < 11
  · rw [if_pos h1] at h; exact absurd h (by decide)
  rw [if_neg h1] at h
  by_cases h2 : goodB s = false
  · rw [if_pos h2] at h; exact absurd h (by decide)
  rw [if_neg h2] at h
  by_cases h3 : byteN s 0 ≠ 197
  · rw [if_pos h3] at h; exact absurd h (by decide)
  rw [if_neg h3] at h
  by_cases h4 : byteN s 1 ≠ 1
  · rw [if_pos h4] at h; exact absurd h (by decide)
  rw [if_neg h4] at h
  by_cases h5 : kindB (byteN s 2) = false
  · rw [if_pos h5] at h; exact absurd h (by decide)
  have h6 : kindB (byteN s 2) = true := by simpa using h5
  simpa [kindB] using h6
theorem yieldsIf_build {P : Program} {ops : Array Oper} {S : World → Prop} {o : Oper} {a : Act} (hw : Region.wanted o (yielded ops a.tmps) = true) (t : TypeId) (parts : Array (Nat × Operand)) (ho : o.op = .build t parts) (cells : Array Value)
    (hc : P.built t (parts.map fun (i, x) => (i, a.eval x)).toList = some cells) : YieldsIf P ops S o (.agg cells) a := .inl ⟨hw, fun w _ => by
  unfold execOp
  simp only [ho, Sem.run_bind, run_build w t _ cells hc, Result.andThen_ok]
  rfl⟩
set_option maxRecDepth 100000 in
set_option maxHeartbeats 8000000 in
theorem pkParse_any (s : ByteArray) (w : World) (hs : s.size ≤ 1000000) : Calls Try.prog 10 #[.string s] w fun e w' => ParseEnd s w e w' := by
  have hmf : ∀ (fn : Fn) (first cap : Array Value) (w : World), (Instr.makeFunc fn first cap).run Try.prog w = .ok (.func fn first cap) w := fun _ _ _ _ => rfl
  obtain ⟨N, hN⟩ : ∃ N, N = w.heap.size := ⟨_, rfl⟩
  obtain ⟨W, hW⟩ : ∃ W, W = (w.alloc (.cells (pktA zeroP) 35)).alloc (.cells #[.int .i64 0] 36) := ⟨_, rfl⟩
  have hst : PSt w W (pktA zeroP) 0 := by rw [hW]; exact two_pst w
  have HN := Lib.hid hN
  have HST := Lib.hid hst
  have hmz : pktA zeroP = #[.int .i64 0, .int .i64 0, .int .i64 0, .int .u64 0, .int .i64 0, .int .i64 0, .int .u32 0, .int .u64 0, .int .i64 0, .slice none 0 0, .string ⟨#[]⟩, .int .u64 0, .int .u32 0, .slice none 0 0, .int .u64 0, .int .i64 0, .int .u32 0, .int .u64 0, .int .u64 0, .int .i64 0, .int .u64 0, .slice none 0 0] := rfl
  rw [hmz] at hW
  have hPA := Parse_any s W hs
  unfold frameV at hPA
  obtain ⟨kk, hkk⟩ : ∃ kk, kk = parseN s 2 := ⟨_, rfl⟩
  obtain ⟨ff, hff⟩ : ∃ ff, ff = parseN s 3 := ⟨_, rfl⟩
  obtain ⟨tt, htt⟩ : ∃ tt, tt = parseN s 4 := ⟨_, rfl⟩
  obtain ⟨bb, hbb⟩ : ∃ bb, bb = parseB s := ⟨_, rfl⟩
  obtain ⟨pe, hpe⟩ : ∃ pe, pe = parseE s := ⟨_, rfl⟩
  have HV := Lib.hid (And.intro hkk (And.intro hff (And.intro htt (And.intro hbb (And.intro hpe hs)))))
  rw [← hkk, ← hff, ← htt, ← hbb, ← hpe] at hPA
  have HPA := Lib.hid hPA
  clear hkk hff htt hbb hpe hst hmz hPA hs
  go_enter_defers Try.func10, Try.ntmps10
  go_upto_region 1 with (fail)
  rw [← hW, ← hN]
  clear hW hN
  go_wp2_with fail
  refine HPA.out.mono ?_
  rintro e w1 ⟨rfl, hb1⟩
  have HS1 := Lib.hid (HST.out.below hb1)
  obtain ⟨w2, hw2⟩ : ∃ w2, w2 = w1.alloc (.cells #[.int .i64 kk, .int .i64 ff, .int .i64 tt, .string bb] 56) := ⟨_, rfl⟩
  obtain ⟨F, hF⟩ : ∃ F, F = w1.heap.size := ⟨_, rfl⟩
  have hbF := ba (br w1) (.cells #[.int .i64 kk, .int .i64 ff, .int .i64 tt, .string bb] 56)
  have hnF := heap_alloc_new w1 (.cells #[.int .i64 kk, .int .i64 ff, .int .i64 tt, .string bb] 56)
  rw [← hw2] at hbF hnF
  rw [← hF] at hnF
  have HS2 := Lib.hid (HS1.out.below hbF)
  have hFN : N + 1 < F := by rw [hF, HN.out]; exact (Array.getElem?_eq_some_iff.1 HS1.out.b).1
  have HF := Lib.hid (And.intro hnF hFN)
  have d0 : (w1.alloc (.cells #[.int .i64 kk, .int .i64 ff, .int .i64 tt, .string bb] 56)).cell? ⟨N + 1, 0, none⟩ = some (.int .i64 0) := by rw [← hw2, HN.out]; exact cell_of_row _ _ 0 _ _ _ HS2.out.b
  have f0 : (w1.alloc (.cells #[.int .i64 kk, .int .i64 ff, .int .i64 tt, .string bb] 56)).frozen? ⟨N + 1, 0, none⟩ = false := by rw [← hw2, HN.out]; exact frozen_of_row _ _ _ _ _ HS2.out.b
  clear hb1 HPA hbF hnF hFN
  go_upto_region 2 with (fail)
  rw [← hw2, ← hF]
  clear d0 f0 hw2 hF
  obtain ⟨w3, hw3⟩ : ∃ w3, w3 = w2.setCell ⟨N + 1, 0, none⟩ (.int .i64 pe) := ⟨_, rfl⟩
  have HS3 := Lib.hid (show PSt w w3 (pktA zeroP) pe from by rw [hw3, HN.out]; exact HS2.out.err pe)
  have HF3 := Lib.hid (show w3.heap[F]? = some (.cells #[.int .i64 kk, .int .i64 ff, .int .i64 tt, .string bb] 56 (0, 0)) from by rw [hw3]; exact (keptS w2 ⟨N + 1, 0, none⟩ _).keep HF.out.1 (by have := HF.out.2; simp; omega))
  rw [← hw3]
  clear hw3
  have c1 : w3.cell? ⟨N + 1, 0, none⟩ = some (.int .i64 pe) := by rw [HN.out]; exact cell_of_row _ _ 0 _ _ _ HS3.out.b
  by_cases hz : pe = 0
  · subst hz
    have a0 : w3.cell? ⟨F, 0, none⟩ = some (.int .i64 kk) := cell_of_row _ _ 0 _ _ _ HF3.out
    have a1 : w3.cell? ⟨F, 1, none⟩ = some (.int .i64 ff) := cell_of_row _ _ 1 _ _ _ HF3.out
    have a2 : w3.cell? ⟨F, 2, none⟩ = some (.int .i64 tt) := cell_of_row _ _ 2 _ _ _ HF3.out
    obtain ⟨Z, hZ⟩ : ∃ Z, Z = pktA { zeroP with kind := kk, frm := ff, dst := tt } := ⟨_, rfl⟩
    have hbld := bldQ kk ff tt
    rw [← hZ] at hbld
    have HBD := Lib.hid (And.intro hbld (And.intro (show Z.size = 22 by rw [hZ]; rfl) (And.intro (show Z.all (·.oneCell') = true by rw [hZ]; exact oneCell_pktA _) (And.intro hZ (show w3.heap[N]? = some (.cells (pktA zeroP) 35 (0, 0)) by rw [HN.out]; exact HS3.out.a)))))
    clear hbld hZ
    have hk := parseE_kind (s := s) HV.out.2.2.2.2.1.symm
    rw [← HV.out.1] at hk
    have hbs : bb.size ≤ 1000000 := by rw [HV.out.2.2.2.1]; exact Nat.le_trans (parseB_size s) HV.out.2.2.2.2.2
    have HKB := Lib.hid (And.intro hk hbs)
    clear hk hbs
    go_upto_region 5 with (fail)
    refine wp_region_lit ?_
    iterate 6
      refine wpList_step (fun K hK => ?_)
      go_simp
      refine hK _ _ ?_
      clear hK K
      (try simp only [Act.put, List.setIfInBounds_toArray, List.set_cons_zero, List.set_cons_succ])
    refine wpList_buildZ rfl 35 #[(0, .tmp 16), (1, .tmp 18), (2, .tmp 20)] rfl Z (by simp only [List.map_toArray, List.map_cons, List.map_nil]; exact HBD.out.1) ?_
    (try simp only [Act.put, List.setIfInBounds_toArray, List.set_cons_zero, List.set_cons_succ])
    refine wpList_store_row rfl 35 (.tmp 2) (.tmp 21) rfl N Z rfl rfl 35 _ HBD.out.2.2.2.2 (by rw [HBD.out.2.1]; kernel_rfl) (by rw [HBD.out.2.1]; rfl) HBD.out.2.2.1 ?_
    (try simp only [Act.put, List.setIfInBounds_toArray, List.set_cons_zero, List.set_cons_succ])
    refine wpList_nil ?_
    obtain ⟨w4, hw4⟩ : ∃ w4, w4 = w3.setRow N Z := ⟨_, rfl⟩
    have HS4 := Lib.hid (show PSt w w4 Z 0 from by rw [hw4, HN.out]; exact HS3.out.row Z)
    have HF4 := Lib.hid (show w4.heap[F]? = some (.cells #[.int .i64 kk, .int .i64 ff, .int .i64 tt, .string bb] 56 (0, 0)) from by rw [hw4]; exact (kept_setRow w3 N Z).keep HF3.out (by have := HF.out.2; omega))
    rw [← hw4]
    clear hw4 a0 a1 a2 c1
    have a3 : w4.cell? ⟨F, 3, none⟩ = some (.string bb) := cell_of_row _ _ 3 _ _ _ HF4.out
    go_wp2_with fail
    refine (New_any bb w4).mono ?_
    rintro e w5 ⟨rfl, h5⟩
    have hb5 := ba (br w4) (.cells #[.string bb, .int .i64 0] 95)
    have hr5 := RdAt.new bb w4 95
    rw [h5] at hb5 hr5
    obtain ⟨R, hR⟩ : ∃ R, R = w4.heap.size := ⟨_, rfl⟩
    rw [← hR] at hr5 ⊢
    have HS5 := Lib.hid (HS4.out.below hb5)
    have hRN : N + 1 < R := by rw [hR, HN.out]; exact (Array.getElem?_eq_some_iff.1 HS4.out.b).1
    have hrd : RdL w5 R bb bb.data.toList := ⟨0, hr5, Nat.zero_le _, rfl, HKB.out.2⟩
    have HRN := Lib.hid hRN
    have HFl := Lib.hid (fld_rd (Pb := N) hrd kk ff tt HKB.out.1 (by rw [← HBD.out.2.2.2.1, HN.out]; exact HS5.out.a) (by omega))
    clear hb5 hr5 hR hRN hrd h5 a3
    go_wp2_with fail
    refine HFl.out.mono ?_
    intro e w6 h6
    have hpr : pktR s = rdBody kk ff tt bb.data.toList := by
      unfold pktR
      rw [← HV.out.2.2.2.2.1, if_neg (by simp), ← HV.out.1, ← HV.out.2.1, ← HV.out.2.2.1, ← HV.out.2.2.2.1]
    rcases hb : rdBody kk ff tt bb.data.toList with c | ⟨x, l2⟩
    · rw [hb] at h6 hpr
      obtain ⟨rfl, hk6, q, hq6⟩ := h6
      have hkk := hk6
      have hs6 : PSt w w6 (pktA q) 0 := ⟨by rw [← HN.out]; exact hq6, hk6.keep HS5.out.b (by rw [← HN.out]; have := HRN.out; omega), hk6.out HS5.out.bel HS5.out.bel.size (fun k hk' e => by rw [← HN.out] at hk'; have := HRN.out; omega)⟩
      have hpan := parseD_pan N (N + 1) 0 c [] w6 (pktA q) hq6 rfl (by rw [HN.out]; exact hs6.b) (by omega)
      have hs7 := (hs6.row (pktA zeroP)).err c
      have HE := Lib.hid (show ParseEnd s w (.returned (.tuple #[.agg (pktA zeroP), .int .i64 c])) ((w6.setRow w.heap.size (pktA zeroP)).setCell ⟨w.heap.size + 1, 0, none⟩ (.int .i64 c)) from by
        refine ⟨⟨zeroP, ?_, ?_, own_zero _ _⟩, hs7.bel⟩
        · unfold pktPE; rw [hpr]
        · unfold pktPQ; rw [hpr])
      refine leaves_cons (f := 21) (args := #[.pointer (some ⟨N, 0, none⟩), .pointer (some ⟨N + 1, 0, none⟩)]) (by simp) (by simp [go_sem]) ?_
      refine hpan.mono ?_
      rintro e u' w'' ⟨rfl, rfl, rfl⟩
      rw [← HN.out] at HE
      refine ⟨_, res2 (w := w) (by have := hs7; rw [← HN.out] at this; exact this) rfl HN.out (by rfl) (by rfl), HE.out⟩
    · rw [hb] at h6 hpr
      obtain ⟨rfl, hk6, q, hq6, hcq, hoq⟩ := h6
      have hs6 : PSt w w6 (pktA q) 0 := ⟨by rw [← HN.out]; exact hq6, hk6.keep HS5.out.b (by rw [← HN.out]; have := HRN.out; omega), hk6.out HS5.out.bel HS5.out.bel.size (fun k hk' e => by rw [← HN.out] at hk'; have := HRN.out; omega)⟩
      obtain ⟨A, hA⟩ : ∃ A, A = pktA q := ⟨_, rfl⟩
      have hs7 := (hs6.row (pktA q)).err 0
      have hb2 : ∀ (v : Value) (b : Nat) e size n xs, w6.ownsRow w5.heap.size e size v n xs → v.ownBlock = some b → w.heap.size + 1 < b := fun v b e size n xs ho hb => by
        have h1 := (ho.lt b hb).1
        have h2 := (Array.getElem?_eq_some_iff.1 HS5.out.b).1
        omega
      have keep2' : ∀ (v : Value) e size n xs, w6.ownsRow w5.heap.size e size v n xs → ((w6.setRow w.heap.size (pktA q)).setCell ⟨w.heap.size + 1, 0, none⟩ (.int .i64 0)).ownsRow w.heap.size e size v n xs := fun v e size n xs ho =>
        ownMore (own_keptS (own_keptS ho (kept_setRow w6 w.heap.size (pktA q)) (fun b hb e => by have := hb2 _ b _ _ _ _ ho hb; omega)) (keptS _ ⟨w.heap.size + 1, 0, none⟩ _) (fun b hb e => by have := hb2 _ b _ _ _ _ ho hb; simp at e; omega)) (by have := (Array.getElem?_eq_some_iff.1 HS5.out.b).1; omega)
      have HE := Lib.hid (show ParseEnd s w (.returned (.tuple #[.agg (pktA q), .int .i64 0])) ((w6.setRow w.heap.size (pktA q)).setCell ⟨w.heap.size + 1, 0, none⟩ (.int .i64 0)) from by
        refine ⟨⟨q, ?_, ?_, ⟨keep2' _ _ _ _ _ hoq.got, keep2' _ _ _ _ _ hoq.ds, keep2' _ _ _ _ _ hoq.xs, fun x hx => keep2' _ _ _ _ _ (hoq.cs x hx)⟩⟩, hs7.bel⟩
        · unfold pktPE; rw [hpr]
        · unfold pktPQ; rw [hpr]; exact hcq)
      rw [← hA] at hq6 hs7 HE
      have hs67 : PSt w (w6.setRow w.heap.size A) A 0 := by rw [hA]; exact hs6.row (pktA q)
      have H7 := Lib.hid (And.intro hq6 (And.intro (show A.size = 22 by rw [hA]; rfl) (And.intro (show A.all (·.oneCell') = true by rw [hA]; exact oneCell_pktA _) (And.intro hs7 hs67))))
      rw [← HN.out] at HE
      have d0 : (w6.setRow N A).cell? ⟨N + 1, 0, none⟩ = some (.int .i64 0) := by rw [HN.out]; exact cell_of_row _ _ 0 _ _ _ hs67.b
      have f0 : (w6.setRow N A).frozen? ⟨N + 1, 0, none⟩ = false := by rw [HN.out]; exact frozen_of_row _ _ _ _ _ hs67.b
      clear hA hs7 hs67 hs6 hq6 hcq hoq hb2 keep2' hb hpr hk6 HFl
      go_wp2_with (first
        | (refine wpList_load_row rfl 35 (.tmp 2) rfl N rfl 35 A (0, 0) _ H7.out.1 Try.underlying35 rfl (by rw [H7.out.2.1]; kernel_rfl) ?_)
        | (refine wpList_store_row rfl 35 (.tmp 2) (.tmp 27) rfl N A rfl rfl 35 _ H7.out.1 (by rw [H7.out.2.1]; kernel_rfl) rfl H7.out.2.2.1 ?_))
      refine leaves_cons (f := 21) (args := #[.pointer (some ⟨N, 0, none⟩), .pointer (some ⟨N + 1, 0, none⟩)]) (by simp) (by simp [go_sem]) ?_
      refine (parseD_ret ⟨N, 0, none⟩ ⟨N + 1, 0, none⟩ _).mono ?_
      rintro e u' w'' ⟨rfl, rfl, rfl⟩
      refine ⟨_, res2 (w := w) (by have := H7.out.2.2.2.1; rw [← HN.out] at this; exact this) H7.out.2.1 HN.out (by rfl) (by rfl), HE.out⟩
  · have hz2 : (pe != 0) = true := by simpa using hz
    have hz3 : (pe == 0) = false := by simpa using hz
    obtain ⟨Z, hZ⟩ : ∃ Z, Z = pktA zeroP := ⟨_, rfl⟩
    have hbld := bld0
    rw [← hZ] at hbld
    have hpr : pktR s = .error pe := by unfold pktR; rw [← HV.out.2.2.2.2.1, if_pos hz]
    have hdd := HS3.out.below (br w3).drew
    have hs7 := (hdd.row (pktA zeroP)).err pe
    have HE := Lib.hid (show ParseEnd s w (.returned (.tuple #[.agg (pktA zeroP), .int .i64 pe])) ((w3.drew.setRow w.heap.size (pktA zeroP)).setCell ⟨w.heap.size + 1, 0, none⟩ (.int .i64 pe)) from by
      refine ⟨⟨zeroP, ?_, ?_, own_zero _ _⟩, hs7.bel⟩
      · unfold pktPE; rw [hpr]
      · unfold pktPQ; rw [hpr])
    have hs6 := hdd.row (pktA zeroP)
    rw [← hZ] at hs7 HE hs6
    have H7 := Lib.hid (And.intro (show w3.drew.heap[N]? = some (.cells (pktA zeroP) 35 (0, 0)) by rw [HN.out]; exact HS3.out.a) (And.intro (show Z.size = 22 by rw [hZ]; rfl) (And.intro (show Z.all (·.oneCell') = true by rw [hZ]; exact oneCell_pktA _) (And.intro hs7 (And.intro hbld hs6)))))
    rw [← HN.out] at HE
    clear hZ hs7 hpr hz hdd hs6 hbld
    go_upto_region 3 with (fail)
    refine wp_region_mask (fun w' => w'.cell? ⟨N + 1, 0, none⟩ = some (.int .i64 pe)) 3 2 [true, true, false, false] #[true, true, false, false] (by kernel_rfl) (by kernel_rfl) (by kernel_rfl) c1 ?_
    refine wpMask_take _ (yieldsIf_build (by rfl) 35 #[] rfl Z (by simp only [List.map_toArray, List.map_nil]; exact H7.out.2.2.2.2.1)) ?_
    simp only [Act.put, List.setIfInBounds_toArray, List.set_cons_zero, List.set_cons_succ]
    refine wpMask_take _ (Or.inl ⟨by rfl, fun w' hS => by (try dsimp only at hS); go_simp; try with_reducible rfl⟩) ?_
    simp only [Act.put, List.setIfInBounds_toArray, List.set_cons_zero, List.set_cons_succ]
    refine wpMask_skip (wpMask_skip (wpMask_nil ?_))
    refine wpAnyS_ready (rs := [2]) (by kernel_rfl) (by simp) ?_
    refine AllReadyS.cons rfl (fun K hK => ?_) AllReadyS.nil
    rw [if_pos (by rfl)]
    refine wp_store_row 35 (.tmp 2) (.tmp 12) rfl N Z rfl rfl 35 _ H7.out.1 (by rw [H7.out.2.1]; kernel_rfl) (by rw [H7.out.2.1]; rfl) H7.out.2.2.1 ?_
    have d0 : (w3.drew.setRow N Z).cell? ⟨N + 1, 0, none⟩ = some (.int .i64 pe) := by rw [HN.out]; exact cell_of_row _ _ 0 _ _ _ H7.out.2.2.2.2.2.b
    have f0 : (w3.drew.setRow N Z).frozen? ⟨N + 1, 0, none⟩ = false := by rw [HN.out]; exact frozen_of_row _ _ _ _ _ H7.out.2.2.2.2.2.b
    refine hK.out _ _ (fun _ => d0) ?_
    clear hK K c1
    simp only [Act.put, List.setIfInBounds_toArray, List.set_cons_zero, List.set_cons_succ]
    refine wpAnyS_ready (rs := [3]) (by kernel_rfl) (by simp) ?_
    refine AllReadyS.cons rfl (fun K hK => ?_) AllReadyS.nil
    go_simp
    refine hK.out _ _ (fun h => absurd h (by decide)) ?_
    clear hK K d0 f0
    simp only [Act.put, List.setIfInBounds_toArray, List.set_cons_zero, List.set_cons_succ]
    refine wpAnyS_done (by kernel_rfl) ?_ _
    go_wp2_with fail
    exact ⟨_, res2 (w := w) (by have := H7.out.2.2.2.1; rw [← HN.out] at this; exact this) H7.out.2.1 HN.out (by rfl) (by rfl), HE.out⟩
end Go.Proofs.Ytgpojbmloielmaa
