/-
  What a log's reader reads: records.
  Conditions: those that each theorem names.
-/
import Derived.Test.YtogagkgkmoppmaaGreatDoorMaskPZs
import Derived.Test.YtogagkgkmoppmaaGreatDoorBaseZs
namespace Go.Proofs.YtogagkgkmoppmaaGreatDoor
set_option linter.unusedVariables false
set_option linter.unusedSimpArgs false
open Go.RowKit
def rdMany {α : Type} (f : List UInt8 → Except Int (α × List UInt8)) : Nat → List UInt8 → Except Int (List α × List UInt8)
  | 0, l => .ok ([], l)
  | k + 1, l => andR (f l) fun a l => andR (rdMany f k l) fun ks l => .ok (a :: ks, l)
theorem rdMany_snoc {α : Type} (f : List UInt8 → Except Int (α × List UInt8)) : ∀ (k : Nat) (l : List UInt8), rdMany f (k + 1) l = andR (rdMany f k l) fun ks l => andR (f l) fun a l => .ok (ks ++ [a], l)
  | 0, l => by
    show andR (f l) (fun a l => .ok ([a], l)) = andR (f l) fun a l => .ok ([] ++ [a], l)
    rfl
  | k + 1, l => by
    show andR (f l) (fun a l => andR (rdMany f (k + 1) l) fun ks l => .ok (a :: ks, l)) = andR (andR (f l) fun a l => andR (rdMany f k l) fun ks l => .ok (a :: ks, l)) fun ks l => andR (f l) fun a l => .ok (ks ++ [a], l)
    cases h : f l with
    | error c => rfl
    | ok x =>
      obtain ⟨a, l'⟩ := x
      show andR (rdMany f (k + 1) l') (fun ks l => .ok (a :: ks, l)) = andR (andR (rdMany f k l') fun ks l => .ok (a :: ks, l)) fun ks l => andR (f l) fun a l => .ok (ks ++ [a], l)
      rw [rdMany_snoc f k l']
      cases h2 : rdMany f k l' with
      | error c => rfl
      | ok y =>
        obtain ⟨ks, l2⟩ := y
        show andR (andR (f l2) fun a l => .ok (ks ++ [a], l)) (fun ks l => .ok (a :: ks, l)) = andR (f l2) fun b l => .ok ((a :: ks) ++ [b], l)
        cases h3 : f l2 with
        | error c => rfl
        | ok z => rfl
theorem rdMany_bad {α : Type} {f : List UInt8 → Except Int (α × List UInt8)} : ∀ (m k : Nat) (l : List UInt8) (c : Int), rdMany f k l = .error c → rdMany f (k + m) l = .error c
  | 0, k, l, c, h => h
  | m + 1, k, l, c, h => by
    have := rdMany_bad m k l c h
    rw [show k + (m + 1) = (k + m) + 1 by omega, rdMany_snoc, this]
    rfl
theorem rdMany_next {α : Type} {f : List UInt8 → Except Int (α × List UInt8)} {k : Nat} {l l1 l2 : List UInt8} {ks : List α} {a : α} (h : rdMany f k l = .ok (ks, l1)) (h2 : f l1 = .ok (a, l2)) : rdMany f (k + 1) l = .ok (ks ++ [a], l2) := by
  rw [rdMany_snoc, h]
  show andR (f l1) _ = _
  rw [h2]
  rfl
theorem rdMany_stop {α : Type} {f : List UInt8 → Except Int (α × List UInt8)} {k : Nat} {l l1 : List UInt8} {ks : List α} {c : Int} (h : rdMany f k l = .ok (ks, l1)) (h2 : f l1 = .error c) : rdMany f (k + 1) l = .error c := by
  rw [rdMany_snoc, h]
  show andR (f l1) _ = _
  rw [h2]
  rfl
theorem info_viewL : (Tryz.prog.info? 33).map (fun i => (i.zero, i.size, i.bytes)) = some (some (.agg (vwC 0 0 0 0)), 4, 32) := by kernel_rfl
/-- a record: its last view, those that are pending -/
abbrev RcK := VwK × List VwK
def vwsV (l : List VwK) : List Value := l.flatMap fun v => (vwA v).toList
theorem vwsV_snoc (l : List VwK) (v : VwK) : vwsV (l ++ [v]) = vwsV l ++ (vwA v).toList := by simp [vwsV]
def rdRec2 (v : VwK) (l : List UInt8) : Except Int (RcK × List UInt8) := andR (rdN 1 l) fun n l => if 32 < n then .error 3 else andR (rdMany rdView n l) fun vs l => .ok ((v, vs), l)
def rdRec (l : List UInt8) : Except Int (RcK × List UInt8) := andR (rdView l) fun v l => rdRec2 v l
def rcC (v : VwK) (ad : Option Addr) (n cap : Nat) : Array Value := #[.int .u64 (v.1 : Int), .int .u64 (v.2.1 : Int), .int .i64 (v.2.2.1 : Int), .int .u64 (v.2.2.2 : Int), .slice ad n cap]
def RecEnd (R : Nat) (s : ByteArray) (w : World) (r : Except Int (RcK × List UInt8)) (e : Ending) (w' : World) : Prop := match r with
  | .ok x => (∃ ad cap, e = .returned (.agg (rcC x.1.1 ad x.1.2.length cap)) ∧ w'.ownsRow w.heap.size 33 4 (.slice ad x.1.2.length cap) x.1.2.length (vwsV x.1.2)) ∧ RdL w' R s x.2 ∧ KR R w w'
  | .error c => e = .panicked (panL c) ∧ KR R w w'
theorem recErr {R : Nat} {s : ByteArray} {w w' : World} {r : Except Int (RcK × List UInt8)} {c : Int} (hr : r = .error c) (hk : KR R w w') : RecEnd R s w r (.panicked (panL c)) w' := by subst hr; exact ⟨rfl, hk⟩
theorem vwA_len (v : VwK) : (vwA v).toList.length = 4 := rfl
theorem vwA_one (v : VwK) : ∀ u ∈ (vwA v).toList, u.oneCell' = true := by
  intro u hu
  simp only [vwA, vwC, List.mem_cons, List.not_mem_nil, or_false] at hu
  rcases hu with rfl | rfl | rfl | rfl <;> rfl
theorem kr_kept {R : Nat} {w w1 w2 : World} {S : Nat → Prop} (h : KR R w w1) (hk : Kept S w1 w2) (hs : ∀ k, S k → w.heap.size ≤ k) : KR R w w2 :=
  ⟨hk.os.trans h.os, hk.tape.trans h.tape, hk.output.trans h.output, Nat.le_trans h.size hk.size, fun i hi hne => (hk.block i (Nat.lt_of_lt_of_le hi h.size) (fun e => by have := hs i e; omega)).trans (h.block i hi hne)⟩
theorem own_keptL {w w' : World} {b n : Nat} {e : TypeId} {size : Nat} {v : Value} {xs : List Value} {S : Nat → Prop} (h : w.ownsRow b e size v n xs) (hk : Kept S w w') (hs : ∀ g, v.ownBlock = some g → ¬ S g) : w'.ownsRow b e size v n xs := by
  refine ⟨h.1, ?_⟩
  rcases h.2 with hn | ⟨g, cap, cur, rfl, hb, hgg, rest⟩
  · exact .inl hn
  · exact .inr ⟨g, cap, cur, rfl, hb, hk.keep hgg (hs g rfl), rest⟩
theorem ownFormL {w : World} {b n : Nat} {e : TypeId} {size : Nat} {v : Value} {xs : List Value} (h : w.ownsRow b e size v n xs) : ∃ ad cap, v = .slice ad n cap := by
  rcases h.2 with ⟨rfl, h0⟩ | ⟨g, cap, cur, rfl, _⟩
  · exact ⟨none, 0, by rw [h0]⟩
  · exact ⟨_, cap, rfl⟩
theorem ownMoreL {w : World} {b b' n : Nat} {e : TypeId} {size : Nat} {v : Value} {xs : List Value} (h : w.ownsRow b e size v n xs) (hb : b' ≤ b) : w.ownsRow b' e size v n xs := by
  refine ⟨h.1, ?_⟩
  rcases h.2 with hn | ⟨g, cap, cur, rfl, hg, rest⟩
  · exact .inl hn
  · exact .inr ⟨g, cap, cur, rfl, by omega, rest⟩
/-- a record while it is read -/
structure RcSt (w : World) (R N M : Nat) (s : ByteArray) (v : VwK) (wr : World) (l : List UInt8) (vs : List VwK) (ad : Option Addr) (cap : Nat) : Prop where
  m : wr.heap[M]? = some (.cells (rcC v ad vs.length cap) 61 (0, 0))
  own : wr.ownsRow (M + 1) 33 4 (.slice ad vs.length cap) vs.length (vwsV vs)
  rd : RdL wr R s l
  kr : KR R w wr
  n : wr.heap[N]? = some (.cells #[.pointer (some ⟨R, 0, none⟩)] 117 (0, 0))
  n1 : wr.heap[N + 1]? = some (.cells #[.int .u64 0, .int .u64 0, .int .i64 0, .int .u64 0, .slice none 0 0] 61 (0, 0))
theorem RcSt.kr2 {w : World} {R N M : Nat} {s : ByteArray} {v : VwK} {wr w' : World} {l l' : List UInt8} {vs : List VwK} {ad : Option Addr} {cap : Nat} (h : RcSt w R N M s v wr l vs ad cap) (hk : KR R wr w') (hl : RdL w' R s l') (hR : R < N) (hM : N + 1 < M) : RcSt w R N M s v w' l' vs ad cap :=
  ⟨hk.keep h.m (by omega), own_keptL h.own hk (fun g hg e => by have := (h.own.lt g hg).1; omega), hl, h.kr.trans hk, hk.keep h.n (by omega), hk.keep h.n1 (by omega)⟩
theorem RcSt.below {w : World} {R N M : Nat} {s : ByteArray} {v : VwK} {wr w' : World} {l : List UInt8} {vs : List VwK} {ad : Option Addr} {cap : Nat} (h : RcSt w R N M s v wr l vs ad cap) (hb : Below wr.heap.size wr w') (hR : R < N) (hM : N + 1 < M) : RcSt w R N M s v w' l vs ad cap :=
  h.kr2 (KR.below hb) (h.rd.below hb) hR hM
set_option maxRecDepth 100000 in
set_option maxHeartbeats 8000000 in
theorem record_rd {w : World} {R : Nat} {s : ByteArray} {l : List UInt8} (h : RdL w R s l) :
    Calls Tryz.prog 45 #[.agg #[.pointer (some ⟨R, 0, none⟩)]] w fun e w' => RecEnd R s w (rdRec l) e w' := by
  obtain ⟨N, hN⟩ : ∃ N, N = w.heap.size := ⟨_, rfl⟩
  obtain ⟨W, hW⟩ : ∃ W, W = (w.alloc (.cells #[.pointer (some ⟨R, 0, none⟩)] 117)).alloc (.cells #[.int .u64 0, .int .u64 0, .int .i64 0, .int .u64 0, .slice none 0 0] 61) := ⟨_, rfl⟩
  have hb1 := ba (br w) (.cells #[.pointer (some ⟨R, 0, none⟩)] 117)
  have hb2 := ba (br (w.alloc (.cells #[.pointer (some ⟨R, 0, none⟩)] 117))) (.cells #[.int .u64 0, .int .u64 0, .int .i64 0, .int .u64 0, .slice none 0 0] 61)
  have n1 := (hb2.block w.heap.size (by simp)).trans (heap_alloc_new w (.cells #[.pointer (some ⟨R, 0, none⟩)] 117))
  have n2 := heap_alloc_new (w.alloc (.cells #[.pointer (some ⟨R, 0, none⟩)] 117)) (.cells #[.int .u64 0, .int .u64 0, .int .i64 0, .int .u64 0, .slice none 0 0] 61)
  rw [show (w.alloc (.cells #[.pointer (some ⟨R, 0, none⟩)] 117)).heap.size = w.heap.size + 1 by simp] at n2
  have hbA := bt hb1 hb2
  rw [← hW] at n1 n2 hbA
  rw [← hN] at n1 n2
  have hNR : N ≠ R := by have := h.lt; omega
  have hRN : R < N := by have := h.lt; omega
  have c0 : W.cell? ⟨N, 0, none⟩ = some (.pointer (some ⟨R, 0, none⟩)) := cell_of_row _ _ 0 _ _ _ n1
  have HSZ := Lib.hid (And.intro hN hRN)
  have hrd := h.below hbA
  have H0 := Lib.hid (And.intro (KR.below (R := R) hbA) (And.intro n1 (And.intro n2 (And.intro hNR hrd))))
  have HN := Lib.hid (view_rd hrd)
  obtain ⟨r, hr⟩ : ∃ r, r = rdRec l := ⟨_, rfl⟩
  rw [← hr]
  have HR := Lib.hid (show r = andR (rdView l) fun v l => rdRec2 v l from hr)
  clear n1 n2 hb1 hb2 hbA h hr hNR hRN hrd
  obtain ⟨i1, hi, hz0, hz1, hz2⟩ := info_parts info_viewL
  go_enter Tryz.func45, Tryz.ntmps45
  go_upto_region 1 with (fail)
  rw [← hW, ← hN]
  clear hW hN
  go_wp2_with fail
  refine HN.out.mono ?_
  intro e w1 h1
  rcases hn : rdView l with c | ⟨⟨a, b, q, m⟩, l1⟩
  · rw [hn] at h1
    obtain ⟨rfl, hk⟩ := h1
    have HE := Lib.hid (recErr (s := s) (show r = .error c from by rw [HR.out, andR_err hn]) (H0.out.1.trans hk))
    clear hn hk HN
    exact bodyPost_pan rfl HE.out
  rw [hn] at h1
  obtain ⟨he, h1, hk⟩ := h1
  have he : e = .returned (.agg #[.int .u64 (a : Int), .int .u64 (b : Int), .int .i64 (q : Int), .int .u64 (m : Int)]) := he
  subst he
  have m1 := keep2 H0.out.2.1 hk H0.out.2.2.2.1
  have m2 := keep2 H0.out.2.2.1 hk (by have := HSZ.out.2; omega)
  obtain ⟨M, hM⟩ : ∃ M, M = w1.heap.size := ⟨_, rfl⟩
  obtain ⟨w2, hw2⟩ : ∃ x, x = w1.alloc (.cells #[.int .u64 (a : Int), .int .u64 (b : Int), .int .i64 (q : Int), .int .u64 (m : Int), .slice none 0 0] 61) := ⟨_, rfl⟩
  have hz := heap_alloc_new w1 (.cells #[.int .u64 (a : Int), .int .u64 (b : Int), .int .i64 (q : Int), .int .u64 (m : Int), .slice none 0 0] 61)
  have hbz := ba (br w1) (.cells #[.int .u64 (a : Int), .int .u64 (b : Int), .int .i64 (q : Int), .int .u64 (m : Int), .slice none 0 0] 61)
  have hNM : N + 1 < M := by rw [hM]; exact (Array.getElem?_eq_some_iff.1 m2).1
  rw [← hw2] at hz hbz
  rw [← hM] at hz
  have p1 := (hbz.block _ (Array.getElem?_eq_some_iff.1 m1).1).trans m1
  have p2 := (hbz.block _ (Array.getElem?_eq_some_iff.1 m2).1).trans m2
  have HST := Lib.hid (show RcSt w R N M s (a, b, q, m) w2 l1 [] none 0 from ⟨hz, ⟨rfl, .inl ⟨rfl, rfl⟩⟩, h1.below hbz, (H0.out.1.trans hk).trans (KR.below (R := R) hbz), p1, p2⟩)
  have HR1 := Lib.hid (show r = andR (rdN 1 l1) fun n l => if 32 < n then .error 3 else andR (rdMany rdView n l) fun vs l => .ok (((a, b, q, m), vs), l) from by rw [HR.out, andR_ok hn]; rfl)
  have HNM := Lib.hid (And.intro hNM HSZ.out.2)
  clear hn hk m1 m2 hz hbz p1 p2 HN h1 c0 H0 hNM HR
  go_upto_region 2 with (fail)
  rw [← hw2, ← hM]
  clear hw2 hM
  have c0 : w2.cell? ⟨N, 0, none⟩ = some (.pointer (some ⟨R, 0, none⟩)) := cell_of_row _ _ 0 _ _ _ HST.out.n
  have HN := Lib.hid (num_rd HST.out.rd 1 (by omega) (by omega))
  go_wp2_with fail
  refine HN.out.mono ?_
  intro e w3 h3
  rcases hn : rdN 1 l1 with c | ⟨n, l2⟩
  · rw [hn] at h3
    obtain ⟨rfl, hk⟩ := h3
    have HE := Lib.hid (recErr (s := s) (show r = .error c from by rw [HR1.out, andR_err hn]) (HST.out.kr.trans hk))
    clear hn hk HN
    exact bodyPost_pan rfl HE.out
  rw [hn] at h3
  obtain ⟨rfl, h3, hk⟩ := h3
  have HS3 := Lib.hid (HST.out.kr2 hk h3 HNM.out.2 HNM.out.1)
  have hv : n < 256 := by simpa using (rdN_lt (by omega) hn).1
  have hw : IntKind.i64.wrap (n : Int) = (n : Int) := IntWalk.i64_in _ (by omega)
  have HR2 := Lib.hid (show r = if 32 < n then .error 3 else andR (rdMany rdView n l2) fun vs l => .ok (((a, b, q, m), vs), l) from by rw [HR1.out, andR_ok hn])
  clear hn hk HN h3 c0 HST HR1
  by_cases h64 : 32 < n
  · have HE := Lib.hid (recErr (s := s) (show r = .error 3 from by rw [HR2.out, if_pos h64]) HS3.out.kr)
    have d1 : decide (32 < n) = true := by simpa using h64
    have d2 : decide ((32 : Int) < (n : Int)) = true := by simp; omega
    clear h64
    go_wp2_with (go_at_call 44; refine (bad_so 3 _).mono ?_; rintro e w' ⟨rfl, rfl⟩)
    exact bodyPost_pan rfl HE.out
  have HRN := Lib.hid (show r = andR (rdMany rdView n l2) fun vs l => .ok (((a, b, q, m), vs), l) from by rw [HR2.out, if_neg h64])
  have d1 : decide (32 < n) = false := by simpa using h64
  have d2 : decide ((32 : Int) < (n : Int)) = false := by simp; omega
  have hn64 : n ≤ 32 := by omega
  clear h64 HR2
  go_wp2_with (go_at_call 44; refine (bad_no 3 _).mono ?_; rintro e w' ⟨rfl, rfl⟩)
  clear d1 d2 hw
  go_loopw [16] (fun i wr => ∃ (k : Nat) (vs : List VwK) (lk : List UInt8) (ad : Option Addr) (cap : Nat), k ≤ n ∧ i = .int .i64 (k : Int) ∧ Hid (vs.length = k ∧ rdMany rdView k l2 = .ok (vs, lk) ∧ RcSt w R N M s (a, b, q, m) wr lk vs ad cap)) (fun i _ => n - (intOf i).toNat)
  case atStart => exact ⟨0, [], l2, none, 0, by omega, rfl, Lib.hid ⟨rfl, rfl, HS3.out⟩⟩
  case round =>
    obtain ⟨k, vs, lk, ad, cap, hk, rfl, HV⟩ := hrel
    by_cases hlt : k < n
    · have hbool : decide ((k : Int) < (n : Int)) = true := by simpa using hlt
      have hbool' : decide (k < n) = true := by simpa using hlt
      have hki : (k : Int) < (n : Int) := by omega
      have hvk : vs.length = k := HV.out.1
      have hwd : Below wr.heap.size wr wr.drew := (br wr).drew
      have HSD := Lib.hid (HV.out.2.2.below hwd HNM.out.2 HNM.out.1)
      have c0 : wr.drew.cell? ⟨N, 0, none⟩ = some (.pointer (some ⟨R, 0, none⟩)) := cell_of_row _ _ 0 _ _ _ HSD.out.n
      have c4 : wr.drew.cell? ⟨M, 4, none⟩ = some (.slice ad vs.length cap) := cell_of_row _ _ 4 _ _ _ HSD.out.m
      have HLT := Lib.hid (And.intro hlt hvk)
      have HRK := Lib.hid HV.out.2.1
      clear hlt hvk hwd HV
      go_upto_region 6 with (fail)
      refine wp_region_maskP (fun w' => w'.cell? ⟨N, 0, none⟩ = some (.pointer (some ⟨R, 0, none⟩)) ∧ w'.cell? ⟨M, 4, none⟩ = some (.slice ad vs.length cap)) 7 5 [true, true, true, false, false, false, false, false] #[true, true, true, false, false, false, false, false] (by kernel_rfl) (by kernel_rfl) (by kernel_rfl) (fun c a d v w h => by cases d <;> exact h) ⟨c0, c4⟩ ?_
      clear c0 c4
      generalize wr.drew = V at *
      refine wpMask_take _ (Or.inl ⟨by rfl, fun w' hS => by obtain ⟨s1, s2⟩ := hS; go_simp; try with_reducible rfl⟩) ?_
      simp only [Act.put, List.setIfInBounds_toArray, List.set_cons_zero, List.set_cons_succ, List.getElem_toArray, List.getElem_cons_succ, List.getElem_cons_zero]
      refine wpMask_take _ (Or.inl ⟨by rfl, fun w' hS => by obtain ⟨s1, s2⟩ := hS; go_simp; try with_reducible rfl⟩) ?_
      simp only [Act.put, List.setIfInBounds_toArray, List.set_cons_zero, List.set_cons_succ, List.getElem_toArray, List.getElem_cons_succ, List.getElem_cons_zero]
      refine wpMask_take _ (Or.inl ⟨by rfl, fun w' hS => by obtain ⟨s1, s2⟩ := hS; go_simp; try with_reducible rfl⟩) ?_
      simp only [Act.put, List.setIfInBounds_toArray, List.set_cons_zero, List.set_cons_succ, List.getElem_toArray, List.getElem_cons_succ, List.getElem_cons_zero]
      refine wpMask_skip (wpMask_skip (wpMask_skip (wpMask_skip (wpMask_skip (wpMask_nil ?_)))))
      refine wpAnyS_ready (rs := [3]) (by kernel_rfl) (by simp) ?_
      refine AllReadyS.cons rfl (fun K hK => ?_) AllReadyS.nil
      have HN := Lib.hid (view_rd HSD.out.rd)
      go_simp
      refine HN.out.mono ?_
      intro e w4 h4
      rcases hn : rdView lk with c | ⟨⟨a2, b2, q2, m2⟩, l3⟩
      · rw [hn] at h4
        obtain ⟨rfl, hk4⟩ := h4
        have HE := Lib.hid (recErr (s := s) (show r = .error c from by
          rw [HRN.out, show n = (k + 1) + (n - (k + 1)) by have := HLT.out.1; omega]
          exact andR_err (rdMany_bad _ _ _ _ (rdMany_stop HRK.out hn)) _) (HSD.out.kr.trans hk4))
        clear hn hk4 HN
        (try simp only [Exit.inBlock, Exit.then])
        exact bodyPost_pan (P := Tryz.prog) (fn := Tryz.f45) rfl HE.out
      rw [hn] at h4
      obtain ⟨he, h4, hk4⟩ := h4
      have he : e = .returned (.agg (vwA (a2, b2, q2, m2))) := he
      subst he
      obtain ⟨C, hC⟩ : ∃ C, C = vwA (a2, b2, q2, m2) := ⟨_, rfl⟩
      rw [← hC]
      have HS4 := Lib.hid (HSD.out.kr2 hk4 h4 HNM.out.2 HNM.out.1)
      have HRK2 := Lib.hid (rdMany_next HRK.out hn)
      have HCC := Lib.hid hC
      have hCs : C.size = 4 := by rw [hC]; rfl
      refine hK.out _ _ (fun _ => ⟨cell_of_row _ _ 0 _ _ _ HS4.out.n, cell_of_row _ _ 4 _ _ _ HS4.out.m⟩) ?_
      clear hK K hk4 h4 hn hC HN
      simp only [Act.put, List.setIfInBounds_toArray, List.set_cons_zero, List.set_cons_succ, List.getElem_toArray, List.getElem_cons_succ, List.getElem_cons_zero]
      refine wpAnyS_ready (rs := [4]) (by kernel_rfl) (by simp) ?_
      refine AllReadyS.cons rfl (fun K hK => ?_) AllReadyS.nil
      refine step_buildSlice_row rfl 59 (.tmp 21) rfl 33 i1 _ Tryz.underlying59 hi hz0 C rfl (by rw [hCs]; exact hz1) (by omega) (by omega) ?_
      have hb5 := ba (br w4) (.cells C 33)
      have hx5 := heap_alloc_new w4 (.cells C 33)
      have HX5 := Lib.hid hx5
      obtain ⟨G, hG⟩ : ∃ G, G = w4.heap.size := ⟨_, rfl⟩
      obtain ⟨w5, hw5⟩ : ∃ x, x = w4.alloc (.cells C 33) := ⟨_, rfl⟩
      rw [← hw5] at hb5 hx5 HX5 ⊢
      rw [← hG] at hx5 HX5 ⊢
      have HS5 := Lib.hid (HS4.out.below hb5 HNM.out.2 HNM.out.1)
      have HG := Lib.hid (show Reads w5 (G + 1) 4 (some ⟨G, 0, none⟩) 1 C.toList from ⟨by rw [Array.length_toList, hCs], fun _ => ⟨_, rfl, by show G < _; omega, fun j u hu => by
        have ha : (⟨G, 0, none⟩ : Addr).add j = ⟨G, j, none⟩ := by unfold Addr.add; split <;> simp_all
        rw [ha, cell_of_row _ _ j C 33 (0, 0) hx5]
        simpa using hu⟩⟩)
      refine hK.out _ _ (fun _ => ⟨cell_of_row _ _ 0 _ _ _ HS5.out.n, cell_of_row _ _ 4 _ _ _ HS5.out.m⟩) ?_
      have hGM : M + 1 ≤ w5.heap.size := (Array.getElem?_eq_some_iff.1 HS5.out.m).1
      have hGM5 : G < w5.heap.size := (Array.getElem?_eq_some_iff.1 hx5).1
      clear hK K hb5 hx5 hw5
      simp only [Act.put, List.setIfInBounds_toArray, List.set_cons_zero, List.set_cons_succ, List.getElem_toArray, List.getElem_cons_succ, List.getElem_cons_zero]
      refine wpAnyS_ready (rs := [5]) (by kernel_rfl) (by simp) ?_
      refine AllReadyS.cons rfl (fun K hK => ?_) AllReadyS.nil
      refine step_append_any _ rfl (.tmp 19) (.tmp 22) 59 rfl (M + 1) 33 i1 _ 4 32 Tryz.underlying59 hi hz0 hz1 hz2 rfl (by decide) _ vs.length (vwsV vs) rfl HS5.out.own (G + 1) (some ⟨G, 0, none⟩) 1 1 C.toList rfl HG.out (by rw [HCC.out]; exact vwA_one _) (by have := HLT.out.2; unfold maxLen; omega) (by have := HLT.out.2; omega) hGM ?_
      intro v6 w6 ho6 hg6 hu6
      obtain ⟨a6, c6, rfl⟩ := ownFormL ho6
      have hk6 : Kept (fun b => M + 1 ≤ b) w5 w6 := ⟨hg6.os, hg6.tape, hg6.output, hg6.size, fun i hi hs => hg6.block i hi (fun e => hs ((HS5.out.own.lt i e.symm).1))⟩
      have d4 : w6.cell? ⟨M, 4, none⟩ = some (.slice ad vs.length cap) := cell_of_row _ _ 4 _ _ _ (hk6.keep HS5.out.m (by omega))
      have f4 : w6.frozen? ⟨M, 4, none⟩ = false := frozen_of_row _ _ _ _ _ (hk6.keep HS5.out.m (by omega))
      have H6 := Lib.hid (And.intro (hk6.keep HS5.out.m (by omega)) (And.intro ho6 (And.intro (HS5.out.rd.kept hk6 (by have := HNM.out.1; have := HNM.out.2; omega)) (And.intro (kr_kept HS5.out.kr hk6 (fun k hk => by have := HNM.out.1; have := HSZ.out.1; omega)) (And.intro (hk6.keep HS5.out.n (by have := HNM.out.1; omega)) (hk6.keep HS5.out.n1 (by have := HNM.out.1; omega)))))))
      refine hK.out _ _ (fun _ => ⟨cell_of_row _ _ 0 _ _ _ H6.out.2.2.2.2.1, d4⟩) ?_
      clear hK K ho6 hg6 hu6 hk6 hGM hGM5
      simp only [Act.put, List.setIfInBounds_toArray, List.set_cons_zero, List.set_cons_succ, List.getElem_toArray, List.getElem_cons_succ, List.getElem_cons_zero]
      refine wpAnyS_takeP (i := 6) _ (fun c a d v w h => by cases d <;> exact h) rfl (by kernel_rfl) (Or.inl ⟨by rfl, fun w' hS => by (try dsimp only at hS); go_simp; try with_reducible rfl⟩) (⟨cell_of_row _ _ 0 _ _ _ H6.out.2.2.2.2.1, d4⟩) ?_
      simp only [Act.put, List.setIfInBounds_toArray, List.set_cons_zero, List.set_cons_succ, List.getElem_toArray, List.getElem_cons_succ, List.getElem_cons_zero]
      refine wpAnyS_ready (rs := [7]) (by kernel_rfl) (by simp) ?_
      refine AllReadyS.cons rfl (fun K hK => ?_) AllReadyS.nil
      go_simp
      refine hK.out _ _ (fun h => absurd h (by decide)) ?_
      clear hK K d4 f4
      simp only [Act.put, List.setIfInBounds_toArray, List.set_cons_zero, List.set_cons_succ, List.getElem_toArray, List.getElem_cons_succ, List.getElem_cons_zero]
      refine wpAnyS_doneP (by kernel_rfl) ?_ _
      have HE := Lib.hid (And.intro HLT.out.1 (And.intro (show (vs ++ [(a2, b2, q2, m2)]).length = k + 1 by rw [List.length_append, HLT.out.2]; rfl) (And.intro HRK2.out (show RcSt w R N M s (a, b, q, m) (w6.setCell ⟨M, 4, none⟩ (.slice a6 (vs.length + 1) c6)) l3 (vs ++ [(a2, b2, q2, m2)]) a6 c6 from by
        obtain ⟨g1, g2, g3, g4, g5, g6⟩ := H6.out
        have kk := (show Kept (fun b => b = M) w6 w6 from .refl _ _).setCell (p := ⟨M, 4, none⟩) rfl (.slice a6 (vs.length + 1) c6)
        have hl : (vs ++ [(a2, b2, q2, m2)]).length = vs.length + 1 := by rw [List.length_append]; rfl
        refine ⟨?_, ?_, g3.kept kk (by have := HNM.out.1; have := HNM.out.2; omega), kr_kept g4 kk (fun k hk => by have := HNM.out.1; have := HSZ.out.1; omega), kk.keep g5 (by have := HNM.out.1; omega), kk.keep g6 (by have := HNM.out.1; omega)⟩
        · rw [hl]; exact setCell_block g1 4 _
        · rw [hl, vwsV_snoc, ← HCC.out]; exact own_keptL g2 kk (fun g hg e => by have := (g2.lt g hg).1; omega)))))
      clear H6 HRK2 HCC HS5 HS4 HSD HX5 HG
      go_wp2_with fail
      exact ⟨⟨k + 1, _, l3, a6, c6, HE.out.1, by go_num, Lib.hid HE.out.2⟩, by have := HE.out.1; simp [intOf]; omega⟩
    · have hbool : decide ((k : Int) < (n : Int)) = false := by simpa using hlt
      have hbool' : decide (k < n) = false := by simpa using hlt
      have hkn : k = n := by omega
      have HRF := Lib.hid (show r = .ok (((a, b, q, m), vs), lk) from by rw [HRN.out, ← hkn]; exact andR_ok HV.out.2.1 _)
      have HV2 := Lib.hid HV.out.2.2
      obtain ⟨C, hC⟩ : ∃ C, C = rcC (a, b, q, m) ad vs.length cap := ⟨_, rfl⟩
      have HC := Lib.hid (And.intro (show wr.heap[M]? = some (.cells C 61 (0, 0)) from by rw [hC]; exact HV2.out.m) (And.intro (show C.size = 5 by rw [hC]; rfl) (And.intro (show C.all (·.oneCell') = true by rw [hC]; simp [rcC, Value.oneCell']) hC)))
      clear hC hlt hkn HV
      go_wp2_with (first
        | (refine wpList_load_row rfl 61 (.tmp 3) rfl M rfl 61 C (0, 0) _ HC.out.1 Tryz.underlying61 rfl (by rw [HC.out.2.1]; kernel_rfl) ?_)
        | (refine wpList_store_row rfl 61 (.tmp 2) (.tmp 26) rfl (N + 1) C rfl rfl 61 _ HV2.out.n1 (by rw [HC.out.2.1]; kernel_rfl) (by rw [HC.out.2.1]; rfl) HC.out.2.2.1 ?_))
      have kk := kept_setRowL wr (N + 1) C
      have HE := Lib.hid (show RecEnd R s w r (.returned (.agg C)) (wr.setRow (N + 1) C) from by
        rw [HC.out.2.2.2] at kk
        rw [HRF.out, HC.out.2.2.2]
        exact ⟨⟨ad, cap, rfl, ownMoreL (own_keptL HV2.out.own kk (fun g hg e => by have := (HV2.out.own.lt g hg).1; have := HNM.out.1; omega)) (by have := HNM.out.1; have := HSZ.out.1; omega)⟩, HV2.out.rd.kept kk (fun e => by have := HNM.out.2; omega), kr_row HV2.out.kr (by have := HSZ.out.1; omega) kk⟩)
      refine bodyPost_ret (results_cell_row Tryz.results45 _ _ (N + 1) 61 C (0, 0) _ rfl (setRow_heap _ _ _ _ _ _ HV2.out.n1) Tryz.underlying61 rfl (by rw [HC.out.2.1]; kernel_rfl)) rfl ?_
      exact HE.out
end Go.Proofs.YtogagkgkmoppmaaGreatDoor
