/-
  What a log's reader reads: texts, the end; what a panic's error is caught as.
  Conditions: those that each theorem names.
-/
import Derived.Test.YtogagkgkmoppmaaGreatDoorLogC
import Derived.Recover
import Derived.Test.YtogagkgkmoppmaaGreatDoorBaseZs
import Derived.Defers
namespace Go.Proofs.YtogagkgkmoppmaaGreatDoor
set_option linter.unusedVariables false
set_option linter.unusedSimpArgs false
open Go.RowKit
def rdT (n : Nat) (l : List UInt8) : Except Int (ByteArray × List UInt8) := if n ≤ l.length then .ok (⟨(l.take n).toArray⟩, l.drop n) else .error 2
theorem bytes_cut (s : ByteArray) (p n : Nat) : (s.extract p (p + n)).data.toList = (s.data.toList.drop p).take n := by
  rw [ByteArray.data_extract]
  simp
theorem text_rd {w : World} {R : Nat} {s : ByteArray} {l : List UInt8} (h : RdL w R s l) (n : Nat) :
    Calls Tryz.prog 47 #[.pointer (some ⟨R, 0, none⟩), .int .i64 (n : Int)] w fun e w' => RdEnd R s w ((rdT n l).map fun x => (.string x.1, x.2)) e w' := by
  obtain ⟨p, hr, hp, rfl, hs⟩ := h
  have hlen : (s.data.toList.drop p).length = s.size - p := by rw [List.length_drop]; rfl
  unfold rdT
  by_cases hpn : p + n ≤ s.size
  · rw [if_pos (by rw [hlen]; omega)]
    refine (Text_any R s p n w hr (by omega) hpn).mono ?_
    rintro e w' ⟨rfl, hst⟩
    refine ⟨?_, ⟨p + n, hst.1, hpn, by rw [List.drop_drop], hs⟩, KR.of_grown hst.2⟩
    congr 2
    apply ByteArray.ext
    apply Array.ext'
    exact bytes_cut s p n
  · rw [if_neg (by rw [hlen]; omega)]
    exact Text_short R s p n w hr (by omega) hp (by omega)
theorem left_rd {w : World} {R : Nat} {s : ByteArray} {l : List UInt8} (h : RdL w R s l) :
    Calls Tryz.prog 48 #[.pointer (some ⟨R, 0, none⟩)] w fun e w' => e = .returned (.int .i64 (l.length : Int)) ∧ Below w.heap.size w w' := by
  obtain ⟨p, hr, hp, rfl, hs⟩ := h
  have hlen : (s.data.toList.drop p).length = s.size - p := by rw [List.length_drop]; rfl
  refine (Left_any R s p w hr (by omega) hp).mono ?_
  rintro e w' ⟨rfl, q, rfl⟩
  refine ⟨?_, bn (br w) q⟩
  congr 2
  rw [hlen]
  omega
set_option maxHeartbeats 2000000 in
theorem end_rd {w : World} {R : Nat} {s : ByteArray} {l : List UInt8} (h : RdL w R s l) :
    Calls Tryz.prog 49 #[.agg #[.pointer (some ⟨R, 0, none⟩)]] w fun e w' => (if 0 < l.length then e = .panicked (panL 4) else e = .returned (.tuple #[])) ∧ Below w.heap.size w w' := by
  obtain ⟨N, hN⟩ : ∃ N, N = w.heap.size := ⟨_, rfl⟩
  obtain ⟨W, hW⟩ : ∃ W, W = w.alloc (.cells #[.pointer (some ⟨R, 0, none⟩)] 117) := ⟨_, rfl⟩
  have hbA := ba (br w) (.cells #[.pointer (some ⟨R, 0, none⟩)] 117)
  have hxA := heap_alloc_new w (.cells #[.pointer (some ⟨R, 0, none⟩)] 117)
  rw [← hW] at hxA hbA
  rw [← hN] at hxA
  have c0 : W.cell? ⟨N, 0, none⟩ = some (.pointer (some ⟨R, 0, none⟩)) := cell_of_row _ _ 0 _ _ _ hxA
  have HN := Lib.hid (left_rd (h.below hbA))
  have HB := Lib.hid hbA
  obtain ⟨n, hn⟩ : ∃ n, n = l.length := ⟨_, rfl⟩
  rw [← hn] at HN ⊢
  clear hxA hbA h hn
  by_cases hp : 0 < n
  · have d1 : decide (0 < n) = true := by simpa using hp
    have d2 : decide ((0 : Int) < (n : Int)) = true := by simp; omega
    refine Calls.mono (R := fun e w' => e = .panicked (panL 4) ∧ Below w.heap.size w w') ?_ (fun e w' h => by rw [if_pos hp]; exact h)
    clear hp
    go_enter Tryz.func49, Tryz.ntmps49
    go_upto_region 1 with (fail)
    rw [← hW, ← hN]
    clear hW hN
    go_wp2_with fail
    refine HN.out.mono ?_
    rintro e w1 ⟨rfl, h1⟩
    have HE := Lib.hid (bt HB.out h1)
    clear h1 c0
    go_wp2_with (go_at_call 44; refine (bad_so 4 _).mono ?_; rintro e w' ⟨rfl, rfl⟩)
    exact bodyPost_pan rfl ⟨rfl, HE.out⟩
  · have d1 : decide (0 < n) = false := by simpa using hp
    have d2 : decide ((0 : Int) < (n : Int)) = false := by simp; omega
    refine Calls.mono (R := fun e w' => e = .returned (.tuple #[]) ∧ Below w.heap.size w w') ?_ (fun e w' h => by rw [if_neg hp]; exact h)
    clear hp
    go_enter Tryz.func49, Tryz.ntmps49
    go_upto_region 1 with (fail)
    rw [← hW, ← hN]
    clear hW hN
    go_wp2_with fail
    refine HN.out.mono ?_
    rintro e w1 ⟨rfl, h1⟩
    have HE := Lib.hid (bt HB.out h1)
    clear h1 c0
    go_wp2_with (go_at_call 44; refine (bad_no 4 _).mono ?_; rintro e w' ⟨rfl, rfl⟩)
    go_end0
    exact ⟨rfl, HE.out⟩
theorem lassert_is (c : Int) (w : World) : (Instr.typeAssert (.iface 64 (.int .i64 c)) 20 64 true).run Tryz.prog w = .ok (.tuple #[.int .i64 c, .bool true]) w := by
  first | kernel_rfl | (simp [Instr.typeAssert, go_sem]; done)
theorem lassert_no (w : World) : (Instr.typeAssert .nilIface 20 64 true).run Tryz.prog w = .ok (.tuple #[.int .i64 0, .bool false]) w := by
  first | kernel_rfl | (simp [Instr.typeAssert, go_sem]; done)
theorem caught_some (c : Int) (w : World) : Calls Tryz.prog 41 #[.iface 64 (.int .i64 c)] w fun e w' => e = .returned (.int .i64 c) ∧ w = w' := by
  have h := lassert_is c
  go_enter Tryz.func41, Tryz.ntmps41
  go_wp2
  go_ret
  exact ⟨rfl, rfl⟩
theorem caught_none (w : World) : Calls Tryz.prog 41 #[.nilIface] w fun e w' => e = .returned (.int .i64 0) ∧ w = w' := by
  have h := lassert_no
  go_enter Tryz.func41, Tryz.ntmps41
  go_wp2
  go_ret
  exact ⟨rfl, rfl⟩
/-- an item -/
structure ItQ where
  kind : Nat
  data : ByteArray
  inc : Nat
  holds : Nat
  has : Bool
  direct : Bool
  rc : VwK
  pend : List VwK
  vw : VwK
  num : Nat
  idx : Nat
  tot : Nat
def zeroI : ItQ := ⟨0, ⟨#[]⟩, 0, 0, false, false, (0, 0, 0, 0), [], (0, 0, 0, 0), 0, 0, 0⟩
def itA (q : ItQ) (ad : Option Addr) (cap : Nat) : Array Value := #[.int .i64 (q.kind : Int), .string q.data, .int .u32 (q.inc : Int), .int .u64 (q.holds : Int), .bool q.has, .bool q.direct, .int .u64 (q.rc.1 : Int), .int .u64 (q.rc.2.1 : Int), .int .i64 (q.rc.2.2.1 : Int), .int .u64 (q.rc.2.2.2 : Int), .slice ad q.pend.length cap, .int .u64 (q.vw.1 : Int), .int .u64 (q.vw.2.1 : Int), .int .i64 (q.vw.2.2.1 : Int), .int .u64 (q.vw.2.2.2 : Int), .int .u64 (q.num : Int), .int .i64 (q.idx : Int), .int .i64 (q.tot : Int)]
theorem itA_one (q : ItQ) (ad : Option Addr) (cap : Nat) : (itA q ad cap).all (·.oneCell') = true := by simp [itA, Value.oneCell']
theorem wpList_buildZL {P : Program} {ops : Array Oper} {rest : List Oper} {o : Oper} {a : Act} {w : World} {Q : Exit → Act → World → Prop} (hg : o.guard = none) (t : TypeId) (parts : Array (Nat × Operand)) (ho : o.op = .build t parts)
    (cells : Array Value) (hc : P.built t (parts.map fun (i, x) => (i, a.eval x)).toList = some cells)
    (h : wpList P ops Q rest (a.put o.dst (.agg cells)) w) : wpList P ops Q (o :: rest) a w :=
  wpList_plain hg fun _ hK => by
    unfold Oper.wp execOp
    simp only [ho, Sem.run_bind, run_build w t _ cells hc, Result.andThen_ok]
    exact hK _ _ h
theorem bldI : Tryz.prog.built 63 [] = some (itA zeroI none 0) := by kernel_rfl
set_option maxHeartbeats 2000000 in
theorem itemD_pan (A B : Nat) (z c : Int) (hc : c ≠ 0) (older : List PanicEntry) (w : World) (C : Array Value) (hA : w.heap[A]? = some (.cells C 63 (0, 0))) (hC : C.size = 18) (hB : w.heap[B]? = some (.cells #[.int .i64 z] 64 (0, 0))) (hne : A ≠ B) :
    CallsD Tryz.prog 40 #[.pointer (some ⟨A, 0, none⟩), .pointer (some ⟨B, 0, none⟩)] (.panicking ({ v := .iface 64 (.int .i64 c), recovered := false } :: older)) w fun e u' w' =>
      e = .returned (.tuple #[]) ∧ u' = .panicking ({ v := .iface 64 (.int .i64 c), recovered := true } :: older) ∧ w' = (w.setRow A (itA zeroI none 0)).setCell ⟨B, 0, none⟩ (.int .i64 c) := by
  obtain ⟨Z, hZ⟩ : ∃ Z, Z = itA zeroI none 0 := ⟨_, rfl⟩
  have hb0 := bldI
  rw [← hZ] at hb0
  have hZ1 : Z.size = 18 := by rw [hZ]; rfl
  have hZ2 : Z.all (·.oneCell') = true := by rw [hZ]; exact itA_one _ _ _
  rw [← hZ]
  clear hZ
  have hB2 : (w.setRow A Z).heap[B]? = some (.cells #[.int .i64 z] 64 (0, 0)) := (kept_setRowL w A Z).keep hB (fun e => hne e.symm)
  have c1 : (w.setRow A Z).cell? ⟨B, 0, none⟩ = some (.int .i64 z) := cell_of_row _ _ 0 _ _ _ hB2
  have f1 : (w.setRow A Z).frozen? ⟨B, 0, none⟩ = false := frozen_of_row _ _ _ _ _ hB2
  refine callsD_of_wpS Tryz.func40 rfl fun c₀ cs hu => ?_
  apply wpS_seq
  apply wpS_region
  simp [wpOpsS, go_sem, recoverD, hu, Tryz.ntmps40, Exit.thenS]
  refine (caught_some c w).mono ?_
  rintro e w' ⟨rfl, rfl⟩
  have hcn : (c != 0) = true := by simpa using hc
  simp [wpOpsS, go_sem, Exit.thenS]
  apply wpS_seq
  apply wpS_region
  simp [wpOpsS, go_sem, Exit.thenS]
  refine wpS_cond (t := true) (by simp [Act.eval, Act.put, Array.replicate, hc]) ?_
  simp only [if_true]
  refine wpS_of_wp ?_
  refine wp_region_lit ?_
  refine wpList_buildZL rfl 63 #[] rfl Z (by simp only [List.map_toArray, List.map_nil]; exact hb0) ?_
  refine wpList_step (fun K hK => ?_)
  go_simp
  refine hK _ _ ?_
  clear hK K
  refine wpList_store_row rfl 63 (.tmp 0) (.tmp 7) rfl A Z (by simp [Act.eval, Act.put, Array.replicate]) (by simp [Act.eval, Act.put, Array.replicate]) 63 C hA (by rw [hZ1]; kernel_rfl) (by rw [hC, hZ1]) hZ2 ?_
  refine wpList_step (fun K hK => ?_)
  go_simp
  refine hK _ _ ?_
  clear hK K
  refine wpList_nil ?_
  simp [bodyPostS, results, Tryz.results40]
theorem itemD_ret (p q : Addr) (w : World) :
    CallsD Tryz.prog 40 #[.pointer (some p), .pointer (some q)] .returning w fun e u' w' => e = .returned (.tuple #[]) ∧ u' = .returning ∧ w' = w := by
  refine callsD_of_wpS Tryz.func40 rfl fun c₀ cs hu => ?_
  apply wpS_seq
  apply wpS_region
  simp [wpOpsS, go_sem, recoverD, hu, Tryz.ntmps40, Exit.thenS]
  refine (caught_none w).mono ?_
  rintro e w' ⟨rfl, rfl⟩
  simp [wpOpsS, go_sem, Exit.thenS]
  apply wpS_seq
  apply wpS_region
  simp [wpOpsS, go_sem, Exit.thenS]
  refine wpS_cond (t := false) (by simp [Act.eval, Act.put, Array.replicate]) ?_
  simp only [Bool.false_eq_true, if_false]
  refine wpS_of_wp (wp_skip ?_)
  cases c₀
  simp_all [bodyPostS, results, Tryz.results40]
end Go.Proofs.YtogagkgkmoppmaaGreatDoor
namespace Go.Proofs.YtogagkgkmoppmaaGreatDoor
set_option linter.unusedVariables false
open Go.RowKit
section
variable {P : Program} {ops : Array Oper} {Q : Exit → Act → World → Prop} {md : Region.Mode} {S : World → Prop} {n : Nat} {ok : Option Tmp → Bool}
/-- the post at a panic does not hang on some of the frame's values -/
def PanOk (ok : Option Tmp → Bool) (Q : Exit → Act → World → Prop) : Prop := ∀ c (a : Act) (d : Option Tmp) (v : Value) w, ok d = true → Q (.panic c) (a.put d v) w → Q (.panic c) a w
theorem wpAnyS_maskD {g : Nat} (hsel : Region.noSelect ops = true) (hQ : PanOk ok Q) (hs : Region.sinkB md ops n = true) (hc : Region.chainB md ops n = true) (hn : n < ops.size) {w : World} (hS : S w) :
    ∀ (bs : List Bool) (l : List Oper) (k : Nat) (done : Array Bool) (a : Act), bs.length = l.length → (∀ j, j < l.length → l[j]? = ops[k + j]?) → HeadInv md ops n done → maskB md ops n bs k done = true → (bs.zip l).all (fun p => !p.1 || ok p.2.dst) = true →
    wpMask P ops S (fun a' => wpAnyS P md ops Q S n g (maskDone bs k done) a' w) bs l a → wpAnyS P md ops Q S n (bs.count true + g) done a w
  | [], l, k, done, a, hlen, _, _, _, _, h => by
    simp only [List.count_nil, Nat.zero_add]
    cases l <;> simpa [wpMask, maskDone] using h
  | b :: bs, [], k, done, a, hlen, _, _, _, _, h => by simp at hlen
  | false :: bs, o :: l, k, done, a, hlen, hl, inv, hB, hok, h => by
    rw [show (false :: bs).count true = bs.count true by simp]
    refine wpAnyS_maskD hsel hQ hs hc hn hS bs l (k + 1) done a (by simpa using hlen) (fun j hj => ?_) inv (by simpa [maskB] using hB) (by simpa using hok) h
    have := hl (j + 1) (by simp; omega)
    simpa [Nat.add_assoc, Nat.add_comm 1 j] using this
  | true :: bs, o :: l, k, done, a, hlen, hl, inv, hB, hok, h => by
    have h0 : ops[k]? = some o := by simpa using (hl 0 (by simp)).symm
    simp only [maskB, Bool.and_eq_true, decide_eq_true_eq] at hB
    obtain ⟨⟨⟨hr, hf⟩, hkn⟩, hB'⟩ := hB
    have hr' : k ∈ Region.ready md ops done := by simpa using hr
    obtain ⟨v, hy, hK⟩ := h
    rw [show (true :: bs).count true + g = (bs.count true + g) + 1 by simp; omega]
    have hok' : ok o.dst = true ∧ (bs.zip l).all (fun p => !p.1 || ok p.2.dst) = true := by simpa using hok
    refine wpAnyS_first h0 (Region.noSelect_spec hsel) (fun c a w => hQ c a _ _ w hok'.1) hs hc hn hkn _ done a w inv (Region.free_spec h0 hf) hr' hy hS ?_
    refine wpAnyS_maskD hsel hQ hs hc hn hS bs l (k + 1) _ _ (by simpa using hlen) (fun j hj => ?_) (inv.set hr' hkn) hB' hok'.2 hK
    have := hl (j + 1) (by simp; omega)
    simpa [Nat.add_assoc, Nat.add_comm 1 j] using this
theorem wpAnyS_takeD {i : Nat} {oi : Oper} (v : Value) {fuel : Nat} {listed : Array Bool} {a : Act} {w : World} (hQ : PanOk ok Q) (hi : ops[i]? = some oi)
    (hB : (Region.noSelect ops && Region.sinkB md ops n && Region.chainB md ops n && decide (n < ops.size) && decide (i < n) && headInvB md ops n listed && (Region.ready md ops listed).contains i && Region.free md ops listed i && ok oi.dst) = true)
    (hy : YieldsIf P ops S oi v a) (hS : S w)
    (h : wpAnyS P md ops Q S n fuel (listed.setIfInBounds i true) (a.put oi.dst v) w) : wpAnyS P md ops Q S n (fuel + 1) listed a w := by
  simp only [Bool.and_eq_true, decide_eq_true_eq] at hB
  obtain ⟨⟨⟨⟨⟨⟨⟨⟨hsel, hs⟩, hc⟩, hn⟩, hin⟩, hinv⟩, hr⟩, hf⟩, hk⟩ := hB
  exact wpAnyS_first hi (Region.noSelect_spec hsel) (fun c a w => hQ c a _ _ w hk) hs hc hn hin fuel listed a w (headInvB_spec hinv) (Region.free_spec hi hf) (by simpa using hr) hy hS h
theorem wpAnyS_doneD {listed : Array Bool} {a : Act} {w : World} (hr : Region.ready md ops listed = []) (h : Q .normal a w) : ∀ fuel, wpAnyS P md ops Q S n fuel listed a w
  | 0 => ⟨hr, h⟩
  | _ + 1 => ⟨fun _ => h, by rw [hr]; simp⟩
end
theorem wp_region_maskD {P : Program} {id : Nat} {Q : Exit → Act → World → Prop} {a : Act} {w : World} {l : List Oper} {ok : Option Tmp → Bool} (S : World → Prop) (n g : Nat) (bs : List Bool) (done : Array Bool) (hm : P.follows .mixedOrders = true)
    (hB : (Region.noSelect l.toArray && Region.sinkB .any l.toArray n && Region.chainB .any l.toArray n && decide (n < l.length) && decide (bs.length = l.length) && decide (bs.count true + g = l.length) && maskB .any l.toArray n bs 0 (Array.replicate l.length false)) = true) (hok : (bs.zip l).all (fun p => !p.1 || ok p.2.dst) = true) (hd : maskDone bs 0 (Array.replicate l.length false) = done) (hQ : PanOk ok Q) (hS : S w.drew)
    (h : wpMask P l.toArray S (fun a' => wpAnyS P .any l.toArray Q S n g done a' w.drew) bs l a) : (Code.region id l.toArray true).wp P Q a w := by
  subst hd
  simp only [Bool.and_eq_true, decide_eq_true_eq] at hB
  obtain ⟨⟨⟨⟨⟨⟨hsel, hs⟩, hc⟩, hn⟩, hlen⟩, hcount⟩, hmask⟩ := hB
  have inv0 : HeadInv .any l.toArray n (Array.replicate l.length false) :=
    ⟨by simp, fun j oj _ hl => (by rw [getD_replicate_false] at hl; cases hl), fun t _ ht => getD_in (by simpa using ht) (getD_replicate_false _ _)⟩
  refine wp_region_any hm ?_
  have := wpAnyS_maskD hsel hQ hs hc (by simpa using hn) hS bs l 0 _ a hlen (fun j hj => by simp) inv0 hmask hok h
  rw [hcount] at this
  simpa using wpAny_of_S _ _ _ _ this
theorem leaves_eq {P : Program} {fn : Func} {R : Ending → World → Prop} {t1 t2 : Array Value} (h : results fn t1 = results fn t2) : ∀ (ds : List Deferred) (u : FrameMode) (w : World), Leaves P fn t1 R ds u w = Leaves P fn t2 R ds u w
  | [], u, w => by cases u <;> simp [Leaves, h]
  | d :: ds, u, w => by
    have ih := fun u w => leaves_eq (P := P) (R := R) h ds u w
    simp only [Leaves, ih]
end Go.Proofs.YtogagkgkmoppmaaGreatDoor
