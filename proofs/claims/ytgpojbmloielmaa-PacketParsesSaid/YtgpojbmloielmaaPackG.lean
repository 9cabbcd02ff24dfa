/-
  What packet.Print returns.
  Conditions: those that each theorem names.
-/
import Derived.Test.YtgpojbmloielmaaPackF
namespace Go.Proofs.Ytgpojbmloielmaa
set_option linter.unusedVariables false
set_option linter.unusedSimpArgs false
open Go.RowKit
theorem assert_is (c : Int) (w : World) : (Instr.typeAssert (.iface 36 (.int .i64 c)) 20 36 true).run Try.prog w = .ok (.tuple #[.int .i64 c, .bool true]) w := by
  first | kernel_rfl | (simp [Instr.typeAssert, go_sem]; done)
theorem assert_no (w : World) : (Instr.typeAssert .nilIface 20 36 true).run Try.prog w = .ok (.tuple #[.int .i64 0, .bool false]) w := by
  first | kernel_rfl | (simp [Instr.typeAssert, go_sem]; done)
theorem printD_pan (p q : Addr) (s : ByteArray) (z c : Int) (older : List PanicEntry) (w : World) (hp : w.cell? p = some (.string s)) (hq : w.cell? q = some (.int .i64 z)) (fp : w.frozen? p = false) (fq : w.frozen? q = false) (hne : p ≠ q) :
    CallsD Try.prog 32 #[.pointer (some p), .pointer (some q)] (.panicking ({ v := .iface 36 (.int .i64 c), recovered := false } :: older)) w fun e u' w' =>
      e = .returned (.tuple #[]) ∧ u' = .panicking ({ v := .iface 36 (.int .i64 c), recovered := true } :: older) ∧ w' = (w.setCell p (.string ⟨#[]⟩)).setCell q (.int .i64 c) := by
  refine callsD_of_wpS Try.func32 rfl fun c₀ cs hu => ?_
  apply wpS_seq
  apply wpS_region
  simp [wpOpsS, go_sem, recoverD, hu, Try.ntmps32, Exit.thenS, assert_is]
  apply wpS_seq
  apply wpS_region
  simp [wpOpsS, go_sem, Exit.thenS]
  refine wpS_cond (t := true) (by simp [Act.eval, Array.replicate]) ?_
  simp only [if_true]
  have hq2 : (w.setCell p (.string ⟨#[]⟩)).cell? q = some (.int .i64 z) := by rw [World.cell?_setCell_other _ _ _ _ hne]; exact hq
  have fq2 : (w.setCell p (.string ⟨#[]⟩)).frozen? q = false := by simpa using fq
  apply wpS_region
  simp [wpOpsS, go_sem, hp, fp, hq2, fq2, bodyPostS, results, Try.results32]
theorem printD_ret (p q : Addr) (w : World) :
    CallsD Try.prog 32 #[.pointer (some p), .pointer (some q)] .returning w fun e u' w' => e = .returned (.tuple #[]) ∧ u' = .returning ∧ w' = w := by
  refine callsD_of_wpS Try.func32 rfl fun c₀ cs hu => ?_
  apply wpS_seq
  apply wpS_region
  simp [wpOpsS, go_sem, recoverD, hu, Try.ntmps32, Exit.thenS, assert_no]
  apply wpS_seq
  apply wpS_region
  simp [wpOpsS, go_sem, Exit.thenS]
  refine wpS_cond (t := false) (by simp [Act.eval, Array.replicate]) ?_
  simp only [Bool.false_eq_true, if_false]
  refine wpS_of_wp (wp_skip ?_)
  cases c₀
  simp_all [bodyPostS, results, Try.results32]
theorem NumsOk.below {w w' : World} {da : Option Addr} {ds : List Nat} (h : NumsOk w da ds) (hb : Below w.heap.size w w') : NumsOk w' da ds :=
  ⟨h.1, fun i hi => by
    obtain ⟨h1, b, o, e, hlt, hc⟩ := h.2 i hi
    exact ⟨h1, b, o, e, Nat.lt_of_lt_of_le hlt hb.size, (hb.cell (p := ⟨b, o + i, none⟩) hlt).trans hc⟩⟩
theorem ExsOk.below {w w' : World} {xa : Option Addr} {xs : List Exch} (h : ExsOk w xa xs) (hb : Below w.heap.size w w') : ExsOk w' xa xs :=
  ⟨h.1, fun i hi => by
    obtain ⟨⟨h1, h2, h3⟩, g, o, e, hlt, hr⟩ := h.2 i hi
    exact ⟨⟨h1, h2, h3.below hb⟩, g, o, e, Nat.lt_of_lt_of_le hlt hb.size, fun j u hu => (hb.cell (p := ⟨g, o + i * 6 + j, none⟩) hlt).trans (hr j u hu)⟩⟩
theorem PktOk.below {w w' : World} {p : Pkt} (h : PktOk w p) (hb : Below w.heap.size w w') : PktOk w' p :=
  ⟨h.ce, ⟨h.m.1, h.m.2.1, h.m.2.2.1, h.m.2.2.2.below hb⟩, h.stamp, h.sent, h.got.below hb, h.hor, h.seq, h.mem, h.pe, h.epoch, h.xs.below hb⟩
theorem bodyL_len {p : Pkt} {y : List UInt8} (h : bodyL p = .ok y) : y.length ≤ 20000 := by
  obtain ⟨a, b, h1, h2, rfl⟩ := cat_ok h
  have ha := confL_len h1
  rw [List.length_append]
  suffices b.length ≤ 19000 by omega
  split at h2
  · have := msgL_len h2; omega
  split at h2
  · obtain ⟨c, d, h3, h4, rfl⟩ := cat_ok h2
    obtain ⟨e, f, h5, h6, rfl⟩ := cat_ok h4
    obtain ⟨g, i, h7, h8, rfl⟩ := cat_ok h6
    injection h3 with h3; injection h5 with h5; injection h8 with h8
    have := vecL_len h7
    simp only [List.length_append, ← h3, ← h5, ← h8, putL_length]; omega
  split at h2
  · obtain ⟨c, d, h3, h4, rfl⟩ := cat_ok h2
    have := procL_len h3
    injection h4 with h4
    simp only [List.length_append, ← h4, putL_length]; omega
  split at h2
  · obtain ⟨c, d, h3, h4, rfl⟩ := cat_ok h2
    obtain ⟨e, f, h5, h6, rfl⟩ := cat_ok h4
    have := confL_len h3
    injection h5 with h5; injection h6 with h6
    simp only [List.length_append, ← h5, ← h6, putL_length]; omega
  split at h2
  · injection h2 with h2; rw [← h2, putL_length]; omega
  split at h2
  · unfold oneX at h2
    split at h2
    · have := exL_len h2; omega
    · cases h2
  split at h2
  · split at h2
    · cases h2
    · obtain ⟨c, d, h3, h4, rfl⟩ := cat_ok h2
      obtain ⟨e, f, h5, h6, rfl⟩ := cat_ok h4
      injection h3 with h3; injection h5 with h5
      have := exsL_len h6
      simp only [List.length_append, ← h3, ← h5, putL_length]; omega
  split at h2
  · obtain ⟨c, d, h3, h4, rfl⟩ := cat_ok h2
    have := procL_len h3
    have := msgL_len h4
    simp only [List.length_append]; omega
  · injection h2 with h2; rw [← h2]; simp
theorem three_new (w : World) (A B C : Array Value) (t s u : TypeId) :
    (((w.alloc (.cells A t)).alloc (.cells B s)).alloc (.cells C u)).heap[w.heap.size]? = some (.cells A t (0, 0)) ∧ (((w.alloc (.cells A t)).alloc (.cells B s)).alloc (.cells C u)).heap[w.heap.size + 1]? = some (.cells B s (0, 0)) ∧
    (((w.alloc (.cells A t)).alloc (.cells B s)).alloc (.cells C u)).heap[w.heap.size + 1 + 1]? = some (.cells C u (0, 0)) ∧ Below w.heap.size w (((w.alloc (.cells A t)).alloc (.cells B s)).alloc (.cells C u)) := by
  have h1 := heap_alloc_new w (.cells A t)
  have h2 := heap_alloc_new (w.alloc (.cells A t)) (.cells B s)
  have h3 := heap_alloc_new ((w.alloc (.cells A t)).alloc (.cells B s)) (.cells C u)
  have b2 := ba (br (w.alloc (.cells A t))) (.cells B s)
  have b3 := ba (br ((w.alloc (.cells A t)).alloc (.cells B s))) (.cells C u)
  have s1 : (w.alloc (.cells A t)).heap.size = w.heap.size + 1 := by simp
  have s2 : ((w.alloc (.cells A t)).alloc (.cells B s)).heap.size = w.heap.size + 1 + 1 := by simp
  refine ⟨(b3.block _ (by omega)).trans ((b2.block _ (by omega)).trans h1), ?_, ?_, bt (ba (br w) _) (bt b2 b3)⟩
  · rw [← s1]; exact (b3.block _ (by omega)).trans h2
  · rw [← s2]; exact h3
theorem print_res {tmps : Array Value} {w : World} {a b : Addr} {s : ByteArray} {c : Int} (ha : tmps.getD 2 undef = .pointer (some a)) (hb : tmps.getD 3 undef = .pointer (some b)) (hx : w.cell? a = some (.string s)) (hy : w.cell? b = some (.int .i64 c)) :
    (results Try.f14 tmps).run Try.prog w = .ok (.tuple #[.string s, .int .i64 c]) w := by
  simp only [Array.getD_eq_getD_getElem?] at ha hb
  simp [results, Try.results14, ha, hb, go_sem, hx, hy]
theorem conv_src {w : World} {v : Value} {l : List UInt8} (h : Src w v l) : (convert 52 9 v).run Try.prog w = .ok (.string ⟨l.toArray⟩) w := by
  rcases h with ⟨rfl, rfl⟩ | ⟨g, cap, rfl, _, hc⟩
  · kernel_rfl
  · exact conv_cells l w g l.length cap rfl hc
theorem two_set {w : World} {a b : Nat} {x y s c : Value} {t u : TypeId} (ha : w.heap[a]? = some (.cells #[x] t (0, 0))) (hb : w.heap[b]? = some (.cells #[y] u (0, 0))) (hne : a ≠ b) :
    ((w.setCell ⟨a, 0, none⟩ s).setCell ⟨b, 0, none⟩ c).cell? ⟨a, 0, none⟩ = some s ∧ ((w.setCell ⟨a, 0, none⟩ s).setCell ⟨b, 0, none⟩ c).cell? ⟨b, 0, none⟩ = some c := by
  have h1 := setCell_block ha 0 s
  have h2 := (heap_setCell_other w ⟨a, 0, none⟩ b s (Ne.symm hne)).trans hb
  have h3 := setCell_block h2 0 c
  have h4 := (heap_setCell_other (w.setCell ⟨a, 0, none⟩ s) ⟨b, 0, none⟩ a c hne).trans h1
  exact ⟨cell_of_row _ _ 0 _ _ _ h4, cell_of_row _ _ 0 _ _ _ h3⟩
theorem printE_kind {k f t : Int} {b : ByteArray} (h : printE k f t b = 0) : 1 ≤ k ∧ k ≤ 11 := by
  unfold printE at h
  split at h
  · cases h
  · rename_i hk
    simpa [kindB] using hk
theorem wpQuiet_build {P : Program} {ops : Array Oper} {C : World → Prop} {Q : Act → Prop} {rest : List Oper} {o : Oper} {a : Act} (hw : Region.wanted o (yielded ops a.tmps) = true) (t : TypeId) (parts : Array (Nat × Operand)) (ho : o.op = .build t parts)
    (vals : Array (Nat × Value)) (hv : (parts.map fun p => (p.1, a.eval p.2)) = vals) (cells : Array Value) (hr : ∀ w, C w → (Instr.build t vals).run P w = .ok (.agg cells) w)
    (h : wpQuiet P ops C Q rest (a.put o.dst (.agg cells))) : wpQuiet P ops C Q (o :: rest) a := by
  show (if Region.wanted o (yielded ops a.tmps) = true then _ else _)
  rw [if_pos hw]
  refine ⟨_, fun w hC => ?_, h⟩
  unfold Oper.quietAt execOp
  simp only [ho]
  rw [hv]
  simp only [Sem.run_bind, Sem.run_pure, Result.andThen_ok, hr w hC]
  exact ⟨rfl, rfl⟩
def pktE (p : Pkt) : Int := if printE p.kind p.frm p.dst ⟨#[]⟩ ≠ 0 then printE p.kind p.frm p.dst ⟨#[]⟩ else match bodyL p with
  | .error c => c
  | .ok x => printE p.kind p.frm p.dst (strL x)
def pktS (p : Pkt) : ByteArray := if printE p.kind p.frm p.dst ⟨#[]⟩ ≠ 0 then ⟨#[]⟩ else match bodyL p with
  | .error c => ⟨#[]⟩
  | .ok x => printS p.kind p.frm p.dst (strL x)
set_option maxRecDepth 100000 in
set_option maxHeartbeats 8000000 in
theorem pkPrint_any (p : Pkt) (w : World) (hp : PktOk w p) :
    Calls Try.prog 14 #[.agg (pktA p)] w fun e w' => e = .returned (.tuple #[.string (pktS p), .int .i64 (pktE p)]) ∧ Below w.heap.size w w' := by
  have hmf : ∀ (fn : Fn) (first cap : Array Value) (w : World), (Instr.makeFunc fn first cap).run Try.prog w = .ok (.func fn first cap) w := fun _ _ _ _ => rfl
  obtain ⟨S, hS⟩ : ∃ S, S = pktS p := ⟨_, rfl⟩
  obtain ⟨E, hE⟩ : ∃ E, E = pktE p := ⟨_, rfl⟩
  rw [← hS, ← hE]
  have HSE := Lib.hid (And.intro hS hE)
  have HP := Lib.hid hp
  clear hS hE hp
  obtain ⟨N, hN⟩ : ∃ N, N = w.heap.size := ⟨_, rfl⟩
  have hma : pktA p = #[.int .i64 p.kind, .int .i64 p.frm, .int .i64 p.dst, .int .u64 (p.ce : Int), .int .i64 p.cr, .int .i64 p.m.frm, .int .u32 (p.m.seq : Int), .int .u64 (p.m.stamp : Int), .int .i64 p.m.service, .slice p.m.da p.m.ds.length p.m.dc, .string p.m.pay, .int .u64 (p.stamp : Int), .int .u32 (p.sent : Int), .slice p.ga p.got.length p.gc, .int .u64 (p.hor : Int), .int .i64 p.whom, .int .u32 (p.seq : Int), .int .u64 (p.mem : Int), .int .u64 (p.pe : Int), .int .i64 p.pr, .int .u64 (p.epoch : Int), .slice p.xa p.xs.length p.xc] := rfl
  rw [hma]
  go_enter_defers Try.func14, Try.ntmps14
  obtain ⟨W3, hW3⟩ : ∃ W3, W3 = ((w.alloc (.cells (pktA p) 35)).alloc (.cells #[.string ⟨#[]⟩] 9)).alloc (.cells #[.int .i64 0] 36) := ⟨_, rfl⟩
  obtain ⟨n0, n1, n2, hb3⟩ := three_new w (pktA p) #[.string ⟨#[]⟩] #[.int .i64 0] 35 9 36
  rw [← hW3, ← hN] at n0 n1 n2
  rw [← hW3] at hb3
  rw [hma] at hW3
  go_upto_region 1 with (fail)
  rw [← hW3, ← hN]
  have c0 : W3.cell? ⟨N, 0, none⟩ = some (.int .i64 p.kind) := cell_of_row _ _ 0 _ _ _ n0
  have c1 : W3.cell? ⟨N, 1, none⟩ = some (.int .i64 p.frm) := cell_of_row _ _ 1 _ _ _ n0
  have c2 : W3.cell? ⟨N, 2, none⟩ = some (.int .i64 p.dst) := cell_of_row _ _ 2 _ _ _ n0
  have H3 := Lib.hid (And.intro n0 (And.intro n1 (And.intro n2 (And.intro hb3 hN))))
  clear hma hW3 n0 n1 n2 hb3 hN
  have HPr := Lib.hid (Print_any p.kind p.frm p.dst ⟨#[]⟩ W3 (by simp [ByteArray.size]))
  have hSE1 := HSE.out
  unfold pktS pktE at hSE1
  obtain ⟨z, hzE⟩ : ∃ z, z = printE p.kind p.frm p.dst ⟨#[]⟩ := ⟨_, rfl⟩
  rw [← hzE] at HPr hSE1
  have HZE := Lib.hid hzE.symm
  clear hzE
  generalize printS p.kind p.frm p.dst ⟨#[]⟩ = s0 at HPr
  have HZ := Lib.hid hSE1
  clear hSE1
  go_wp2_with fail
  refine HPr.out.mono ?_
  rintro e w4 ⟨rfl, hb4⟩
  have hx0 := (hb4.block _ (Array.getElem?_eq_some_iff.1 H3.out.1).1).trans H3.out.1
  have hx1 := (hb4.block _ (Array.getElem?_eq_some_iff.1 H3.out.2.1).1).trans H3.out.2.1
  have hx2 := (hb4.block _ (Array.getElem?_eq_some_iff.1 H3.out.2.2.1).1).trans H3.out.2.2.1
  have H4 := Lib.hid (And.intro hx0 (And.intro hx1 (And.intro hx2 (bt H3.out.2.2.2.1 hb4))))
  clear hx0 hx1 hx2 hb4 c0 c1 c2 HPr
  by_cases hz : z = 0
  · subst hz
    have hk := printE_kind HZE.out
    have hxW := heap_alloc_new w4 (.cells #[.slice none 0 0] 80)
    have hbW := ba (br w4) (.cells #[.slice none 0 0] 80)
    have hW5 : WrAt w4.heap.size w4 (w4.alloc (.cells #[.slice none 0 0] 80)) [] := ⟨.slice none 0 0, hxW, ⟨rfl, .inl ⟨rfl, rfl⟩⟩, hbW, Nat.le_refl _⟩
    have hp4 := HP.out.below H4.out.2.2.2
    have HBo := Lib.hid (wBody_any hW5 p hp4 hk (by simp))
    have hN4 := (Array.getElem?_eq_some_iff.1 H4.out.1).1
    have x5 := (hbW.block _ hN4).trans H4.out.1
    clear hk hxW hbW hW5 hp4 hN4
    go_wp2_with (refine wpList_load_row rfl 35 (.tmp 1) rfl N rfl 35 (pktA p) (0, 0) _ x5 Try.underlying35 rfl (by kernel_rfl) ?_)
    refine HBo.out.mono ?_
    intro e w6 h6
    rcases hb : bodyL p with c | y
    · rw [hb] at h6
      obtain ⟨rfl, hb6⟩ := h6
      have hb46 : Below w4.heap.size w4 w6 := hb6
      have x1 := (hb46.block _ (Array.getElem?_eq_some_iff.1 H4.out.2.1).1).trans H4.out.2.1
      have x2 := (hb46.block _ (Array.getElem?_eq_some_iff.1 H4.out.2.2.1).1).trans H4.out.2.2.1
      have HE := Lib.hid (show S = ⟨#[]⟩ ∧ E = c from by rw [if_neg (by simp), if_neg (by simp), hb] at HZ; exact HZ.out)
      have HB := Lib.hid (show Below w.heap.size w ((w6.setCell ⟨N + 1, 0, none⟩ (.string ⟨#[]⟩)).setCell ⟨N + 1 + 1, 0, none⟩ (.int .i64 c)) from by
        have hn := H3.out.2.2.2.2
        exact bs (bs (bt H4.out.2.2.2 hb46) (p := ⟨N + 1, 0, none⟩) (by rw [hn]; exact Nat.le_succ _) _) (p := ⟨N + 1 + 1, 0, none⟩) (by rw [hn]; simp only; omega) _)
      obtain ⟨g1, g2⟩ := two_set (s := .string ⟨#[]⟩) (c := .int .i64 c) x1 x2 (by omega)
      have hpan := printD_pan ⟨N + 1, 0, none⟩ ⟨N + 1 + 1, 0, none⟩ ⟨#[]⟩ 0 c [] w6 (cell_of_row _ _ 0 _ _ _ x1) (cell_of_row _ _ 0 _ _ _ x2) (frozen_of_row _ _ _ _ _ x1) (frozen_of_row _ _ _ _ _ x2) (by intro e; injection e with e; omega)
      refine leaves_cons (f := 32) (args := #[.pointer (some ⟨N + 1, 0, none⟩), .pointer (some ⟨N + 1 + 1, 0, none⟩)]) (by simp) (by simp [go_sem]) ?_
      refine hpan.mono ?_
      rintro e u' w'' ⟨rfl, rfl, rfl⟩
      exact ⟨_, print_res (a := ⟨N + 1, 0, none⟩) (b := ⟨N + 1 + 1, 0, none⟩) (by rfl) (by rfl) g1 g2, by rw [HE.out.1, HE.out.2], HB.out⟩
    · rw [hb] at h6
      obtain ⟨rfl, h6, k6⟩ := h6
      have hyl := bodyL_len hb
      obtain ⟨v6, hx6, ho6, hb46, hle6⟩ := h6
      rw [List.nil_append] at ho6
      obtain ⟨a6, q6, rfl⟩ := ownForm ho6
      have hNne : N ≠ w4.heap.size := Nat.ne_of_lt (Array.getElem?_eq_some_iff.1 H4.out.1).1
      have x0 := k6.keep x5 hNne (by decide)
      have x1 := (hb46.block _ (Array.getElem?_eq_some_iff.1 H4.out.2.1).1).trans H4.out.2.1
      have x2 := (hb46.block _ (Array.getElem?_eq_some_iff.1 H4.out.2.2.1).1).trans H4.out.2.2.1
      have l0 := (Array.getElem?_eq_some_iff.1 x0).1
      have p0 := Bel.cell (v := .int .i64 p.kind) (show w6.cell? ⟨N, 0, none⟩ = some (.int .i64 p.kind) from cell_of_row _ _ 0 _ _ _ x0) l0
      have p1 := Bel.cell (v := .int .i64 p.frm) (show w6.cell? ⟨N, 1, none⟩ = some (.int .i64 p.frm) from cell_of_row _ _ 1 _ _ _ x0) l0
      have p2 := Bel.cell (v := .int .i64 p.dst) (show w6.cell? ⟨N, 2, none⟩ = some (.int .i64 p.dst) from cell_of_row _ _ 2 _ _ _ x0) l0
      have pw := Bel.cell (cell_of_row _ _ 0 _ _ _ hx6 : w6.cell? ⟨w4.heap.size, 0, none⟩ = some (.slice a6 y.length q6)) (Array.getElem?_eq_some_iff.1 hx6).1
      obtain ⟨b, hbb⟩ : ∃ b, b = strL y := ⟨_, rfl⟩
      have hconv : ∀ X : Bel w6, (convert 52 9 (.slice a6 y.length q6)).run Try.prog X.val = .ok (.string b) X.val := fun X => by
        rw [hbb]
        exact conv_src (own_src (own_keptS ho6 (Kept.of_below (S := fun _ => False) X.prop) (fun _ _ h => h)))
      have HPr2 := Lib.hid (show ∀ X : Bel w6, Calls Try.prog 31 #[.agg #[.int .i64 p.kind, .int .i64 p.frm, .int .i64 p.dst, .string b]] X.val fun e w' => e = .returned (.tuple #[.string (printS p.kind p.frm p.dst b), .int .i64 (printE p.kind p.frm p.dst b)]) ∧ Below X.val.heap.size X.val w' from fun X => Print_any _ _ _ b X.val (by rw [hbb]; show y.toArray.size ≤ _; simp; omega))
      have HE := Lib.hid (show S = printS p.kind p.frm p.dst b ∧ E = printE p.kind p.frm p.dst b from by rw [if_neg (by simp), if_neg (by simp), hb] at HZ; rw [hbb]; exact HZ.out)
      generalize printS p.kind p.frm p.dst b = s2 at *
      generalize printE p.kind p.frm p.dst b = z2 at *
      have H6 := Lib.hid (And.intro x1 (And.intro x2 (bt H4.out.2.2.2 hb46)))
      clear x0 x1 x2 l0 hx6 ho6 hb46 hle6 k6 x5 hbb hb hyl hNne HBo
      have hbd : ∀ X : World, (Instr.build 56 #[(0, .int .i64 p.kind), (1, .int .i64 p.frm), (2, .int .i64 p.dst), (3, .string b)]).run Try.prog X = .ok (.agg #[.int .i64 p.kind, .int .i64 p.frm, .int .i64 p.dst, .string b]) X := fun X => run_build X 56 _ _ (by kernel_rfl)
      go_upto_region 7 with (fail)
      refine wp_region_bel_tail 15 (by kernel_rfl) (by kernel_rfl) ?_
      simp only [List.take_succ_cons, List.take_zero, List.drop_succ_cons, List.drop_zero]
      iterate 11 (go_big_quiet_step ((fail)))
      refine wpQuiet_build (by rfl) 56 _ rfl #[(0, .int .i64 p.kind), (1, .int .i64 p.frm), (2, .int .i64 p.dst), (3, .string b)] (by simp only [List.map_toArray, List.map_cons, List.map_nil]; rfl) #[.int .i64 p.kind, .int .i64 p.frm, .int .i64 p.dst, .string b] (fun w _ => hbd w) ?_
      go_simp
      repeat (go_big_quiet_step ((go_at_call 31; exact bel_call (HPr2.out _))))
      refine wpQuiet_nil ?_
      intro X
      have x1 := (X.prop.block _ (Array.getElem?_eq_some_iff.1 H6.out.1).1).trans H6.out.1
      have x2 := (X.prop.block _ (Array.getElem?_eq_some_iff.1 H6.out.2.1).1).trans H6.out.2.1
      have hb67 := X.prop
      generalize X.val = w7 at *
      obtain ⟨g1, g2⟩ := two_set (s := .string s2) (c := .int .i64 z2) x1 x2 (by omega)
      have HF := Lib.hid (And.intro g1 (And.intro g2 (show Below w.heap.size w ((w7.setCell ⟨N + 1, 0, none⟩ (.string s2)).setCell ⟨N + 1 + 1, 0, none⟩ (.int .i64 z2)) from by
        have hn := H3.out.2.2.2.2
        exact bs (bs (bt H6.out.2.2 hb67) (p := ⟨N + 1, 0, none⟩) (by rw [hn]; exact Nat.le_succ _) _) (p := ⟨N + 1 + 1, 0, none⟩) (by rw [hn]; simp only; omega) _)))
      have e1 : w7.cell? ⟨N + 1, 0, none⟩ = some (.string ⟨#[]⟩) := cell_of_row _ _ 0 _ _ _ x1
      have e2 : w7.cell? ⟨N + 1 + 1, 0, none⟩ = some (.int .i64 0) := cell_of_row _ _ 0 _ _ _ x2
      have f1 : w7.frozen? ⟨N + 1, 0, none⟩ = false := frozen_of_row _ _ _ _ _ x1
      have f2 : w7.frozen? ⟨N + 1 + 1, 0, none⟩ = false := frozen_of_row _ _ _ _ _ x2
      clear x1 x2 g1 g2 hb67 p0 p1 p2 pw hconv HPr2
      go_wp2_with fail
      refine leaves_cons (f := 32) (args := #[.pointer (some ⟨N + 1, 0, none⟩), .pointer (some ⟨N + 1 + 1, 0, none⟩)]) (by simp) (by simp [go_sem]) ?_
      refine (printD_ret ⟨N + 1, 0, none⟩ ⟨N + 1 + 1, 0, none⟩ _).mono ?_
      rintro e u' w'' ⟨rfl, rfl, rfl⟩
      exact ⟨_, print_res (a := ⟨N + 1, 0, none⟩) (b := ⟨N + 1 + 1, 0, none⟩) (by rfl) (by rfl) HF.out.1 HF.out.2.1, by rw [HE.out.1, HE.out.2], HF.out.2.2⟩
  · have hz2 : (z != 0) = true := by simpa using hz
    have d1 : w4.cell? ⟨N + 1, 0, none⟩ = some (.string ⟨#[]⟩) := cell_of_row _ _ 0 _ _ _ H4.out.2.1
    have d2 : w4.cell? ⟨N + 1 + 1, 0, none⟩ = some (.int .i64 0) := cell_of_row _ _ 0 _ _ _ H4.out.2.2.1
    have f1 : w4.frozen? ⟨N + 1, 0, none⟩ = false := frozen_of_row _ _ _ _ _ H4.out.2.1
    have f2 : w4.frozen? ⟨N + 1 + 1, 0, none⟩ = false := frozen_of_row _ _ _ _ _ H4.out.2.2.1
    have HE := Lib.hid (show S = ⟨#[]⟩ ∧ E = z from by rw [if_pos hz, if_pos hz] at HZ; exact HZ.out)
    have HB := Lib.hid (show Below w.heap.size w ((w4.setCell ⟨N + 1, 0, none⟩ (.string ⟨#[]⟩)).setCell ⟨N + 1 + 1, 0, none⟩ (.int .i64 z)) from by
      have hn := H3.out.2.2.2.2
      exact bs (bs H4.out.2.2.2 (p := ⟨N + 1, 0, none⟩) (by rw [hn]; exact Nat.le_succ _) _) (p := ⟨N + 1 + 1, 0, none⟩) (by rw [hn]; simp only; omega) _)
    go_wp2_with fail
    obtain ⟨g1, g2⟩ := two_set (s := .string ⟨#[]⟩) (c := .int .i64 z) H4.out.2.1 H4.out.2.2.1 (by omega)
    exact ⟨_, print_res (a := ⟨N + 1, 0, none⟩) (b := ⟨N + 1 + 1, 0, none⟩) (by rfl) (by rfl) g1 g2, by rw [HE.out.1, HE.out.2], HB.out⟩
end Go.Proofs.Ytgpojbmloielmaa
