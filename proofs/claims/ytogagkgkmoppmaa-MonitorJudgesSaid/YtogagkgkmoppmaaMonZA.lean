/-
  An argument that is a trace: its events, their vectors, each within the reach.
  Conditions: it is read, and within the form's own reach.
-/
import Derived.Test.YtogagkgkmoppmaaMonZ
import Derived.SizedLaws
import Derived.Deep.Slices
import Derived.ChangeArms
import Derived.ChangeShapes
import Derived.WideShapes
namespace Go.Proofs.Ytogagkgkmoppmaa
set_option linter.unusedVariables false
set_option linter.unusedSimpArgs false
open Go.RowKit
def NumsRd (w0 : World) (da : Option Addr) (ds : List Nat) : Prop := ds.length ≤ 35184372087808 ∧ ∀ i (h : i < ds.length), ds[i] < 4294967296 ∧ ∃ b o, da = some ⟨b, o, none⟩ ∧ b < w0.heap.size ∧ w0.cell? ⟨b, o + i, none⟩ = some (.int .u32 (ds[i] : Int))
theorem NumsRd.nil (w : World) : NumsRd w none [] := ⟨by simp, fun i h => absurd h (by simp)⟩
theorem add_at (b o i : Nat) : (⟨b, o, none⟩ : Addr).add i = ⟨b, o + i, none⟩ := by unfold Addr.add; split <;> simp_all
theorem NumsRd.reads {w : World} {da : Option Addr} {ds : List Nat} (h : NumsRd w da ds) : Reads w w.heap.size 1 da ds.length (numsM ds) := by
  refine ⟨by rw [numsM_len]; omega, fun hn => ?_⟩
  obtain ⟨_, B, O, e, hB, _⟩ := h.2 0 hn
  refine ⟨_, e, hB, fun j u hu => ?_⟩
  have hj : j < ds.length := by have := (List.getElem?_eq_some_iff.1 hu).1; rwa [numsM_len] at this
  obtain ⟨_, B', O', e', _, hc⟩ := h.2 j hj
  rw [e] at e'
  injection e' with e'
  injection e' with e1 e2
  subst e1; subst e2
  unfold numsM at hu
  rw [List.getElem?_map, List.getElem?_eq_getElem hj] at hu
  injection hu with hu
  rw [← hu, ← hc]
  congr 1
  unfold Addr.add
  split <;> simp_all
def MsgRd (w : World) (m : Msg) : Prop := m.pay.size ≤ 140737488351232 ∧ m.seq < 4294967296 ∧ m.stamp < 18446744073709551616 ∧ NumsRd w m.da m.ds
section
open Go.ChangeShapes Go.WideShapes Go.Deep
variable {H : Type} {enc : TypeId × Value → H} {w : World} {base : Nat} {spare : Nat → Bool} {held : Bool}
def WSz (P : Program) (t : TypeId) (d : DataW H) : Prop := ∀ n ∈ d.weights P t, n ≤ reachBytes
theorem sz_field {P : Program} {t : TypeId} {fs : Array Field} (hu : P.underlying t = some (.struct fs)) {xs : List (DataW H × List MemPlace)} (hz : WSz P t (.agg (xs.map (·.1)))) (j : Nat) {f : Field} {y : DataW H × List MemPlace} (hf : fs[j]? = some f) (hy : xs[j]? = some y) : WSz P f.type y.1 := by
  intro n hn
  refine hz n ?_
  simp only [DataW.weights, hu]
  exact DataW.weights_mem_each (j := j) (by simp [hf]) (by simp [hy]) n hn
theorem weightsAll_mem {P : Program} {e : TypeId} : ∀ {ds : List (DataW H)} {d : DataW H}, d ∈ ds → ∀ n ∈ d.weights P e, n ∈ DataW.weightsAll P e ds
  | d0 :: ds, d, hd, n, hn => by
    simp only [DataW.weightsAll, List.mem_append]
    rcases List.mem_cons.1 hd with rfl | hd
    · exact .inl hn
    · exact .inr (weightsAll_mem hd n hn)
theorem sz_elems {P : Program} {t e : TypeId} (hu : P.underlying t = some (.slice e)) {a b : List (DataW H)} (hz : WSz P t (.slice a b)) : (a.length + b.length) * P.bytesOf e ≤ reachBytes ∧ ∀ d ∈ a, WSz P e d := by
  constructor
  · exact hz _ (by simp [DataW.weights, hu])
  · intro d hd n hn
    refine hz n ?_
    simp only [DataW.weights, hu, List.mem_cons, List.mem_append]
    exact .inr (.inl (weightsAll_mem hd n hn))
theorem blk_lt {w : World} {p : Addr} {v : Value} (h : w.cell? p = some v) : p.block < w.heap.size := by
  rcases Nat.lt_or_ge p.block w.heap.size with h' | h'
  · exact h'
  · obtain ⟨b, o, s⟩ := p
    simp [World.cell?, Array.getElem?_eq_none h'] at h
theorem bytes32 : Try.prog.bytesOf 31 = 4 := by kernel_rfl
set_option maxRecDepth 100000 in
theorem vec_of {fuel : Nat} {v : Value} {x : DataW H × List MemPlace} (h : DataW.trod enc Try.prog w base spare held fuel 32 [v] = some x) (hz : WSz Try.prog 32 x.1) :
    ∃ (ad : Option Addr) (ds : List Nat) (cap : Nat), v = .slice ad ds.length cap ∧ NumsRd w ad ds := by
  have h1 : Try.prog.cellsOf 31 = 1 := by kernel_rfl
  rcases open_slice Try.underlying32 h with ⟨h0, _⟩ | ⟨a, len, cap, m, n, D, Pl, h0, hb, hl, hm, hmm, hxx, hx⟩
  · simp at h0
    subst h0
    exact ⟨none, [], 0, rfl, NumsRd.nil w⟩
  · simp at h0
    subst h0
    have hlm : len ≤ m := by rw [hmm]; split <;> omega
    rw [hxx] at hz
    have hlen4 : len * 4 ≤ 140737488351232 := by
      have := (sz_elems Try.underlying32 hz).1
      rw [bytes32] at this
      simp [reachBytes] at this
      omega
    have each : ∀ i, i < len → ∃ x : Nat, w.cell? (a.add i) = some (.int .u32 (x : Int)) ∧ x < 4294967296 := by
      intro i hi
      obtain ⟨cs', hc1, hc2⟩ := hx i (by omega)
      rw [h1, Nat.mul_one] at hc1
      obtain ⟨_, hlen, hcell⟩ := World.cells?_some hc1
      match cs', hlen with
      | [u], _ =>
        obtain ⟨z, e, _, hz⟩ := DataW.trod_int Try.underlying31 hc2
        simp at e
        subst e
        have hz2 : 0 ≤ z ∧ z ≤ 4294967295 := by have := hz; simp [Lit.wf, IntKind.min, IntKind.max, IntKind.signed, IntKind.bits] at this; exact this
        have := hcell 0 (by simp)
        simp [Addr.add] at this
        exact ⟨z.toNat, by rw [show ((z.toNat : Nat) : Int) = z from by omega]; simpa [Addr.add] using this, by omega⟩
    obtain ⟨q, hq⟩ := choose_lt each
    have hl2 : ((List.range len).map q).length ≤ 35184372087808 := by simp; omega
    clear hlen4
    refine ⟨some a, (List.range len).map q, cap, by simp, hl2, fun i hi => ?_⟩
    clear hl2
    have hi' : i < len := by simpa using hi
    obtain ⟨b, off, spot⟩ := a
    have hz := (hq 0 (by omega)).1
    have hspot : spot = none := by simpa [Addr.add] using World.cell?_spot hz
    subst hspot
    rw [List.getElem_map, List.getElem_range]
    refine ⟨(hq i hi').2, b, off, rfl, ?_, ?_⟩
    · have := blk_lt hz; rw [add_at] at this; exact this
    · have := (hq i hi').1; rw [add_at] at this; exact this
theorem u64_nat {a : Int} (h : (Lit.int .u64 a).wf = true) : ∃ n : Nat, a = (n : Int) ∧ n < 18446744073709551616 := by
  have hn2 : 0 ≤ a ∧ a ≤ 18446744073709551615 := by have := h; simp [Lit.wf, IntKind.min, IntKind.max, IntKind.signed, IntKind.bits] at this; exact this
  exact ⟨a.toNat, by omega, by omega⟩
theorem u32_nat {a : Int} (h : (Lit.int .u32 a).wf = true) : ∃ n : Nat, a = (n : Int) ∧ n < 4294967296 := by
  have hn2 : 0 ≤ a ∧ a ≤ 4294967295 := by have := h; simp [Lit.wf, IntKind.min, IntKind.max, IntKind.signed, IntKind.bits] at this; exact this
  exact ⟨a.toNat, by omega, by omega⟩
set_option maxRecDepth 100000 in
theorem two_of {t : TypeId} {o1 o2 : Nat} {f1 f2 : Field} {v0 v1 : Value} {fuel : Nat} {x : DataW H × List MemPlace} (ht : Try.prog.underlying t = some (.struct #[f1, f2])) (t1 : f1.type = 28) (t2 : f2.type = 3) (ho1 : f1.offset = 0) (ho2 : f2.offset = 1)
    (h : DataW.trod enc Try.prog w base spare held fuel t [v0, v1] = some x) : ∃ (a : Nat) (b : Int), v0 = .int .u64 (a : Int) ∧ v1 = .int .i64 b ∧ a < 18446744073709551616 := by
  obtain ⟨xs, k, hk, hxy, _, hxl, hf⟩ := DataW.trod_struct ht h
  have c1 : Try.prog.cellsOf 28 = 1 := by kernel_rfl
  have c2 : Try.prog.cellsOf 3 = 1 := by kernel_rfl
  match xs, hxl with
  | [y0, y1], _ =>
    have g0 := hf 0 _ rfl
    have g1 := hf 1 _ rfl
    simp [c1, c2, t1, t2, ho1, ho2] at g0 g1
    obtain ⟨a, e0, _, hn⟩ := DataW.trod_int Try.underlying28 g0
    obtain ⟨b, e1, _⟩ := DataW.trod_int Try.underlying3 g1
    simp at e0 e1
    obtain ⟨n, rfl, hn2⟩ := u64_nat hn
    exact ⟨n, b, e0, e1, hn2⟩
set_option maxRecDepth 100000 in
theorem mes_of {fuel : Nat} {cs : List Value} {x : DataW H × List MemPlace} (hl : cs.length = 6) (h : DataW.trod enc Try.prog w base spare held fuel 34 cs = some x) (hz : WSz Try.prog 34 x.1) :
    ∃ m : Msg, cs = (msgA m).toList ∧ MsgRd w m := by
  obtain ⟨xs, k, hk, hxy, _, hxl, hf⟩ := DataW.trod_struct Try.underlying34 h
  rw [hxy] at hz
  have c1 : Try.prog.cellsOf 28 = 1 := by kernel_rfl
  have c2 : Try.prog.cellsOf 3 = 1 := by kernel_rfl
  have c3 : Try.prog.cellsOf 9 = 1 := by kernel_rfl
  have c4 : Try.prog.cellsOf 31 = 1 := by kernel_rfl
  have c5 : Try.prog.cellsOf 32 = 1 := by kernel_rfl
  match xs, hxl, cs, hl with
  | [y0, y1, y2, y3, y4, y5], _, [v0, v1, v2, v3, v4, v5], _ =>
    have g0 := hf 0 _ rfl
    have g1 := hf 1 _ rfl
    have g2 := hf 2 _ rfl
    have g3 := hf 3 _ rfl
    have g4 := hf 4 _ rfl
    have g5 := hf 5 _ rfl
    simp [c1, c2, c3, c4, c5] at g0 g1 g2 g3 g4 g5
    have hU := Try.underlying34
    obtain ⟨a0, e0, _⟩ := DataW.trod_int Try.underlying3 g0
    obtain ⟨a1, e1, _, hq⟩ := DataW.trod_int Try.underlying31 g1
    obtain ⟨a2, e2, _, hn⟩ := DataW.trod_int Try.underlying28 g2
    obtain ⟨a3, e3, _⟩ := DataW.trod_int Try.underlying3 g3
    obtain ⟨ad, ds, dc, e4, hd⟩ := vec_of g4 (sz_field hU hz 4 rfl rfl)
    obtain ⟨a5, e5, ey5, _⟩ := DataW.trod_string Try.underlying9 g5
    have hs5 : a5.size ≤ 140737488351232 := by
      have h5 : WSz Try.prog 9 y5.1 := sz_field hU hz 5 rfl rfl
      rw [ey5] at h5
      have := h5 a5.data.toList.length (by simp [DataW.weights])
      simp [reachBytes] at this
      exact this
    simp at e0 e1 e2 e3 e5
    obtain ⟨n2, rfl, hn2⟩ := u64_nat hn
    obtain ⟨n1, rfl, hn1⟩ := u32_nat hq
    subst e0 e1 e2 e3 e4 e5
    exact ⟨⟨a0, n1, n2, a3, ds, a5, ad, dc⟩, rfl, hs5, hn1, hn2, hd⟩
theorem bytesE : Try.prog.bytesOf 39 = 200 := by kernel_rfl
theorem bytesN : Try.prog.bytesOf 132 = 16 := by kernel_rfl
instance : Inhabited Ev := ⟨⟨0, 0, 0, 0, 0, 0, 0, ⟨0, 0, 0, 0, [], ⟨#[]⟩, none, 0⟩, 0, 0, 0, 0, none, 0, 0, ⟨#[]⟩⟩⟩
set_option maxRecDepth 100000 in
theorem view_of {fuel : Nat} {v0 v1 v2 v3 : Value} {x : DataW H × List MemPlace} (h : DataW.trod enc Try.prog w base spare held fuel 36 [v0, v1, v2, v3] = some x) : ∃ (a b : Nat) (c : Int) (d : Nat), v0 = .int .u64 (a : Int) ∧ v1 = .int .u64 (b : Int) ∧ v2 = .int .i64 c ∧ v3 = .int .u64 (d : Int) := by
  obtain ⟨xs, k, hk, hxy, _, hxl, hf⟩ := DataW.trod_struct Try.underlying36 h
  have c1 : Try.prog.cellsOf 28 = 1 := by kernel_rfl
  have c2 : Try.prog.cellsOf 30 = 2 := by kernel_rfl
  match xs, hxl with
  | [y0, y1, y2], _ =>
    have g0 := hf 0 _ rfl
    have g1 := hf 1 _ rfl
    have g2 := hf 2 _ rfl
    simp [c1, c2] at g0 g1 g2
    obtain ⟨a, e0, _, h0⟩ := DataW.trod_int Try.underlying28 g0
    obtain ⟨b1, b2, e1, e2, hb⟩ := two_of (o1 := 0) (o2 := 0) Try.underlying30 rfl rfl rfl rfl g1
    obtain ⟨d, e3, _, h3⟩ := DataW.trod_int Try.underlying28 g2
    simp at e0 e3
    obtain ⟨n0, rfl, _⟩ := u64_nat h0
    obtain ⟨n3, rfl, _⟩ := u64_nat h3
    exact ⟨n0, b1, b2, n3, e0, e1, e2, e3⟩
set_option maxRecDepth 100000 in
theorem names_of {fuel : Nat} {v : Value} {x : DataW H × List MemPlace} (h : DataW.trod enc Try.prog w base spare held fuel 37 [v] = some x) (hz : WSz Try.prog 37 x.1) : ∃ (ad : Option Addr) (n cap : Nat), v = .slice ad n cap ∧ n ≤ 140737488351232 := by
  rcases open_slice Try.underlying37 h with ⟨h0, _⟩ | ⟨a, len, cap, m, n, D, Pl, h0, hb, hl, hm, hmm, hxx, hx⟩
  · simp at h0
    subst h0
    exact ⟨none, 0, 0, rfl, by omega⟩
  · simp at h0
    subst h0
    have hlm : len ≤ m := by rw [hmm]; split <;> omega
    rw [hxx] at hz
    have := (sz_elems Try.underlying37 hz).1
    rw [bytesN] at this
    simp [reachBytes] at this
    exact ⟨_, _, _, rfl, by omega⟩
set_option maxRecDepth 100000 in
theorem ev_of {fuel : Nat} {cs : List Value} {x : DataW H × List MemPlace} (hl : cs.length = 19) (h : DataW.trod enc Try.prog w base spare held fuel 39 cs = some x) (hz : WSz Try.prog 39 x.1) : ∃ y : Ev, cs = (evA y).toList ∧ EvOk w y := by
  obtain ⟨xs, k, hk, hxy, _, hxl, hf⟩ := DataW.trod_struct Try.underlying39 h
  rw [hxy] at hz
  have ci : Try.prog.cellsOf 3 = 1 := by kernel_rfl
  have cc : Try.prog.cellsOf 30 = 2 := by kernel_rfl
  have cm : Try.prog.cellsOf 34 = 6 := by kernel_rfl
  have c8 : Try.prog.cellsOf 28 = 1 := by kernel_rfl
  have cv : Try.prog.cellsOf 36 = 4 := by kernel_rfl
  have cn : Try.prog.cellsOf 37 = 1 := by kernel_rfl
  have cst : Try.prog.cellsOf 9 = 1 := by kernel_rfl
  obtain ⟨y0, y1, y2, y3, y4, y5, y6, y7, y8, rfl⟩ : ∃ y0 y1 y2 y3 y4 y5 y6 y7 y8, xs = [y0, y1, y2, y3, y4, y5, y6, y7, y8] := by
    match xs, hxl with
    | [y0, y1, y2, y3, y4, y5, y6, y7, y8], _ => exact ⟨y0, y1, y2, y3, y4, y5, y6, y7, y8, rfl⟩
  obtain ⟨v0, v1, v2, v3, v4, v5, v6, v7, v8, v9, v10, v11, v12, v13, v14, v15, v16, v17, v18, rfl⟩ : ∃ v0 v1 v2 v3 v4 v5 v6 v7 v8 v9 v10 v11 v12 v13 v14 v15 v16 v17 v18, cs = [v0, v1, v2, v3, v4, v5, v6, v7, v8, v9, v10, v11, v12, v13, v14, v15, v16, v17, v18] := by
    match cs, hl with
    | [v0, v1, v2, v3, v4, v5, v6, v7, v8, v9, v10, v11, v12, v13, v14, v15, v16, v17, v18], _ => exact ⟨v0, v1, v2, v3, v4, v5, v6, v7, v8, v9, v10, v11, v12, v13, v14, v15, v16, v17, v18, rfl⟩
  have g0 := hf 0 _ rfl
  have g1 := hf 1 _ rfl
  have g2 := hf 2 _ rfl
  have g3 := hf 3 _ rfl
  have g4 := hf 4 _ rfl
  have g5 := hf 5 _ rfl
  have g6 := hf 6 _ rfl
  have g7 := hf 7 _ rfl
  have g8 := hf 8 _ rfl
  simp [ci, cc, cm, c8, cv, cn, cst] at g0 g1 g2 g3 g4 g5 g6 g7 g8
  have hU := Try.underlying39
  obtain ⟨a0, e0, _⟩ := DataW.trod_int Try.underlying3 g0
  obtain ⟨a1, e1, _⟩ := DataW.trod_int Try.underlying3 g1
  obtain ⟨a2, a3, e2, e3, _⟩ := two_of (o1 := 0) (o2 := 0) Try.underlying30 rfl rfl rfl rfl g2
  obtain ⟨a4, a5, e4, e5, _⟩ := two_of (o1 := 0) (o2 := 0) Try.underlying30 rfl rfl rfl rfl g3
  obtain ⟨a6, e6, _, h6⟩ := DataW.trod_int Try.underlying28 g4
  obtain ⟨m, em, hm⟩ := mes_of (by rfl) g5 (sz_field hU hz 5 rfl rfl)
  obtain ⟨b0, b1, b2, b3, e13, e14, e15, e16⟩ := view_of g6
  obtain ⟨na, nl, nc, e17, hnl⟩ := names_of g7 (sz_field hU hz 7 rfl rfl)
  obtain ⟨st, e18, ey8, _⟩ := DataW.trod_string Try.underlying9 g8
  have hs8 : st.size ≤ 140737488351232 := by
    have h8 : WSz Try.prog 9 y8.1 := sz_field hU hz 8 rfl rfl
    rw [ey8] at h8
    have := h8 st.data.toList.length (by simp [DataW.weights])
    simp [reachBytes] at this
    exact this
  simp at e0 e1 e6 e18
  obtain ⟨n6, rfl, _⟩ := u64_nat h6
  have em' : [v7, v8, v9, v10, v11, v12] = (msgA m).toList := em
  simp only [msgA, List.cons.injEq, and_true] at em'
  obtain ⟨m7, m8, m9, m10, m11, m12⟩ := em'
  refine ⟨⟨a0, a1, a2, a3, a4, a5, n6, m, b0, b1, b2, b3, na, nl, nc, st⟩, ?_, ?_⟩
  · rw [e0, e1, e2, e3, e4, e5, e6, m7, m8, m9, m10, m11, m12, e13, e14, e15, e16, e17, e18]
    rfl
  · exact ⟨hm.2.2.2.reads, fun q hq => by
      obtain ⟨i, hi, rfl⟩ := List.mem_iff_getElem.1 hq
      exact (hm.2.2.2.2 i hi).1, hm.2.2.2.1, hm.1, hs8, hnl⟩
set_option maxRecDepth 100000 in
theorem evs_arg {r : Go.Reach} {b0 : Nat} {v : Value} {d : DataW H} {pl : List MemPlace} (hv : Value.okWide Try.prog w r b0 22 v) (h : DataW.Trod enc Try.prog w base spare held 22 v d pl) (hz : WSz Try.prog 22 d) :
    ∃ (ad : Option Addr) (l : List Ev) (cap : Nat), v = .slice ad l.length cap ∧ EvsAt w ad l := by
  obtain ⟨fuel, hf⟩ := h
  obtain ⟨a', len', cap', rfl⟩ := okWide_slice Try.underlying22 hv
  have hcs : (Value.slice a' len' cap').cells.toList = [Value.slice a' len' cap'] := by simp [Value.cells]
  have h19 : Try.prog.cellsOf 39 = 19 := by kernel_rfl
  rcases open_slice Try.underlying22 hf with ⟨h0, _⟩ | ⟨a, len, cap, m, n, D, Pl, h0, hb, hl, hm, hmm, hxx, hx⟩
  · rw [hcs] at h0
    simp at h0
    obtain ⟨_, rfl, _⟩ := h0
    exact ⟨_, [], _, rfl, by simp, fun i h => absurd h (by simp)⟩
  · rw [hcs] at h0
    simp at h0
    obtain ⟨rfl, rfl, rfl⟩ := h0
    have hlm : len' ≤ m := by rw [hmm]; split <;> omega
    have hd : d = _ := congrArg Prod.fst hxx
    rw [hd] at hz
    have hsz := sz_elems Try.underlying22 hz
    have hlen4 : len' ≤ 140737488351232 := by
      have := hsz.1
      rw [bytesE] at this
      simp [reachBytes] at this
      omega
    have each : ∀ i, i < len' → ∃ y : Ev, (∀ j u, (evA y).toList[j]? = some u → w.cell? ((a.add (i * 19)).add j) = some u) ∧ EvOk w y := by
      intro i hi
      obtain ⟨cs', h1, h2⟩ := hx i (by omega)
      rw [h19] at h1
      obtain ⟨_, hlen, hcell⟩ := World.cells?_some h1
      obtain ⟨y, e, hq⟩ := ev_of hlen h2 (hsz.2 _ (List.mem_map.2 ⟨i, List.mem_range.2 hi, rfl⟩))
      refine ⟨y, fun j u hu => ?_, hq⟩
      rw [← e] at hu
      have hj : j < 19 := by have := (List.getElem?_eq_some_iff.1 hu).1; omega
      exact (hcell j hj).trans hu
    obtain ⟨q, hq⟩ := choose_lt each
    have hl2 : ((List.range len').map q).length ≤ 140737488351232 := by simpa using hlen4
    clear hlen4
    refine ⟨some a, (List.range len').map q, cap', by simp, hl2, fun i hi => ?_⟩
    clear hl2 hz hsz
    have hi' : i < len' := by simpa using hi
    obtain ⟨b, off, spot⟩ := a
    have hz := (hq 0 (by omega)).1 0 _ rfl
    have hspot : spot = none := by simpa [Addr.add] using World.cell?_spot hz
    subst hspot
    rw [List.getElem_map, List.getElem_range]
    refine ⟨b, off, rfl, ?_, ?_, (hq i hi').2⟩
    · have := blk_lt hz; rw [add_at, add_at] at this; exact this
    · intro j u hu
      have := (hq i hi').1 j u hu
      rw [add_at, add_at] at this
      exact this
set_option maxRecDepth 100000 in
theorem monitorStays_row {r : Go.Reach} {b0 : Nat} {d : DataW H} {pl : List MemPlace} (v : Value) (w : World) (hv : Value.okWide Try.prog w r b0 22 v) (h : DataW.Trod enc Try.prog w base spare held 22 v d pl) (hz : ∀ n ∈ d.weights Try.prog 22, n ≤ reachBytes) :
    Calls Try.prog 3 #[v] w fun e w' => e = .returned (.bool true) ∧ Below w.heap.size w w' := by
  obtain ⟨ad, l, cap, rfl, hp⟩ := evs_arg hv h hz
  exact law_monitorStays w ad cap l hp
end
end Go.Proofs.Ytogagkgkmoppmaa
