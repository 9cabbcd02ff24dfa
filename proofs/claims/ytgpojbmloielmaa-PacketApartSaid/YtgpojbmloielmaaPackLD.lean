/-
  An argument that is a packet: its cells, its vectors, its exchanges, each within the reach.
  Conditions: it is read, and within the form's own reach.
-/
import Derived.Test.YtgpojbmloielmaaPackLC
import Derived.SizedLaws
import Derived.Deep.Slices
import Derived.ChangeArms
import Derived.ChangeShapes
import Derived.WideShapes
namespace Go.Proofs.Ytgpojbmloielmaa
set_option linter.unusedVariables false
set_option linter.unusedSimpArgs false
open Go.RowKit
section
open Go.ChangeShapes Go.WideShapes Go.Deep
variable {H : Type} {enc : TypeId × Value → H} {w : World} {base : Nat} {spare : Nat → Bool} {held : Bool}
def Sz (P : Program) (t : TypeId) (d : DataW H) : Prop := ∀ n ∈ d.weights P t, n ≤ reachBytes
theorem sz_field {P : Program} {t : TypeId} {fs : Array Field} (hu : P.underlying t = some (.struct fs)) {xs : List (DataW H × List MemPlace)} (hz : Sz P t (.agg (xs.map (·.1)))) (j : Nat) {f : Field} {y : DataW H × List MemPlace} (hf : fs[j]? = some f) (hy : xs[j]? = some y) : Sz P f.type y.1 := by
  intro n hn
  refine hz n ?_
  simp only [DataW.weights, hu]
  exact DataW.weights_mem_each (j := j) (by simp [hf]) (by simp [hy]) n hn
theorem weightsAll_mem {P : Program} {e : TypeId} : ∀ {ds : List (DataW H)} {d : DataW H}, d ∈ ds → ∀ n ∈ d.weights P e, n ∈ DataW.weightsAll P e ds
  | d0 :: ds, d, hd, n, hn => by
    simp only [DataW.weightsAll, List.mem_append]
    rcases List.mem_cons.1 hd with rfl | hd
    · exact .inl hn
    · exact .inr (weightsAll_mem hd n hn)
theorem sz_elems {P : Program} {t e : TypeId} (hu : P.underlying t = some (.slice e)) {a b : List (DataW H)} (hz : Sz P t (.slice a b)) : (a.length + b.length) * P.bytesOf e ≤ reachBytes ∧ ∀ d ∈ a, Sz P e d := by
  constructor
  · exact hz _ (by simp [DataW.weights, hu])
  · intro d hd n hn
    refine hz n ?_
    simp only [DataW.weights, hu, List.mem_cons, List.mem_append]
    exact .inr (.inl (weightsAll_mem hd n hn))
theorem blk_lt {w : World} {p : Addr} {v : Value} (h : w.cell? p = some v) : p.block < w.heap.size := by
  rcases Nat.lt_or_ge p.block w.heap.size with h' | h'
  · exact h'
  · obtain ⟨b, o, s⟩ := p
    simp [World.cell?, Array.getElem?_eq_none h'] at h
theorem bytes32 : Try.prog.bytesOf 29 = 4 := by kernel_rfl
theorem bytesX : Try.prog.bytesOf 51 = 64 := by kernel_rfl
instance : Inhabited Exch := ⟨zeroX⟩
set_option maxRecDepth 100000 in
/-- a vector of numbers -/
theorem vec_of {fuel : Nat} {v : Value} {x : DataW H × List MemPlace} (h : DataW.trod enc Try.prog w base spare held fuel 30 [v] = some x) (hz : Sz Try.prog 30 x.1) :
    ∃ (ad : Option Addr) (ds : List Nat) (cap : Nat), v = .slice ad ds.length cap ∧ NumsOk w ad ds := by
  have h1 : Try.prog.cellsOf 29 = 1 := by kernel_rfl
  rcases open_slice Try.underlying30 h with ⟨h0, _⟩ | ⟨a, len, cap, m, n, D, Pl, h0, hb, hl, hm, hmm, hxx, hx⟩
  · simp at h0
    subst h0
    exact ⟨none, [], 0, rfl, .nil w⟩
  · simp at h0
    subst h0
    have hlm : len ≤ m := by rw [hmm]; split <;> omega
    rw [hxx] at hz
    have hlen4 : len * 4 ≤ 140737488351232 := by
      have := (sz_elems Try.underlying30 hz).1
      rw [bytes32] at this
      simp [reachBytes] at this
      omega
    have each : ∀ i, i < len → ∃ x : Nat, w.cell? (a.add i) = some (.int .u32 (x : Int)) ∧ x < 4294967296 := by
      intro i hi
      obtain ⟨cs', hc1, hc2⟩ := hx i (by omega)
      rw [h1, Nat.mul_one] at hc1
      obtain ⟨_, hlen, hcell⟩ := World.cells?_some hc1
      match cs', hlen with
      | [u], _ =>
        obtain ⟨z, e, _, hz⟩ := DataW.trod_int Try.underlying29 hc2
        simp at e
        subst e
        have hz2 : 0 ≤ z ∧ z ≤ 4294967295 := by have := hz; simp [Lit.wf, IntKind.min, IntKind.max, IntKind.signed, IntKind.bits] at this; exact this
        have := hcell 0 (by simp)
        simp [Addr.add] at this
        exact ⟨z.toNat, by rw [show ((z.toNat : Nat) : Int) = z from by omega]; simpa [Addr.add] using this, by omega⟩
    obtain ⟨q, hq⟩ := choose_lt each
    have hl2 : ((List.range len).map q).length ≤ 35184372087808 := by simp; omega
    clear hlen4
    refine ⟨some a, (List.range len).map q, cap, by simp, hl2, fun i hi => ?_⟩
    clear hl2
    have hi' : i < len := by simpa using hi
    obtain ⟨b, off, spot⟩ := a
    have hz := (hq 0 (by omega)).1
    have hspot : spot = none := by simpa [Addr.add] using World.cell?_spot hz
    subst hspot
    rw [List.getElem_map, List.getElem_range]
    refine ⟨(hq i hi').2, b, off, rfl, ?_, ?_⟩
    · have := blk_lt hz; rw [add_at] at this; exact this
    · have := (hq i hi').1; rw [add_at] at this; exact this
theorem u64_nat {a : Int} (h : (Lit.int .u64 a).wf = true) : ∃ n : Nat, a = (n : Int) ∧ n < 18446744073709551616 := by
  have hn2 : 0 ≤ a ∧ a ≤ 18446744073709551615 := by have := h; simp [Lit.wf, IntKind.min, IntKind.max, IntKind.signed, IntKind.bits] at this; exact this
  exact ⟨a.toNat, by omega, by omega⟩
theorem u32_nat {a : Int} (h : (Lit.int .u32 a).wf = true) : ∃ n : Nat, a = (n : Int) ∧ n < 4294967296 := by
  have hn2 : 0 ≤ a ∧ a ≤ 4294967295 := by have := h; simp [Lit.wf, IntKind.min, IntKind.max, IntKind.signed, IntKind.bits] at this; exact this
  exact ⟨a.toNat, by omega, by omega⟩
set_option maxRecDepth 100000 in
theorem two_of {t : TypeId} {o1 o2 : Nat} {f1 f2 : Field} {v0 v1 : Value} {fuel : Nat} {x : DataW H × List MemPlace} (ht : Try.prog.underlying t = some (.struct #[f1, f2])) (t1 : f1.type = 26) (t2 : f2.type = 3) (ho1 : f1.offset = 0) (ho2 : f2.offset = 1)
    (h : DataW.trod enc Try.prog w base spare held fuel t [v0, v1] = some x) : ∃ (a : Nat) (b : Int), v0 = .int .u64 (a : Int) ∧ v1 = .int .i64 b ∧ a < 18446744073709551616 := by
  obtain ⟨xs, k, hk, hxy, _, hxl, hf⟩ := DataW.trod_struct ht h
  have c1 : Try.prog.cellsOf 26 = 1 := by kernel_rfl
  have c2 : Try.prog.cellsOf 3 = 1 := by kernel_rfl
  match xs, hxl with
  | [y0, y1], _ =>
    have g0 := hf 0 _ rfl
    have g1 := hf 1 _ rfl
    simp [c1, c2, t1, t2, ho1, ho2] at g0 g1
    obtain ⟨a, e0, _, hn⟩ := DataW.trod_int Try.underlying26 g0
    obtain ⟨b, e1, _⟩ := DataW.trod_int Try.underlying3 g1
    simp at e0 e1
    obtain ⟨n, rfl, hn2⟩ := u64_nat hn
    exact ⟨n, b, e0, e1, hn2⟩
set_option maxRecDepth 100000 in
theorem ex_of {fuel : Nat} {cs : List Value} {x : DataW H × List MemPlace} (hl : cs.length = 6) (h : DataW.trod enc Try.prog w base spare held fuel 51 cs = some x) (hz : Sz Try.prog 51 x.1) :
    ∃ y : Exch, cs = (exA y).toList ∧ ExW w y := by
  obtain ⟨xs, k, hk, hxy, _, hxl, hf⟩ := DataW.trod_struct Try.underlying51 h
  rw [hxy] at hz
  have c1 : Try.prog.cellsOf 28 = 2 := by kernel_rfl
  have c2 : Try.prog.cellsOf 3 = 1 := by kernel_rfl
  have c3 : Try.prog.cellsOf 30 = 1 := by kernel_rfl
  have c4 : Try.prog.cellsOf 49 = 2 := by kernel_rfl
  match xs, hxl, cs, hl with
  | [y0, y1, y2, y3], _, [v0, v1, v2, v3, v4, v5], _ =>
    have g0 := hf 0 _ rfl
    have g1 := hf 1 _ rfl
    have g2 := hf 2 _ rfl
    have g3 := hf 3 _ rfl
    simp [c1, c2, c3, c4] at g0 g1 g2 g3
    obtain ⟨a0, e0, _⟩ := DataW.trod_int Try.underlying3 g0
    obtain ⟨b1, b2, e1, e2, hb⟩ := two_of (o1 := 0) (o2 := 0) Try.underlying28 rfl rfl rfl rfl g1
    obtain ⟨ad, ds, cap, e3, hd⟩ := vec_of g2 (sz_field Try.underlying51 hz 2 rfl rfl)
    obtain ⟨b4, b5, e4, e5, hb4⟩ := two_of (o1 := 0) (o2 := 0) Try.underlying49 rfl rfl rfl rfl g3
    simp at e0
    subst e0 e1 e2 e3 e4 e5
    exact ⟨⟨a0, b1, b2, ds, b4, b5, ad, cap⟩, rfl, hb, hb4, hd⟩
set_option maxRecDepth 100000 in
theorem mes_of {fuel : Nat} {cs : List Value} {x : DataW H × List MemPlace} (hl : cs.length = 6) (h : DataW.trod enc Try.prog w base spare held fuel 32 cs = some x) (hz : Sz Try.prog 32 x.1) :
    ∃ m : Msg, cs = (msgA m).toList ∧ MsgW w m := by
  obtain ⟨xs, k, hk, hxy, _, hxl, hf⟩ := DataW.trod_struct Try.underlying32 h
  rw [hxy] at hz
  have c1 : Try.prog.cellsOf 26 = 1 := by kernel_rfl
  have c2 : Try.prog.cellsOf 3 = 1 := by kernel_rfl
  have c3 : Try.prog.cellsOf 9 = 1 := by kernel_rfl
  have c4 : Try.prog.cellsOf 29 = 1 := by kernel_rfl
  have c5 : Try.prog.cellsOf 30 = 1 := by kernel_rfl
  match xs, hxl, cs, hl with
  | [y0, y1, y2, y3, y4, y5], _, [v0, v1, v2, v3, v4, v5], _ =>
    have g0 := hf 0 _ rfl
    have g1 := hf 1 _ rfl
    have g2 := hf 2 _ rfl
    have g3 := hf 3 _ rfl
    have g4 := hf 4 _ rfl
    have g5 := hf 5 _ rfl
    simp [c1, c2, c3, c4, c5] at g0 g1 g2 g3 g4 g5
    have hU := Try.underlying32
    obtain ⟨a0, e0, _⟩ := DataW.trod_int Try.underlying3 g0
    obtain ⟨a1, e1, _, hq⟩ := DataW.trod_int Try.underlying29 g1
    obtain ⟨a2, e2, _, hn⟩ := DataW.trod_int Try.underlying26 g2
    obtain ⟨a3, e3, _⟩ := DataW.trod_int Try.underlying3 g3
    obtain ⟨ad, ds, dc, e4, hd⟩ := vec_of g4 (sz_field hU hz 4 rfl rfl)
    obtain ⟨a5, e5, ey5, _⟩ := DataW.trod_string Try.underlying9 g5
    have hs5 : a5.size ≤ 140737488351232 := by
      have h5 : Sz Try.prog 9 y5.1 := sz_field hU hz 5 rfl rfl
      rw [ey5] at h5
      have := h5 a5.data.toList.length (by simp [DataW.weights])
      simp [reachBytes] at this
      exact this
    simp at e0 e1 e2 e3 e5
    obtain ⟨n2, rfl, hn2⟩ := u64_nat hn
    obtain ⟨n1, rfl, hn1⟩ := u32_nat hq
    subst e0 e1 e2 e3 e4 e5
    exact ⟨⟨a0, n1, n2, a3, ds, a5, ad, dc⟩, rfl, hs5, hn1, hn2, hd⟩
set_option maxRecDepth 100000 in
theorem exs_of {fuel : Nat} {v : Value} {x : DataW H × List MemPlace} (hf : DataW.trod enc Try.prog w base spare held fuel 33 [v] = some x) (hz : Sz Try.prog 33 x.1) :
    ∃ (ad : Option Addr) (l : List Exch) (cap : Nat), v = .slice ad l.length cap ∧ ExsRd w ad l := by
  have h6 : Try.prog.cellsOf 51 = 6 := by kernel_rfl
  rcases open_slice Try.underlying33 hf with ⟨h0, _⟩ | ⟨a, len, cap, m, n, D, Pl, h0, hb, hl, hm, hmm, hxx, hx⟩
  · simp at h0
    subst h0
    exact ⟨none, [], 0, rfl, by simp, fun i h => absurd h (by simp)⟩
  · simp at h0
    subst h0
    have hlm : len ≤ m := by rw [hmm]; split <;> omega
    rw [hxx] at hz
    have hsz := sz_elems Try.underlying33 hz
    have hlen4 : len ≤ 2199023255488 := by
      have := hsz.1
      rw [bytesX] at this
      simp [reachBytes] at this
      omega
    have each : ∀ i, i < len → ∃ y : Exch, (∀ j u, (exA y).toList[j]? = some u → w.cell? ((a.add (i * 6)).add j) = some u) ∧ ExW w y := by
      intro i hi
      obtain ⟨cs', h1, h2⟩ := hx i (by omega)
      rw [h6] at h1
      obtain ⟨_, hlen, hcell⟩ := World.cells?_some h1
      obtain ⟨y, e, hq⟩ := ex_of hlen h2 (hsz.2 _ (List.mem_map.2 ⟨i, List.mem_range.2 hi, rfl⟩))
      refine ⟨y, fun j u hu => ?_, hq⟩
      rw [← e] at hu
      have hj : j < 6 := by have := (List.getElem?_eq_some_iff.1 hu).1; omega
      exact (hcell j hj).trans hu
    obtain ⟨q, hq⟩ := choose_lt each
    have hl2 : ((List.range len).map q).length ≤ 2199023255488 := by simpa using hlen4
    clear hlen4
    refine ⟨some a, (List.range len).map q, cap, by simp, hl2, fun i hi => ?_⟩
    clear hl2 hz hsz
    have hi' : i < len := by simpa using hi
    obtain ⟨b, off, spot⟩ := a
    have hz := (hq 0 (by omega)).1 0 _ rfl
    have hspot : spot = none := by simpa [Addr.add] using World.cell?_spot hz
    subst hspot
    rw [List.getElem_map, List.getElem_range]
    refine ⟨(hq i hi').2, b, off, rfl, ?_, ?_⟩
    · have := blk_lt hz; rw [add_at, add_at] at this; exact this
    · intro j u hu
      have := (hq i hi').1 j u hu
      rw [add_at, add_at] at this
      exact this
set_option maxRecDepth 100000 in
theorem pkt_arg {r : Reach} {b0 : Nat} {v : Value} {d : DataW H} {pl : List MemPlace} (hv : Value.okWide Try.prog w r b0 35 v) (h : DataW.Trod enc Try.prog w base spare held 35 v d pl) (hz : Sz Try.prog 35 d) : ∃ p : Pkt, v = .agg (pktA p) ∧ PktRd w p := by
  obtain ⟨cs, rfl, hsz⟩ := okWide_struct Try.underlying35 hv
  obtain ⟨fuel, hf0⟩ := h
  have h22 : Try.prog.cellsOf 35 = 22 := by kernel_rfl
  have hf1 : DataW.trod enc Try.prog w base spare held fuel 35 cs.toList = some (d, pl) := hf0
  obtain ⟨xs, k, hk, hxy, _, hxl, hf⟩ := DataW.trod_struct Try.underlying35 hf1
  have hd : d = .agg (xs.map (·.1)) := congrArg Prod.fst hxy
  rw [hd] at hz
  have hl : cs.toList.length = 22 := by rw [Array.length_toList, hsz, h22]
  have ci : Try.prog.cellsOf 3 = 1 := by kernel_rfl
  have cc : Try.prog.cellsOf 28 = 2 := by kernel_rfl
  have cm : Try.prog.cellsOf 32 = 6 := by kernel_rfl
  have c8 : Try.prog.cellsOf 26 = 1 := by kernel_rfl
  have c4 : Try.prog.cellsOf 29 = 1 := by kernel_rfl
  have cv : Try.prog.cellsOf 30 = 1 := by kernel_rfl
  have cx : Try.prog.cellsOf 33 = 1 := by kernel_rfl
  have cst : Try.prog.cellsOf 9 = 1 := by kernel_rfl
  generalize hcl : cs.toList = L at *
  obtain ⟨y0, y1, y2, y3, y4, y5, y6, y7, y8, y9, y10, y11, y12, y13, y14, rfl⟩ : ∃ y0 y1 y2 y3 y4 y5 y6 y7 y8 y9 y10 y11 y12 y13 y14, xs = [y0, y1, y2, y3, y4, y5, y6, y7, y8, y9, y10, y11, y12, y13, y14] := by
    match xs, hxl with
    | [y0, y1, y2, y3, y4, y5, y6, y7, y8, y9, y10, y11, y12, y13, y14], _ => exact ⟨y0, y1, y2, y3, y4, y5, y6, y7, y8, y9, y10, y11, y12, y13, y14, rfl⟩
  obtain ⟨v0, v1, v2, v3, v4, v5, v6, v7, v8, v9, v10, v11, v12, v13, v14, v15, v16, v17, v18, v19, v20, v21, rfl⟩ : ∃ v0 v1 v2 v3 v4 v5 v6 v7 v8 v9 v10 v11 v12 v13 v14 v15 v16 v17 v18 v19 v20 v21, L = [v0, v1, v2, v3, v4, v5, v6, v7, v8, v9, v10, v11, v12, v13, v14, v15, v16, v17, v18, v19, v20, v21] := by
    match L, hl with
    | [v0, v1, v2, v3, v4, v5, v6, v7, v8, v9, v10, v11, v12, v13, v14, v15, v16, v17, v18, v19, v20, v21], _ => exact ⟨v0, v1, v2, v3, v4, v5, v6, v7, v8, v9, v10, v11, v12, v13, v14, v15, v16, v17, v18, v19, v20, v21, rfl⟩
  have g0 := hf 0 _ rfl
  have g1 := hf 1 _ rfl
  have g2 := hf 2 _ rfl
  have g3 := hf 3 _ rfl
  have g4 := hf 4 _ rfl
  have g5 := hf 5 _ rfl
  have g6 := hf 6 _ rfl
  have g7 := hf 7 _ rfl
  have g8 := hf 8 _ rfl
  have g9 := hf 9 _ rfl
  have g10 := hf 10 _ rfl
  have g11 := hf 11 _ rfl
  have g12 := hf 12 _ rfl
  have g13 := hf 13 _ rfl
  have g14 := hf 14 _ rfl
  simp [ci, cc, cm, c8, c4, cv, cx] at g0 g1 g2 g3 g4 g5 g6 g7 g8 g9 g10 g11 g12 g13 g14
  have hU := Try.underlying35
  obtain ⟨a0, e0, _⟩ := DataW.trod_int Try.underlying3 g0
  obtain ⟨a1, e1, _⟩ := DataW.trod_int Try.underlying3 g1
  obtain ⟨a2, e2, _⟩ := DataW.trod_int Try.underlying3 g2
  obtain ⟨a3, a4, e3, e4, h3⟩ := two_of (o1 := 0) (o2 := 0) Try.underlying28 rfl rfl rfl rfl g3
  obtain ⟨m, em, hm⟩ := mes_of (by rfl) g4 (sz_field hU hz 4 rfl rfl)
  obtain ⟨a11, e11, _, h11⟩ := DataW.trod_int Try.underlying26 g5
  obtain ⟨a12, e12, _, h12⟩ := DataW.trod_int Try.underlying29 g6
  obtain ⟨ga, gs, gc, e13, h13⟩ := vec_of g7 (sz_field hU hz 7 rfl rfl)
  obtain ⟨a14, e14, _, h14⟩ := DataW.trod_int Try.underlying26 g8
  obtain ⟨a15, e15, _⟩ := DataW.trod_int Try.underlying3 g9
  obtain ⟨a16, e16, _, h16⟩ := DataW.trod_int Try.underlying29 g10
  obtain ⟨a17, e17, _, h17⟩ := DataW.trod_int Try.underlying26 g11
  obtain ⟨a18, a19, e18, e19, h18⟩ := two_of (o1 := 0) (o2 := 0) Try.underlying28 rfl rfl rfl rfl g12
  obtain ⟨a20, e20, _, h20⟩ := DataW.trod_int Try.underlying26 g13
  obtain ⟨xa, xl, xc, e21, h21⟩ := exs_of g14 (sz_field hU hz 14 rfl rfl)
  simp at e0 e1 e2 e11 e12 e14 e15 e16 e17 e20
  obtain ⟨n11, rfl, k11⟩ := u64_nat h11
  obtain ⟨n12, rfl, k12⟩ := u32_nat h12
  obtain ⟨n14, rfl, k14⟩ := u64_nat h14
  obtain ⟨n16, rfl, k16⟩ := u32_nat h16
  obtain ⟨n17, rfl, k17⟩ := u64_nat h17
  obtain ⟨n20, rfl, k20⟩ := u64_nat h20
  have em' : [v5, v6, v7, v8, v9, v10] = (msgA m).toList := em
  simp only [msgA, List.cons.injEq, and_true] at em'
  obtain ⟨m5, m6, m7, m8, m9, m10⟩ := em'
  refine ⟨⟨a0, a1, a2, a3, a4, m, n11, n12, gs, n14, a15, n16, n17, a18, a19, n20, xl, ga, gc, xa, xc⟩, ?_, ?_⟩
  · congr 1
    apply Array.ext'
    rw [hcl, e0, e1, e2, e3, e4, m5, m6, m7, m8, m9, m10, e11, e12, e13, e14, e15, e16, e17, e18, e19, e20, e21]
    rfl
  · exact ⟨h3, hm, k11, k12, h13, k14, k16, k17, h18, k20, h21⟩
set_option maxRecDepth 100000 in
theorem packetPrints_row {r : Reach} {b0 : Nat} {d : DataW H} {pl : List MemPlace} (v : Value) (w : World) (hv : Value.okWide Try.prog w r b0 35 v) (h : DataW.Trod enc Try.prog w base spare held 35 v d pl) (hz : ∀ n ∈ d.weights Try.prog 35, n ≤ reachBytes) :
    Calls Try.prog 4 #[v] w fun e w' => e = .returned (.bool true) ∧ Below w.heap.size w w' := by
  obtain ⟨p, rfl, hp⟩ := pkt_arg hv h hz
  exact law_packetPrints p w hp
end
end Go.Proofs.Ytgpojbmloielmaa
