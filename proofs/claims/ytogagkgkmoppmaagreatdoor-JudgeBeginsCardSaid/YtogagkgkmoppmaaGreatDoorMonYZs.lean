/-
  A new monitor; a trace that came in; which traces are gone through; what the law asks of a new monitor.
  Conditions: those that each theorem names.
-/
import Derived.Test.YtogagkgkmoppmaaGreatDoorJuVZs
import Derived.Test.YtogagkgkmoppmaaGreatDoorMonBZs
import Derived.SizedLaws
import Derived.Deep.Slices
import Derived.ChangeArms
import Derived.ChangeShapes
import Derived.WideShapes
import Derived.Test.YtogagkgkmoppmaaGreatDoorBaseZs
import Derived.ProofKit
import Derived.OpenShut
import Derived.ShutString
import Derived.Carry
import Derived.Lib.SmallJoins
import Derived.Test.YtogagkgkmoppmaaGreatDoorJuZBZs
namespace Go.Proofs.YtogagkgkmoppmaaGreatDoor
set_option linter.unusedVariables false
set_option linter.unusedSimpArgs false
open Go.RowKit GM
def newM (s : Nat) : MM := ⟨⟨s, s + 1, s + 2, none, 0, 0, s + 3, s + 4, 0, 0, 0, 0⟩, [], [], [], [], [], []⟩
def ev0 : Ev := ⟨5, 0, 0, 0, 0, 0, 0, ⟨0, 0, 0, 0, [], ⟨#[]⟩, none, 0⟩, 0, 0, 0, 0, none, 0, 0, ⟨#[]⟩⟩
def ev1 : Ev := ⟨2, 1, 0, 0, 0, 0, 0, ⟨0, 0, 0, 0, [], ⟨#[]⟩, none, 0⟩, 0, 0, 0, 0, none, 0, 0, ⟨#[]⟩⟩
theorem evA0 : evA ev0 = #[.int .i64 5, .int .i64 0, .int .u64 0, .int .i64 0, .int .u64 0, .int .i64 0, .int .u64 0, .int .i64 0, .int .u32 0, .int .u64 0, .int .i64 0, .slice none 0 0, .string ⟨#[]⟩, .int .u64 0, .int .u64 0, .int .i64 0, .int .u64 0, .slice none 0 0, .string ⟨#[]⟩] := rfl
theorem evA1 : evA ev1 = #[.int .i64 2, .int .i64 1, .int .u64 0, .int .i64 0, .int .u64 0, .int .i64 0, .int .u64 0, .int .i64 0, .int .u32 0, .int .u64 0, .int .i64 0, .slice none 0 0, .string ⟨#[]⟩, .int .u64 0, .int .u64 0, .int .i64 0, .int .u64 0, .slice none 0 0, .string ⟨#[]⟩] := rfl
theorem told2 : (padd PM0 ev0).broken = 0 ∧ (padd (padd PM0 ev0) ev1).broken = 1 ∧ (padd (padd PM0 ev0) ev1).len = 2 ∧ (padd (padd PM0 ev0) ev1).at_ = 2 ∧ (padd (padd PM0 ev0) ev1).rule = 1 := by
  refine ⟨rfl, rfl, rfl, rfl, rfl⟩
theorem res_c {M : MM} {P : PM} (h : proj M = P) : M.c.broken = P.broken ∧ M.c.len = P.len ∧ M.c.at_ = P.at_ ∧ M.c.rule = P.rule := by
  subst h
  exact ⟨rfl, rfl, rfl, rfl⟩
end Go.Proofs.YtogagkgkmoppmaaGreatDoor
namespace Go.Proofs.YtogagkgkmoppmaaGreatDoor
set_option linter.unusedVariables false
set_option linter.unusedSimpArgs false
open Go.RowKit GM
theorem told_nums (l : List Ev) : 0 ≤ (told l).broken ∧ 0 ≤ (told l).at_ := by
  suffices ∀ (l : List Ev) (P : PM), 0 ≤ P.broken → 0 ≤ P.at_ → 0 ≤ P.len → 0 ≤ (l.foldl padd P).broken ∧ 0 ≤ (l.foldl padd P).at_ from this l PM0 (by decide) (by decide) (by decide)
  intro l
  induction l with
  | nil => intro P h1 h2 _; exact ⟨h1, h2⟩
  | cons x l ih =>
    intro P h1 h2 h3
    have h := padd_added P x
    have hb := h.broken
    unfold Le at hb
    refine ih _ (by omega) ?_ (by rw [h.len]; omega)
    by_cases h0 : P.at_ = 0
    · by_cases h4 : 0 < (padd P x).broken
      · rw [(h.now h0 h4).1]
        omega
      · rw [(h.not h0 h4).1]
        omega
    · rw [(h.was h0).1]
      exact h2
theorem rowCells (l : List Value) : l.toArray.toList = l := by simp
end Go.Proofs.YtogagkgkmoppmaaGreatDoor
namespace Go.Proofs.YtogagkgkmoppmaaGreatDoor
set_option linter.unusedVariables false
set_option linter.unusedSimpArgs false
open Go.RowKit
def NumsRd (w0 : World) (da : Option Addr) (ds : List Nat) : Prop := ds.length ≤ 35184372087808 ∧ ∀ i (h : i < ds.length), ds[i] < 4294967296 ∧ ∃ b o, da = some ⟨b, o, none⟩ ∧ b < w0.heap.size ∧ w0.cell? ⟨b, o + i, none⟩ = some (.int .u32 (ds[i] : Int))
theorem NumsRd.nil (w : World) : NumsRd w none [] := ⟨by simp, fun i h => absurd h (by simp)⟩
theorem add_at (b o i : Nat) : (⟨b, o, none⟩ : Addr).add i = ⟨b, o + i, none⟩ := by unfold Addr.add; split <;> simp_all
theorem NumsRd.reads {w : World} {da : Option Addr} {ds : List Nat} (h : NumsRd w da ds) : Reads w w.heap.size 1 da ds.length (numsM ds) := by
  refine ⟨by rw [numsM_len]; omega, fun hn => ?_⟩
  obtain ⟨_, B, O, e, hB, _⟩ := h.2 0 hn
  refine ⟨_, e, hB, fun j u hu => ?_⟩
  have hj : j < ds.length := by have := (List.getElem?_eq_some_iff.1 hu).1; rwa [numsM_len] at this
  obtain ⟨_, B', O', e', _, hc⟩ := h.2 j hj
  rw [e] at e'
  injection e' with e'
  injection e' with e1 e2
  subst e1; subst e2
  unfold numsM at hu
  rw [List.getElem?_map, List.getElem?_eq_getElem hj] at hu
  injection hu with hu
  rw [← hu, ← hc]
  congr 1
  unfold Addr.add
  split <;> simp_all
def MsgRd (w : World) (m : Msg) : Prop := m.pay.size ≤ 140737488351232 ∧ m.seq < 4294967296 ∧ m.stamp < 18446744073709551616 ∧ NumsRd w m.da m.ds
section
open Go.ChangeShapes Go.WideShapes Go.Deep
variable {H : Type} {enc : TypeId × Value → H} {w : World} {base : Nat} {spare : Nat → Bool} {held : Bool}
def WSz (P : Program) (t : TypeId) (d : DataW H) : Prop := ∀ n ∈ d.weights P t, n ≤ reachBytes
theorem sz_field {P : Program} {t : TypeId} {fs : Array Field} (hu : P.underlying t = some (.struct fs)) {xs : List (DataW H × List MemPlace)} (hz : WSz P t (.agg (xs.map (·.1)))) (j : Nat) {f : Field} {y : DataW H × List MemPlace} (hf : fs[j]? = some f) (hy : xs[j]? = some y) : WSz P f.type y.1 := by
  intro n hn
  refine hz n ?_
  simp only [DataW.weights, hu]
  exact DataW.weights_mem_each (j := j) (by simp [hf]) (by simp [hy]) n hn
theorem weightsAll_mem {P : Program} {e : TypeId} : ∀ {ds : List (DataW H)} {d : DataW H}, d ∈ ds → ∀ n ∈ d.weights P e, n ∈ DataW.weightsAll P e ds
  | d0 :: ds, d, hd, n, hn => by
    simp only [DataW.weightsAll, List.mem_append]
    rcases List.mem_cons.1 hd with rfl | hd
    · exact .inl hn
    · exact .inr (weightsAll_mem hd n hn)
theorem sz_elems {P : Program} {t e : TypeId} (hu : P.underlying t = some (.slice e)) {a b : List (DataW H)} (hz : WSz P t (.slice a b)) : (a.length + b.length) * P.bytesOf e ≤ reachBytes ∧ ∀ d ∈ a, WSz P e d := by
  constructor
  · exact hz _ (by simp [DataW.weights, hu])
  · intro d hd n hn
    refine hz n ?_
    simp only [DataW.weights, hu, List.mem_cons, List.mem_append]
    exact .inr (.inl (weightsAll_mem hd n hn))
theorem blk_lt {w : World} {p : Addr} {v : Value} (h : w.cell? p = some v) : p.block < w.heap.size := by
  rcases Nat.lt_or_ge p.block w.heap.size with h' | h'
  · exact h'
  · obtain ⟨b, o, s⟩ := p
    simp [World.cell?, Array.getElem?_eq_none h'] at h
theorem bytes32 : Tryz.prog.bytesOf 28 = 4 := by kernel_rfl
set_option maxRecDepth 100000 in
theorem vec_of {fuel : Nat} {v : Value} {x : DataW H × List MemPlace} (h : DataW.trod enc Tryz.prog w base spare held fuel 29 [v] = some x) (hz : WSz Tryz.prog 29 x.1) :
    ∃ (ad : Option Addr) (ds : List Nat) (cap : Nat), v = .slice ad ds.length cap ∧ NumsRd w ad ds := by
  have h1 : Tryz.prog.cellsOf 28 = 1 := by kernel_rfl
  rcases open_slice Tryz.underlying29 h with ⟨h0, _⟩ | ⟨a, len, cap, m, n, D, Pl, h0, hb, hl, hm, hmm, hxx, hx⟩
  · simp at h0
    subst h0
    exact ⟨none, [], 0, rfl, NumsRd.nil w⟩
  · simp at h0
    subst h0
    have hlm : len ≤ m := by rw [hmm]; split <;> omega
    rw [hxx] at hz
    have hlen4 : len * 4 ≤ 140737488351232 := by
      have := (sz_elems Tryz.underlying29 hz).1
      rw [bytes32] at this
      simp [reachBytes] at this
      omega
    have each : ∀ i, i < len → ∃ x : Nat, w.cell? (a.add i) = some (.int .u32 (x : Int)) ∧ x < 4294967296 := by
      intro i hi
      obtain ⟨cs', hc1, hc2⟩ := hx i (by omega)
      rw [h1, Nat.mul_one] at hc1
      obtain ⟨_, hlen, hcell⟩ := World.cells?_some hc1
      match cs', hlen with
      | [u], _ =>
        obtain ⟨z, e, _, hz⟩ := DataW.trod_int Tryz.underlying28 hc2
        simp at e
        subst e
        have hz2 : 0 ≤ z ∧ z ≤ 4294967295 := by have := hz; simp [Lit.wf, IntKind.min, IntKind.max, IntKind.signed, IntKind.bits] at this; exact this
        have := hcell 0 (by simp)
        simp [Addr.add] at this
        exact ⟨z.toNat, by rw [show ((z.toNat : Nat) : Int) = z from by omega]; simpa [Addr.add] using this, by omega⟩
    obtain ⟨q, hq⟩ := choose_lt each
    have hl2 : ((List.range len).map q).length ≤ 35184372087808 := by simp; omega
    clear hlen4
    refine ⟨some a, (List.range len).map q, cap, by simp, hl2, fun i hi => ?_⟩
    clear hl2
    have hi' : i < len := by simpa using hi
    obtain ⟨b, off, spot⟩ := a
    have hz := (hq 0 (by omega)).1
    have hspot : spot = none := by simpa [Addr.add] using World.cell?_spot hz
    subst hspot
    rw [List.getElem_map, List.getElem_range]
    refine ⟨(hq i hi').2, b, off, rfl, ?_, ?_⟩
    · have := blk_lt hz; rw [add_at] at this; exact this
    · have := (hq i hi').1; rw [add_at] at this; exact this
theorem u64_nat {a : Int} (h : (Lit.int .u64 a).wf = true) : ∃ n : Nat, a = (n : Int) ∧ n < 18446744073709551616 := by
  have hn2 : 0 ≤ a ∧ a ≤ 18446744073709551615 := by have := h; simp [Lit.wf, IntKind.min, IntKind.max, IntKind.signed, IntKind.bits] at this; exact this
  exact ⟨a.toNat, by omega, by omega⟩
theorem u32_nat {a : Int} (h : (Lit.int .u32 a).wf = true) : ∃ n : Nat, a = (n : Int) ∧ n < 4294967296 := by
  have hn2 : 0 ≤ a ∧ a ≤ 4294967295 := by have := h; simp [Lit.wf, IntKind.min, IntKind.max, IntKind.signed, IntKind.bits] at this; exact this
  exact ⟨a.toNat, by omega, by omega⟩
set_option maxRecDepth 100000 in
theorem two_of {t : TypeId} {o1 o2 : Nat} {f1 f2 : Field} {v0 v1 : Value} {fuel : Nat} {x : DataW H × List MemPlace} (ht : Tryz.prog.underlying t = some (.struct #[f1, f2])) (t1 : f1.type = 25) (t2 : f2.type = 3) (ho1 : f1.offset = 0) (ho2 : f2.offset = 1)
    (h : DataW.trod enc Tryz.prog w base spare held fuel t [v0, v1] = some x) : ∃ (a : Nat) (b : Int), v0 = .int .u64 (a : Int) ∧ v1 = .int .i64 b ∧ a < 18446744073709551616 := by
  obtain ⟨xs, k, hk, hxy, _, hxl, hf⟩ := DataW.trod_struct ht h
  have c1 : Tryz.prog.cellsOf 25 = 1 := by kernel_rfl
  have c2 : Tryz.prog.cellsOf 3 = 1 := by kernel_rfl
  match xs, hxl with
  | [y0, y1], _ =>
    have g0 := hf 0 _ rfl
    have g1 := hf 1 _ rfl
    simp [c1, c2, t1, t2, ho1, ho2] at g0 g1
    obtain ⟨a, e0, _, hn⟩ := DataW.trod_int Tryz.underlying25 g0
    obtain ⟨b, e1, _⟩ := DataW.trod_int Tryz.underlying3 g1
    simp at e0 e1
    obtain ⟨n, rfl, hn2⟩ := u64_nat hn
    exact ⟨n, b, e0, e1, hn2⟩
set_option maxRecDepth 100000 in
theorem mes_of {fuel : Nat} {cs : List Value} {x : DataW H × List MemPlace} (hl : cs.length = 6) (h : DataW.trod enc Tryz.prog w base spare held fuel 31 cs = some x) (hz : WSz Tryz.prog 31 x.1) :
    ∃ m : Msg, cs = (msgA m).toList ∧ MsgRd w m := by
  obtain ⟨xs, k, hk, hxy, _, hxl, hf⟩ := DataW.trod_struct Tryz.underlying31 h
  rw [hxy] at hz
  have c1 : Tryz.prog.cellsOf 25 = 1 := by kernel_rfl
  have c2 : Tryz.prog.cellsOf 3 = 1 := by kernel_rfl
  have c3 : Tryz.prog.cellsOf 9 = 1 := by kernel_rfl
  have c4 : Tryz.prog.cellsOf 28 = 1 := by kernel_rfl
  have c5 : Tryz.prog.cellsOf 29 = 1 := by kernel_rfl
  match xs, hxl, cs, hl with
  | [y0, y1, y2, y3, y4, y5], _, [v0, v1, v2, v3, v4, v5], _ =>
    have g0 := hf 0 _ rfl
    have g1 := hf 1 _ rfl
    have g2 := hf 2 _ rfl
    have g3 := hf 3 _ rfl
    have g4 := hf 4 _ rfl
    have g5 := hf 5 _ rfl
    simp [c1, c2, c3, c4, c5] at g0 g1 g2 g3 g4 g5
    have hU := Tryz.underlying31
    obtain ⟨a0, e0, _⟩ := DataW.trod_int Tryz.underlying3 g0
    obtain ⟨a1, e1, _, hq⟩ := DataW.trod_int Tryz.underlying28 g1
    obtain ⟨a2, e2, _, hn⟩ := DataW.trod_int Tryz.underlying25 g2
    obtain ⟨a3, e3, _⟩ := DataW.trod_int Tryz.underlying3 g3
    obtain ⟨ad, ds, dc, e4, hd⟩ := vec_of g4 (sz_field hU hz 4 rfl rfl)
    obtain ⟨a5, e5, ey5, _⟩ := DataW.trod_string Tryz.underlying9 g5
    have hs5 : a5.size ≤ 140737488351232 := by
      have h5 : WSz Tryz.prog 9 y5.1 := sz_field hU hz 5 rfl rfl
      rw [ey5] at h5
      have := h5 a5.data.toList.length (by simp [DataW.weights])
      simp [reachBytes] at this
      exact this
    simp at e0 e1 e2 e3 e5
    obtain ⟨n2, rfl, hn2⟩ := u64_nat hn
    obtain ⟨n1, rfl, hn1⟩ := u32_nat hq
    subst e0 e1 e2 e3 e4 e5
    exact ⟨⟨a0, n1, n2, a3, ds, a5, ad, dc⟩, rfl, hs5, hn1, hn2, hd⟩
theorem bytesE : Tryz.prog.bytesOf 36 = 200 := by kernel_rfl
theorem bytesN : Tryz.prog.bytesOf 97 = 16 := by kernel_rfl
instance : Inhabited Ev := ⟨⟨0, 0, 0, 0, 0, 0, 0, ⟨0, 0, 0, 0, [], ⟨#[]⟩, none, 0⟩, 0, 0, 0, 0, none, 0, 0, ⟨#[]⟩⟩⟩
set_option maxRecDepth 100000 in
theorem view_of {fuel : Nat} {v0 v1 v2 v3 : Value} {x : DataW H × List MemPlace} (h : DataW.trod enc Tryz.prog w base spare held fuel 33 [v0, v1, v2, v3] = some x) : ∃ (a b : Nat) (c : Int) (d : Nat), v0 = .int .u64 (a : Int) ∧ v1 = .int .u64 (b : Int) ∧ v2 = .int .i64 c ∧ v3 = .int .u64 (d : Int) := by
  obtain ⟨xs, k, hk, hxy, _, hxl, hf⟩ := DataW.trod_struct Tryz.underlying33 h
  have c1 : Tryz.prog.cellsOf 25 = 1 := by kernel_rfl
  have c2 : Tryz.prog.cellsOf 27 = 2 := by kernel_rfl
  match xs, hxl with
  | [y0, y1, y2], _ =>
    have g0 := hf 0 _ rfl
    have g1 := hf 1 _ rfl
    have g2 := hf 2 _ rfl
    simp [c1, c2] at g0 g1 g2
    obtain ⟨a, e0, _, h0⟩ := DataW.trod_int Tryz.underlying25 g0
    obtain ⟨b1, b2, e1, e2, hb⟩ := two_of (o1 := 0) (o2 := 0) Tryz.underlying27 rfl rfl rfl rfl g1
    obtain ⟨d, e3, _, h3⟩ := DataW.trod_int Tryz.underlying25 g2
    simp at e0 e3
    obtain ⟨n0, rfl, _⟩ := u64_nat h0
    obtain ⟨n3, rfl, _⟩ := u64_nat h3
    exact ⟨n0, b1, b2, n3, e0, e1, e2, e3⟩
set_option maxRecDepth 100000 in
theorem names_of {fuel : Nat} {v : Value} {x : DataW H × List MemPlace} (h : DataW.trod enc Tryz.prog w base spare held fuel 34 [v] = some x) (hz : WSz Tryz.prog 34 x.1) : ∃ (ad : Option Addr) (n cap : Nat), v = .slice ad n cap ∧ n ≤ 140737488351232 := by
  rcases open_slice Tryz.underlying34 h with ⟨h0, _⟩ | ⟨a, len, cap, m, n, D, Pl, h0, hb, hl, hm, hmm, hxx, hx⟩
  · simp at h0
    subst h0
    exact ⟨none, 0, 0, rfl, by omega⟩
  · simp at h0
    subst h0
    have hlm : len ≤ m := by rw [hmm]; split <;> omega
    rw [hxx] at hz
    have := (sz_elems Tryz.underlying34 hz).1
    rw [bytesN] at this
    simp [reachBytes] at this
    exact ⟨_, _, _, rfl, by omega⟩
set_option maxRecDepth 100000 in
theorem ev_of {fuel : Nat} {cs : List Value} {x : DataW H × List MemPlace} (hl : cs.length = 19) (h : DataW.trod enc Tryz.prog w base spare held fuel 36 cs = some x) (hz : WSz Tryz.prog 36 x.1) : ∃ y : Ev, cs = (evA y).toList ∧ EvOk w y := by
  obtain ⟨xs, k, hk, hxy, _, hxl, hf⟩ := DataW.trod_struct Tryz.underlying36 h
  rw [hxy] at hz
  have ci : Tryz.prog.cellsOf 3 = 1 := by kernel_rfl
  have cc : Tryz.prog.cellsOf 27 = 2 := by kernel_rfl
  have cm : Tryz.prog.cellsOf 31 = 6 := by kernel_rfl
  have c8 : Tryz.prog.cellsOf 25 = 1 := by kernel_rfl
  have cv : Tryz.prog.cellsOf 33 = 4 := by kernel_rfl
  have cn : Tryz.prog.cellsOf 34 = 1 := by kernel_rfl
  have cst : Tryz.prog.cellsOf 9 = 1 := by kernel_rfl
  obtain ⟨y0, y1, y2, y3, y4, y5, y6, y7, y8, rfl⟩ : ∃ y0 y1 y2 y3 y4 y5 y6 y7 y8, xs = [y0, y1, y2, y3, y4, y5, y6, y7, y8] := by
    match xs, hxl with
    | [y0, y1, y2, y3, y4, y5, y6, y7, y8], _ => exact ⟨y0, y1, y2, y3, y4, y5, y6, y7, y8, rfl⟩
  obtain ⟨v0, v1, v2, v3, v4, v5, v6, v7, v8, v9, v10, v11, v12, v13, v14, v15, v16, v17, v18, rfl⟩ : ∃ v0 v1 v2 v3 v4 v5 v6 v7 v8 v9 v10 v11 v12 v13 v14 v15 v16 v17 v18, cs = [v0, v1, v2, v3, v4, v5, v6, v7, v8, v9, v10, v11, v12, v13, v14, v15, v16, v17, v18] := by
    match cs, hl with
    | [v0, v1, v2, v3, v4, v5, v6, v7, v8, v9, v10, v11, v12, v13, v14, v15, v16, v17, v18], _ => exact ⟨v0, v1, v2, v3, v4, v5, v6, v7, v8, v9, v10, v11, v12, v13, v14, v15, v16, v17, v18, rfl⟩
  have g0 := hf 0 _ rfl
  have g1 := hf 1 _ rfl
  have g2 := hf 2 _ rfl
  have g3 := hf 3 _ rfl
  have g4 := hf 4 _ rfl
  have g5 := hf 5 _ rfl
  have g6 := hf 6 _ rfl
  have g7 := hf 7 _ rfl
  have g8 := hf 8 _ rfl
  simp [ci, cc, cm, c8, cv, cn, cst] at g0 g1 g2 g3 g4 g5 g6 g7 g8
  have hU := Tryz.underlying36
  obtain ⟨a0, e0, _⟩ := DataW.trod_int Tryz.underlying3 g0
  obtain ⟨a1, e1, _⟩ := DataW.trod_int Tryz.underlying3 g1
  obtain ⟨a2, a3, e2, e3, _⟩ := two_of (o1 := 0) (o2 := 0) Tryz.underlying27 rfl rfl rfl rfl g2
  obtain ⟨a4, a5, e4, e5, _⟩ := two_of (o1 := 0) (o2 := 0) Tryz.underlying27 rfl rfl rfl rfl g3
  obtain ⟨a6, e6, _, h6⟩ := DataW.trod_int Tryz.underlying25 g4
  obtain ⟨m, em, hm⟩ := mes_of (by rfl) g5 (sz_field hU hz 5 rfl rfl)
  obtain ⟨b0, b1, b2, b3, e13, e14, e15, e16⟩ := view_of g6
  obtain ⟨na, nl, nc, e17, hnl⟩ := names_of g7 (sz_field hU hz 7 rfl rfl)
  obtain ⟨st, e18, ey8, _⟩ := DataW.trod_string Tryz.underlying9 g8
  have hs8 : st.size ≤ 140737488351232 := by
    have h8 : WSz Tryz.prog 9 y8.1 := sz_field hU hz 8 rfl rfl
    rw [ey8] at h8
    have := h8 st.data.toList.length (by simp [DataW.weights])
    simp [reachBytes] at this
    exact this
  simp at e0 e1 e6 e18
  obtain ⟨n6, rfl, _⟩ := u64_nat h6
  have em' : [v7, v8, v9, v10, v11, v12] = (msgA m).toList := em
  simp only [msgA, List.cons.injEq, and_true] at em'
  obtain ⟨m7, m8, m9, m10, m11, m12⟩ := em'
  refine ⟨⟨a0, a1, a2, a3, a4, a5, n6, m, b0, b1, b2, b3, na, nl, nc, st⟩, ?_, ?_⟩
  · rw [e0, e1, e2, e3, e4, e5, e6, m7, m8, m9, m10, m11, m12, e13, e14, e15, e16, e17, e18]
    rfl
  · exact ⟨hm.2.2.2.reads, fun q hq => by
      obtain ⟨i, hi, rfl⟩ := List.mem_iff_getElem.1 hq
      exact (hm.2.2.2.2 i hi).1, hm.2.2.2.1, hm.1, hs8, hnl⟩
set_option maxRecDepth 100000 in
theorem evs_arg {r : Go.Reach} {b0 : Nat} {v : Value} {d : DataW H} {pl : List MemPlace} (hv : Value.okWide Tryz.prog w r b0 22 v) (h : DataW.Trod enc Tryz.prog w base spare held 22 v d pl) (hz : WSz Tryz.prog 22 d) :
    ∃ (ad : Option Addr) (l : List Ev) (cap : Nat), v = .slice ad l.length cap ∧ EvsAt w ad l := by
  obtain ⟨fuel, hf⟩ := h
  obtain ⟨a', len', cap', rfl⟩ := okWide_slice Tryz.underlying22 hv
  have hcs : (Value.slice a' len' cap').cells.toList = [Value.slice a' len' cap'] := by simp [Value.cells]
  have h19 : Tryz.prog.cellsOf 36 = 19 := by kernel_rfl
  rcases open_slice Tryz.underlying22 hf with ⟨h0, _⟩ | ⟨a, len, cap, m, n, D, Pl, h0, hb, hl, hm, hmm, hxx, hx⟩
  · rw [hcs] at h0
    simp at h0
    obtain ⟨_, rfl, _⟩ := h0
    exact ⟨_, [], _, rfl, by simp, fun i h => absurd h (by simp)⟩
  · rw [hcs] at h0
    simp at h0
    obtain ⟨rfl, rfl, rfl⟩ := h0
    have hlm : len' ≤ m := by rw [hmm]; split <;> omega
    have hd : d = _ := congrArg Prod.fst hxx
    rw [hd] at hz
    have hsz := sz_elems Tryz.underlying22 hz
    have hlen4 : len' ≤ 140737488351232 := by
      have := hsz.1
      rw [bytesE] at this
      simp [reachBytes] at this
      omega
    have each : ∀ i, i < len' → ∃ y : Ev, (∀ j u, (evA y).toList[j]? = some u → w.cell? ((a.add (i * 19)).add j) = some u) ∧ EvOk w y := by
      intro i hi
      obtain ⟨cs', h1, h2⟩ := hx i (by omega)
      rw [h19] at h1
      obtain ⟨_, hlen, hcell⟩ := World.cells?_some h1
      obtain ⟨y, e, hq⟩ := ev_of hlen h2 (hsz.2 _ (List.mem_map.2 ⟨i, List.mem_range.2 hi, rfl⟩))
      refine ⟨y, fun j u hu => ?_, hq⟩
      rw [← e] at hu
      have hj : j < 19 := by have := (List.getElem?_eq_some_iff.1 hu).1; omega
      exact (hcell j hj).trans hu
    obtain ⟨q, hq⟩ := choose_lt each
    have hl2 : ((List.range len').map q).length ≤ 140737488351232 := by simpa using hlen4
    clear hlen4
    refine ⟨some a, (List.range len').map q, cap', by simp, hl2, fun i hi => ?_⟩
    clear hl2 hz hsz
    have hi' : i < len' := by simpa using hi
    obtain ⟨b, off, spot⟩ := a
    have hz := (hq 0 (by omega)).1 0 _ rfl
    have hspot : spot = none := by simpa [Addr.add] using World.cell?_spot hz
    subst hspot
    rw [List.getElem_map, List.getElem_range]
    refine ⟨b, off, rfl, ?_, ?_, (hq i hi').2⟩
    · have := blk_lt hz; rw [add_at, add_at] at this; exact this
    · intro j u hu
      have := (hq i hi').1 j u hu
      rw [add_at, add_at] at this
      exact this
end
end Go.Proofs.YtogagkgkmoppmaaGreatDoor
namespace Go.Proofs.YtogagkgkmoppmaaGreatDoor
set_option linter.unusedVariables false
open Go.RowKit Go.WideShapes Go.ChangeShapes
section
variable {H : Type} {enc : TypeId × Value → H} {P : Program}
theorem trodAll_stays (hl : laidOutB P = true) {W W' : World} {sp' : Nat → Bool} : ∀ {ts : List TypeId} {vs : List Value} {ds : List (DataW H)} {ps : List MemPlace},
    (∀ t ∈ ts, P.readableRec t = true ∧ t < P.types.size) → DataW.TrodAll enc P W 0 (fun _ => true) true ts vs ds ps → (∀ x ∈ ps, W.sameAt W' x) → (∀ x ∈ ps, sp' x.block = true) → DataW.TrodAll enc P W' 0 sp' true ts vs ds ps
  | [], vs, ds, ps, _, h, _, _ => by
    obtain ⟨rfl, rfl, rfl⟩ := trodAll_nil h
    exact trodAll_mk0
  | t :: ts, vs, ds, ps, hr, h, hs, hsp => by
    obtain ⟨v, vs', d, ds', p, p', rfl, rfl, rfl, h0, h1⟩ := trodAll_cons h
    refine trodAll_cons_mk ?_ ?_
    · exact WideElems.Trod_stays hl (hr t (List.mem_cons_self ..)).1 (hr t (List.mem_cons_self ..)).2 h0 (fun x hx => hs x (List.mem_append_left _ hx)) (fun x hx => hsp x (List.mem_append_left _ hx))
    · exact trodAll_stays hl (fun t ht => hr t (List.mem_cons_of_mem _ ht)) h1 (fun x hx => hs x (List.mem_append_right _ hx)) (fun x hx => hsp x (List.mem_append_right _ hx))
theorem law_post {f : Func} {s : ChangeSpec} {apart fresh handsOn again : Bool} {W W' : World} {args : Array Value} {ds gs : List (DataW H)} {before : List MemPlace} {tb : TypeId}
    (hl : laidOutB P = true) (hr : ∀ t ∈ f.params.toList, P.readableRec t = true ∧ t < P.types.size)
    (hW : DataW.Whole enc P f.params.toList s.vars apart W args.toList ds gs before) (hvars : s.vars = []) (hres : f.resultTypes = #[tb]) (htb : P.underlying tb = some .bool)
    (hf1 : (s.fn H (ds ++ gs)).results = [.lit (.bool true)]) (hf2 : (s.fn H (ds ++ gs)).args = ds) (hf3 : (s.fn H (ds ++ gs)).vars = []) (hb : Below W.heap.size W W') :
    s.post enc P f apart fresh handsOn again W args (.bool true) W' := by
  have hlt : ∀ p ∈ before, p.block < W.heap.size := fun p hp => hW.lt p hp
  have hW0 := hW
  obtain ⟨p, q, hA, hV, rfl, hfz, hnd⟩ := hW
  rw [hvars] at hV
  obtain ⟨rfl, rfl⟩ := trodVars_none hV
  refine post_of_below (pa := p) (pv := []) hW0 ?_ ?_ ?_ rfl hb ?_
  · intro b sp hd
    rw [hres, hf1]
    exact trodAll_cons_mk (shut_bool htb _) trodAll_mk0
  · intro sp hsp
    rw [hf2]
    exact trodAll_stays hl hr hA (fun x hx => hb.same (hlt x (List.mem_append_left _ hx))) (fun x hx => hsp x (List.mem_append_left _ hx))
  · intro sp hsp
    rw [hvars, hf3]
    rfl
  · exact ok_one hres rfl (okWide_bool_mk htb _)
end
end Go.Proofs.YtogagkgkmoppmaaGreatDoor
namespace Go.Proofs.YtogagkgkmoppmaaGreatDoor
set_option linter.unusedVariables false
set_option linter.unusedSimpArgs false
open Go.RowKit GM
/-- when a trace was broken first, and by which rule -/
theorem told_first (l : List Ev) : ((told l).at_ = 0 ∧ (told l).broken = 0) ∨ ∃ k : Nat, 1 ≤ k ∧ k ≤ l.length ∧ (told l).at_ = (k : Int) ∧ (told (l.take k)).broken = (told l).rule ∧ (told (l.take (k - 1))).broken = 0 ∧ 0 < (told l).broken := by
  suffices ∀ n, n ≤ l.length → (((told (l.take n)).at_ = 0 ∧ (told (l.take n)).broken = 0) ∨ ∃ k : Nat, 1 ≤ k ∧ k ≤ n ∧ (told (l.take n)).at_ = (k : Int) ∧ (told (l.take k)).broken = (told (l.take n)).rule ∧ (told (l.take (k - 1))).broken = 0 ∧ 0 < (told (l.take n)).broken) by
    have h := this l.length (Nat.le_refl _)
    rw [List.take_length] at h
    exact h
  intro n
  induction n with
  | zero => exact fun _ => .inl ⟨rfl, rfl⟩
  | succ n ih =>
    intro hn
    have ih := ih (by omega)
    have e : told (l.take (n + 1)) = padd (told (l.take n)) l[n] := by rw [List.take_succ_eq_append_getElem (by omega), told_snoc]
    have had := padd_added (told (l.take n)) l[n]
    rw [← e] at had
    have hlen : (told (l.take n)).len = (n : Int) := by
      rw [told_len, List.length_take]
      omega
    have hle := had.broken
    unfold Le at hle
    rcases ih with ⟨h1, h2⟩ | ⟨k, h1, h2, h3, h4, h5, h6⟩
    · by_cases hb : 0 < (told (l.take (n + 1))).broken
      · obtain ⟨q1, q2⟩ := had.now h1 hb
        exact .inr ⟨n + 1, by omega, Nat.le_refl _, by rw [q1, hlen]; rfl, q2.symm, h2, hb⟩
      · exact .inl ⟨(had.not h1 hb).1, by omega⟩
    · obtain ⟨q1, q2⟩ := had.was (by omega)
      exact .inr ⟨k, h1, by omega, by rw [q1, h3], by rw [q2, h4], h5, by omega⟩
def NmAt (w : World) (l : List Ev) (nm : Nat → List NameK) : Prop := ∀ i (h : i < l.length), (nm i).length = l[i].nl ∧ Reads w w.heap.size 2 l[i].na l[i].nl (namesV (nm i))
theorem tr_of {w : World} {ad : Option Addr} {l : List Ev} {nm : Nat → List NameK} (h : EvsAt w ad l) (hn : NmAt w l nm) : ∃ g o, Tr w g o l nm ∧ (0 < l.length → ad = some ⟨g, o, none⟩) := by
  cases l with
  | nil => exact ⟨0, 0, ⟨by simp, fun i hi => by simp at hi, fun i hi => by simp at hi⟩, fun h => by simp at h⟩
  | cons x l =>
    obtain ⟨g, o, e, _⟩ := h.2 0 (by simp)
    refine ⟨g, o, ⟨h.1, fun i hi => ?_, hn⟩, fun _ => e⟩
    obtain ⟨g', o', e', h2⟩ := h.2 i hi
    rw [e] at e'
    injection e' with e'
    injection e' with e1 e2
    subst e1
    subst e2
    exact h2
theorem Tr.take {w : World} {g o : Nat} {l : List Ev} {nm : Nat → List NameK} (h : Tr w g o l nm) (k : Nat) : Tr w g o (l.take k) nm := by
  have hl : (l.take k).length ≤ l.length := by rw [List.length_take]; omega
  refine ⟨Nat.le_trans hl h.len, fun i hi => ?_, fun i hi => ?_⟩
  · rw [List.getElem_take]
    exact h.ev i (by omega)
  · rw [List.getElem_take]
    exact h.nms i (by omega)
theorem at_nil (w : World) : At w [] w := ⟨⟨fun p hp => (by cases hp), fun p hp => (by cases hp), List.Pairwise.nil⟩, br w⟩
/-- the judge of a trace's beginning -/
theorem evs_take {w : World} {ad : Option Addr} {l : List Ev} {nm : Nat → List NameK} (h : EvsAt w ad l) (hn : NmAt w l nm) (h5 : l.length ≤ 500) (W : World) (hb : Below w.heap.size w W) (k : Nat) (hk : k ≤ l.length) (cap : Nat) :
    Calls Tryz.prog 7 #[.slice ad k cap] W fun e w' => e = .returned (.int .i64 (told (l.take k)).broken) ∧ Below W.heap.size W w' := by
  obtain ⟨g, o, hT, had⟩ := tr_of h hn
  have hl : (l.take k).length = k := by rw [List.length_take]; omega
  have h := evs_any (at_nil W) ((hT.below hb).take k) ad (fun h0 => had (by omega)) cap (by omega)
  rw [hl] at h
  refine h.mono fun e w' ⟨h1, h2⟩ => ⟨?_, h2.bel⟩
  rw [h1, told_evs]
end Go.Proofs.YtogagkgkmoppmaaGreatDoor
namespace Go.Proofs.YtogagkgkmoppmaaGreatDoor
set_option linter.unusedVariables false
set_option linter.unusedSimpArgs false
open Go.RowKit
section
open Go.ChangeShapes Go.WideShapes Go.Deep
variable {H : Type} {enc : TypeId × Value → H} {w : World} {base : Nat} {spare : Nat → Bool} {held : Bool}
set_option maxRecDepth 100000 in
theorem name_of {fuel : Nat} {cs : List Value} {x : DataW H × List MemPlace} (hl : cs.length = 2) (h : DataW.trod enc Tryz.prog w base spare held fuel 97 cs = some x) : ∃ n : NameK, cs = [.int .i64 n.1, .int .u32 (n.2 : Int)] := by
  obtain ⟨xs, k, hk, hxy, _, hxl, hf⟩ := DataW.trod_struct Tryz.underlying97 h
  have c1 : Tryz.prog.cellsOf 3 = 1 := by kernel_rfl
  have c2 : Tryz.prog.cellsOf 28 = 1 := by kernel_rfl
  match xs, hxl, cs, hl with
  | [y0, y1], _, [v0, v1], _ =>
    have g0 := hf 0 _ rfl
    have g1 := hf 1 _ rfl
    simp [c1, c2] at g0 g1
    obtain ⟨a, e0, _⟩ := DataW.trod_int Tryz.underlying3 g0
    obtain ⟨b, e1, _, hq⟩ := DataW.trod_int Tryz.underlying28 g1
    simp at e0 e1
    obtain ⟨n1, rfl, hn1⟩ := u32_nat hq
    exact ⟨(a, n1), by rw [e0, e1]⟩
theorem namesV_len2 (L : List NameK) : (namesV L).length = L.length * 2 := by
  unfold namesV
  induction L with
  | nil => rfl
  | cons n L ih =>
    rw [List.flatMap_cons, List.length_append, ih]
    simp
    omega
theorem namesV_pos (L : List NameK) : ∀ (j : Nat) (u : Value), (namesV L)[j]? = some u → ∃ (i : Nat) (h : i < L.length) (r : Nat), j = i * 2 + r ∧ r < 2 ∧ [Value.int .i64 L[i].1, .int .u32 (L[i].2 : Int)][r]? = some u := by
  unfold namesV
  induction L with
  | nil => intro j u h; simp at h
  | cons n L ih =>
    intro j u h
    rw [List.flatMap_cons] at h
    rcases Nat.lt_or_ge j 2 with hj | hj
    · rw [List.getElem?_append_left (by simpa using hj)] at h
      exact ⟨0, by simp, j, by omega, hj, h⟩
    · rw [List.getElem?_append_right (by simpa using hj)] at h
      obtain ⟨i, hi, r, e, hr, h2⟩ := ih _ _ h
      simp only [List.length_cons, List.length_nil] at e
      exact ⟨i + 1, by simp; omega, r, by omega, hr, by simpa using h2⟩
set_option maxRecDepth 100000 in
theorem names_ofN {fuel : Nat} {v : Value} {x : DataW H × List MemPlace} (h : DataW.trod enc Tryz.prog w base spare held fuel 34 [v] = some x) : ∃ (ad : Option Addr) (L : List NameK) (cap : Nat), v = .slice ad L.length cap ∧ Reads w w.heap.size 2 ad L.length (namesV L) := by
  have h2 : Tryz.prog.cellsOf 97 = 2 := by kernel_rfl
  rcases open_slice Tryz.underlying34 h with ⟨h0, _⟩ | ⟨a, len, cap, m, n, D, Pl, h0, hb, hl, hm, hmm, hxx, hx⟩
  · simp at h0
    subst h0
    exact ⟨none, [], 0, rfl, by simp [namesV], fun h => by simp at h⟩
  · simp at h0
    subst h0
    have hlm : len ≤ m := by rw [hmm]; split <;> omega
    have each : ∀ i, i < len → ∃ q : NameK, ∀ (j : Nat) (u : Value), [Value.int .i64 q.1, .int .u32 (q.2 : Int)][j]? = some u → w.cell? ((a.add (i * 2)).add j) = some u := by
      intro i hi
      obtain ⟨cs', h3, h4⟩ := hx i (by omega)
      rw [h2] at h3
      obtain ⟨_, hlen, hcell⟩ := World.cells?_some h3
      obtain ⟨q, e⟩ := name_of hlen h4
      refine ⟨q, fun j u hu => ?_⟩
      rw [← e] at hu
      have hj : j < 2 := by have := (List.getElem?_eq_some_iff.1 hu).1; omega
      exact (hcell j hj).trans hu
    obtain ⟨q, hq⟩ := choose_lt each
    refine ⟨some a, (List.range len).map q, cap, by simp, by rw [namesV_len2], fun h0 => ?_⟩
    have h0 : 0 < len := by simpa using h0
    have hz := hq 0 h0 0 _ rfl
    obtain ⟨b, off, spot⟩ := a
    have hspot : spot = none := by simpa [Addr.add] using World.cell?_spot hz
    subst hspot
    refine ⟨_, rfl, ?_, fun j u hu => ?_⟩
    · have := blk_lt hz
      rw [add_at, add_at] at this
      exact this
    · obtain ⟨i, hi, r, e, hr, h3⟩ := namesV_pos _ j u hu
      have hi' : i < len := by simpa using hi
      rw [List.getElem_map, List.getElem_range] at h3
      have := hq i hi' r u h3
      rw [add_at, add_at] at this
      rw [add_at, e, ← Nat.add_assoc]
      exact this
set_option maxRecDepth 100000 in
theorem ev_ofN {fuel : Nat} {cs : List Value} {x : DataW H × List MemPlace} (hl : cs.length = 19) (h : DataW.trod enc Tryz.prog w base spare held fuel 36 cs = some x) (hz : WSz Tryz.prog 36 x.1) : ∃ (y : Ev) (L : List NameK), cs = (evA y).toList ∧ EvOk w y ∧ L.length = y.nl ∧ Reads w w.heap.size 2 y.na y.nl (namesV L) := by
  obtain ⟨y, rfl, hk⟩ := ev_of hl h hz
  obtain ⟨xs, k, hk2, hxy, _, hxl, hf⟩ := DataW.trod_struct Tryz.underlying36 h
  have ci : Tryz.prog.cellsOf 3 = 1 := by kernel_rfl
  have cc : Tryz.prog.cellsOf 27 = 2 := by kernel_rfl
  have cm : Tryz.prog.cellsOf 31 = 6 := by kernel_rfl
  have c8 : Tryz.prog.cellsOf 25 = 1 := by kernel_rfl
  have cv : Tryz.prog.cellsOf 33 = 4 := by kernel_rfl
  have cn : Tryz.prog.cellsOf 34 = 1 := by kernel_rfl
  have cst : Tryz.prog.cellsOf 9 = 1 := by kernel_rfl
  obtain ⟨y0, y1, y2, y3, y4, y5, y6, y7, y8, rfl⟩ : ∃ y0 y1 y2 y3 y4 y5 y6 y7 y8, xs = [y0, y1, y2, y3, y4, y5, y6, y7, y8] := by
    match xs, hxl with
    | [y0, y1, y2, y3, y4, y5, y6, y7, y8], _ => exact ⟨y0, y1, y2, y3, y4, y5, y6, y7, y8, rfl⟩
  have g7 := hf 7 _ rfl
  have g7 : DataW.trod enc Tryz.prog w base spare held k 34 [.slice y.na y.nl y.nc] = some y7 := g7
  obtain ⟨ad, L, cap, e, hr⟩ := names_ofN g7
  injection e with e1 e2 e3
  exact ⟨y, L, rfl, hk, e2.symm, by rw [e1, e2]; exact hr⟩
set_option maxRecDepth 100000 in
theorem evs_argN {r : Go.Reach} {b0 : Nat} {v : Value} {d : DataW H} {pl : List MemPlace} (hv : Value.okWide Tryz.prog w r b0 22 v) (h : DataW.Trod enc Tryz.prog w base spare held 22 v d pl) (hz : WSz Tryz.prog 22 d) :
    ∃ (ad : Option Addr) (l : List Ev) (cap : Nat) (nm : Nat → List NameK), v = .slice ad l.length cap ∧ EvsAt w ad l ∧ NmAt w l nm ∧ l.length ≤ cap := by
  obtain ⟨fuel, hf⟩ := h
  obtain ⟨a', len', cap', rfl⟩ := okWide_slice Tryz.underlying22 hv
  have hcs : (Value.slice a' len' cap').cells.toList = [Value.slice a' len' cap'] := by simp [Value.cells]
  have h19 : Tryz.prog.cellsOf 36 = 19 := by kernel_rfl
  rcases open_slice Tryz.underlying22 hf with ⟨h0, _⟩ | ⟨a, len, cap, m, n, D, Pl, h0, hb, hl, hm, hmm, hxx, hx⟩
  · rw [hcs] at h0
    simp at h0
    obtain ⟨_, rfl, _⟩ := h0
    exact ⟨_, [], _, fun _ => [], rfl, ⟨by simp, fun i h => absurd h (by simp)⟩, fun i h => absurd h (by simp), by simp⟩
  · rw [hcs] at h0
    simp at h0
    obtain ⟨rfl, rfl, rfl⟩ := h0
    have hlm : len' ≤ m := by rw [hmm]; split <;> omega
    have hd : d = _ := congrArg Prod.fst hxx
    rw [hd] at hz
    have hsz := sz_elems Tryz.underlying22 hz
    have hlen4 : len' ≤ 140737488351232 := by
      have := hsz.1
      rw [bytesE] at this
      simp [reachBytes] at this
      omega
    have each : ∀ i, i < len' → ∃ y : Ev × List NameK, (∀ j u, (evA y.1).toList[j]? = some u → w.cell? ((a.add (i * 19)).add j) = some u) ∧ EvOk w y.1 ∧ y.2.length = y.1.nl ∧ Reads w w.heap.size 2 y.1.na y.1.nl (namesV y.2) := by
      intro i hi
      obtain ⟨cs', h1, h2⟩ := hx i (by omega)
      rw [h19] at h1
      obtain ⟨_, hlen, hcell⟩ := World.cells?_some h1
      obtain ⟨y, L, e, hq⟩ := ev_ofN hlen h2 (hsz.2 _ (List.mem_map.2 ⟨i, List.mem_range.2 hi, rfl⟩))
      refine ⟨(y, L), fun j u hu => ?_, hq⟩
      have hu : (evA y).toList[j]? = some u := hu
      rw [← e] at hu
      have hj : j < 19 := by have := (List.getElem?_eq_some_iff.1 hu).1; omega
      exact (hcell j hj).trans hu
    obtain ⟨q, hq⟩ := choose_lt each
    have hl2 : ((List.range len').map fun i => (q i).1).length ≤ 140737488351232 := by simpa using hlen4
    clear hlen4
    refine ⟨some a, (List.range len').map fun i => (q i).1, cap', fun i => (q i).2, by simp, ⟨hl2, fun i hi => ?_⟩, fun i hi => ?_, by simpa using hl⟩
    rotate_left
    · have hi' : i < len' := by simpa using hi
      rw [List.getElem_map, List.getElem_range]
      exact (hq i hi').2.2
    clear hl2 hz hsz
    have hi' : i < len' := by simpa using hi
    obtain ⟨b, off, spot⟩ := a
    have hz := (hq 0 (by omega)).1 0 _ rfl
    have hspot : spot = none := by simpa [Addr.add] using World.cell?_spot hz
    subst hspot
    rw [List.getElem_map, List.getElem_range]
    refine ⟨b, off, rfl, ?_, ?_, (hq i hi').2.1⟩
    · have := blk_lt hz; rw [add_at, add_at] at this; exact this
    · intro j u hu
      have := (hq i hi').1 j u hu
      rw [add_at, add_at] at this
      exact this
end
end Go.Proofs.YtogagkgkmoppmaaGreatDoor
