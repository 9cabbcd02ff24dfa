/-
  A new monitor; a trace that came in; which traces are gone through; what the law asks of a new monitor.
  Conditions: those that each theorem names.
-/
import Derived.Test.YtogagkgkmoppmaaGreatDoorJuVZs
import Derived.Test.YtogagkgkmoppmaaGreatDoorMonBZs
import Derived.SizedLaws
import Derived.Deep.Slices
import Derived.ChangeArms
import Derived.ChangeShapes
import Derived.WideShapes
import Derived.Test.YtogagkgkmoppmaaGreatDoorBaseZs
import Derived.ProofKit
import Derived.OpenShut
import Derived.ShutString
import Derived.Carry
import Derived.Lib.SmallJoins
import Derived.Test.YtogagkgkmoppmaaGreatDoorJuZBZs
import Derived.Test.YtogagkgkmoppmaaGreatDoorApV
import Derived.Test.YtogagkgkmoppmaaGreatDoorApA
import Derived.Test.YtogagkgkmoppmaaGreatDoorZdF
namespace Go.Proofs.YtogagkgkmoppmaaGreatDoor
set_option linter.unusedVariables false
set_option linter.unusedSimpArgs false
open Go.RowKit GM
def newM (s : Nat) : MM := ⟨⟨s, s + 1, s + 2, none, 0, 0, s + 3, s + 4, 0, 0, 0, 0⟩, [], [], [], [], [], []⟩
def ev0 : Ev := ⟨5, 0, 0, 0, 0, 0, 0, ⟨0, 0, 0, 0, [], ⟨#[]⟩, none, 0⟩, 0, 0, 0, 0, none, 0, 0, ⟨#[]⟩⟩
def ev1 : Ev := ⟨2, 1, 0, 0, 0, 0, 0, ⟨0, 0, 0, 0, [], ⟨#[]⟩, none, 0⟩, 0, 0, 0, 0, none, 0, 0, ⟨#[]⟩⟩
theorem evA0 : evA ev0 = #[.int .i64 5, .int .i64 0, .int .u64 0, .int .i64 0, .int .u64 0, .int .i64 0, .int .u64 0, .int .i64 0, .int .u32 0, .int .u64 0, .int .i64 0, .slice none 0 0, .string ⟨#[]⟩, .int .u64 0, .int .u64 0, .int .i64 0, .int .u64 0, .slice none 0 0, .string ⟨#[]⟩] := rfl
theorem evA1 : evA ev1 = #[.int .i64 2, .int .i64 1, .int .u64 0, .int .i64 0, .int .u64 0, .int .i64 0, .int .u64 0, .int .i64 0, .int .u32 0, .int .u64 0, .int .i64 0, .slice none 0 0, .string ⟨#[]⟩, .int .u64 0, .int .u64 0, .int .i64 0, .int .u64 0, .slice none 0 0, .string ⟨#[]⟩] := rfl
theorem told2 : (padd PM0 ev0).broken = 0 ∧ (padd (padd PM0 ev0) ev1).broken = 1 ∧ (padd (padd PM0 ev0) ev1).len = 2 ∧ (padd (padd PM0 ev0) ev1).at_ = 2 ∧ (padd (padd PM0 ev0) ev1).rule = 1 := by
  refine ⟨rfl, rfl, rfl, rfl, rfl⟩
theorem res_c {M : MM} {P : PM} (h : proj M = P) : M.c.broken = P.broken ∧ M.c.len = P.len ∧ M.c.at_ = P.at_ ∧ M.c.rule = P.rule := by
  subst h
  exact ⟨rfl, rfl, rfl, rfl⟩
end Go.Proofs.YtogagkgkmoppmaaGreatDoor
namespace Go.Proofs.YtogagkgkmoppmaaGreatDoor
set_option linter.unusedVariables false
set_option linter.unusedSimpArgs false
open Go.RowKit GM
theorem told_nums (l : List Ev) : 0 ≤ (told l).broken ∧ 0 ≤ (told l).at_ := by
  suffices ∀ (l : List Ev) (P : PM), 0 ≤ P.broken → 0 ≤ P.at_ → 0 ≤ P.len → 0 ≤ (l.foldl padd P).broken ∧ 0 ≤ (l.foldl padd P).at_ from this l PM0 (by decide) (by decide) (by decide)
  intro l
  induction l with
  | nil => intro P h1 h2 _; exact ⟨h1, h2⟩
  | cons x l ih =>
    intro P h1 h2 h3
    have h := padd_added P x
    have hb := h.broken
    unfold Le at hb
    refine ih _ (by omega) ?_ (by rw [h.len]; omega)
    by_cases h0 : P.at_ = 0
    · by_cases h4 : 0 < (padd P x).broken
      · rw [(h.now h0 h4).1]
        omega
      · rw [(h.not h0 h4).1]
        omega
    · rw [(h.was h0).1]
      exact h2
theorem rowCells (l : List Value) : l.toArray.toList = l := by simp
end Go.Proofs.YtogagkgkmoppmaaGreatDoor
namespace Go.Proofs.YtogagkgkmoppmaaGreatDoor
set_option linter.unusedVariables false
set_option linter.unusedSimpArgs false
open Go.RowKit
def NumsRd (w0 : World) (da : Option Addr) (ds : List Nat) : Prop := ds.length ≤ 35184372087808 ∧ ∀ i (h : i < ds.length), ds[i] < 4294967296 ∧ ∃ b o, da = some ⟨b, o, none⟩ ∧ b < w0.heap.size ∧ w0.cell? ⟨b, o + i, none⟩ = some (.int .u32 (ds[i] : Int))
theorem NumsRd.nil (w : World) : NumsRd w none [] := ⟨by simp, fun i h => absurd h (by simp)⟩
theorem add_at (b o i : Nat) : (⟨b, o, none⟩ : Addr).add i = ⟨b, o + i, none⟩ := by unfold Addr.add; split <;> simp_all
theorem NumsRd.reads {w : World} {da : Option Addr} {ds : List Nat} (h : NumsRd w da ds) : Reads w w.heap.size 1 da ds.length (numsM ds) := by
  refine ⟨by rw [numsM_len]; omega, fun hn => ?_⟩
  obtain ⟨_, B, O, e, hB, _⟩ := h.2 0 hn
  refine ⟨_, e, hB, fun j u hu => ?_⟩
  have hj : j < ds.length := by have := (List.getElem?_eq_some_iff.1 hu).1; rwa [numsM_len] at this
  obtain ⟨_, B', O', e', _, hc⟩ := h.2 j hj
  rw [e] at e'
  injection e' with e'
  injection e' with e1 e2
  subst e1; subst e2
  unfold numsM at hu
  rw [List.getElem?_map, List.getElem?_eq_getElem hj] at hu
  injection hu with hu
  rw [← hu, ← hc]
  congr 1
  unfold Addr.add
  split <;> simp_all
def MsgRd (w : World) (m : Msg) : Prop := m.pay.size ≤ 140737488351232 ∧ m.seq < 4294967296 ∧ m.stamp < 18446744073709551616 ∧ NumsRd w m.da m.ds
section
open Go.ChangeShapes Go.WideShapes Go.Deep
variable {H : Type} {enc : TypeId × Value → H} {w : World} {base : Nat} {spare : Nat → Bool} {held : Bool}
def WSz (P : Program) (t : TypeId) (d : DataW H) : Prop := ∀ n ∈ d.weights P t, n ≤ reachBytes
theorem sz_field {P : Program} {t : TypeId} {fs : Array Field} (hu : P.underlying t = some (.struct fs)) {xs : List (DataW H × List MemPlace)} (hz : WSz P t (.agg (xs.map (·.1)))) (j : Nat) {f : Field} {y : DataW H × List MemPlace} (hf : fs[j]? = some f) (hy : xs[j]? = some y) : WSz P f.type y.1 := by
  intro n hn
  refine hz n ?_
  simp only [DataW.weights, hu]
  exact DataW.weights_mem_each (j := j) (by simp [hf]) (by simp [hy]) n hn
theorem weightsAll_mem {P : Program} {e : TypeId} : ∀ {ds : List (DataW H)} {d : DataW H}, d ∈ ds → ∀ n ∈ d.weights P e, n ∈ DataW.weightsAll P e ds
  | d0 :: ds, d, hd, n, hn => by
    simp only [DataW.weightsAll, List.mem_append]
    rcases List.mem_cons.1 hd with rfl | hd
    · exact .inl hn
    · exact .inr (weightsAll_mem hd n hn)
theorem sz_elems {P : Program} {t e : TypeId} (hu : P.underlying t = some (.slice e)) {a b : List (DataW H)} (hz : WSz P t (.slice a b)) : (a.length + b.length) * P.bytesOf e ≤ reachBytes ∧ ∀ d ∈ a, WSz P e d := by
  constructor
  · exact hz _ (by simp [DataW.weights, hu])
  · intro d hd n hn
    refine hz n ?_
    simp only [DataW.weights, hu, List.mem_cons, List.mem_append]
    exact .inr (.inl (weightsAll_mem hd n hn))
theorem blk_lt {w : World} {p : Addr} {v : Value} (h : w.cell? p = some v) : p.block < w.heap.size := by
  rcases Nat.lt_or_ge p.block w.heap.size with h' | h'
  · exact h'
  · obtain ⟨b, o, s⟩ := p
    simp [World.cell?, Array.getElem?_eq_none h'] at h
theorem bytes32 : Tryz.prog.bytesOf 28 = 4 := by kernel_rfl
set_option maxRecDepth 100000 in
theorem vec_of {fuel : Nat} {v : Value} {x : DataW H × List MemPlace} (h : DataW.trod enc Tryz.prog w base spare held fuel 29 [v] = some x) (hz : WSz Tryz.prog 29 x.1) :
    ∃ (ad : Option Addr) (ds : List Nat) (cap : Nat), v = .slice ad ds.length cap ∧ NumsRd w ad ds := by
  have h1 : Tryz.prog.cellsOf 28 = 1 := by kernel_rfl
  rcases open_slice Tryz.underlying29 h with ⟨h0, _⟩ | ⟨a, len, cap, m, n, D, Pl, h0, hb, hl, hm, hmm, hxx, hx⟩
  · simp at h0
    subst h0
    exact ⟨none, [], 0, rfl, NumsRd.nil w⟩
  · simp at h0
    subst h0
    have hlm : len ≤ m := by rw [hmm]; split <;> omega
    rw [hxx] at hz
    have hlen4 : len * 4 ≤ 140737488351232 := by
      have := (sz_elems Tryz.underlying29 hz).1
      rw [bytes32] at this
      simp [reachBytes] at this
      omega
    have each : ∀ i, i < len → ∃ x : Nat, w.cell? (a.add i) = some (.int .u32 (x : Int)) ∧ x < 4294967296 := by
      intro i hi
      obtain ⟨cs', hc1, hc2⟩ := hx i (by omega)
      rw [h1, Nat.mul_one] at hc1
      obtain ⟨_, hlen, hcell⟩ := World.cells?_some hc1
      match cs', hlen with
      | [u], _ =>
        obtain ⟨z, e, _, hz⟩ := DataW.trod_int Tryz.underlying28 hc2
        simp at e
        subst e
        have hz2 : 0 ≤ z ∧ z ≤ 4294967295 := by have := hz; simp [Lit.wf, IntKind.min, IntKind.max, IntKind.signed, IntKind.bits] at this; exact this
        have := hcell 0 (by simp)
        simp [Addr.add] at this
        exact ⟨z.toNat, by rw [show ((z.toNat : Nat) : Int) = z from by omega]; simpa [Addr.add] using this, by omega⟩
    obtain ⟨q, hq⟩ := choose_lt each
    have hl2 : ((List.range len).map q).length ≤ 35184372087808 := by simp; omega
    clear hlen4
    refine ⟨some a, (List.range len).map q, cap, by simp, hl2, fun i hi => ?_⟩
    clear hl2
    have hi' : i < len := by simpa using hi
    obtain ⟨b, off, spot⟩ := a
    have hz := (hq 0 (by omega)).1
    have hspot : spot = none := by simpa [Addr.add] using World.cell?_spot hz
    subst hspot
    rw [List.getElem_map, List.getElem_range]
    refine ⟨(hq i hi').2, b, off, rfl, ?_, ?_⟩
    · have := blk_lt hz; rw [add_at] at this; exact this
    · have := (hq i hi').1; rw [add_at] at this; exact this
theorem u64_nat {a : Int} (h : (Lit.int .u64 a).wf = true) : ∃ n : Nat, a = (n : Int) ∧ n < 18446744073709551616 := by
  have hn2 : 0 ≤ a ∧ a ≤ 18446744073709551615 := by have := h; simp [Lit.wf, IntKind.min, IntKind.max, IntKind.signed, IntKind.bits] at this; exact this
  exact ⟨a.toNat, by omega, by omega⟩
theorem u32_nat {a : Int} (h : (Lit.int .u32 a).wf = true) : ∃ n : Nat, a = (n : Int) ∧ n < 4294967296 := by
  have hn2 : 0 ≤ a ∧ a ≤ 4294967295 := by have := h; simp [Lit.wf, IntKind.min, IntKind.max, IntKind.signed, IntKind.bits] at this; exact this
  exact ⟨a.toNat, by omega, by omega⟩
set_option maxRecDepth 100000 in
theorem two_of {t : TypeId} {o1 o2 : Nat} {f1 f2 : Field} {v0 v1 : Value} {fuel : Nat} {x : DataW H × List MemPlace} (ht : Tryz.prog.underlying t = some (.struct #[f1, f2])) (t1 : f1.type = 25) (t2 : f2.type = 3) (ho1 : f1.offset = 0) (ho2 : f2.offset = 1)
    (h : DataW.trod enc Tryz.prog w base spare held fuel t [v0, v1] = some x) : ∃ (a : Nat) (b : Int), v0 = .int .u64 (a : Int) ∧ v1 = .int .i64 b ∧ a < 18446744073709551616 := by
  obtain ⟨xs, k, hk, hxy, _, hxl, hf⟩ := DataW.trod_struct ht h
  have c1 : Tryz.prog.cellsOf 25 = 1 := by kernel_rfl
  have c2 : Tryz.prog.cellsOf 3 = 1 := by kernel_rfl
  match xs, hxl with
  | [y0, y1], _ =>
    have g0 := hf 0 _ rfl
    have g1 := hf 1 _ rfl
    simp [c1, c2, t1, t2, ho1, ho2] at g0 g1
    obtain ⟨a, e0, _, hn⟩ := DataW.trod_int Tryz.underlying25 g0
    obtain ⟨b, e1, _⟩ := DataW.trod_int Tryz.underlying3 g1
    simp at e0 e1
    obtain ⟨n, rfl, hn2⟩ := u64_nat hn
    exact ⟨n, b, e0, e1, hn2⟩
set_option maxRecDepth 100000 in
theorem mes_of {fuel : Nat} {cs : List Value} {x : DataW H × List MemPlace} (hl : cs.length = 6) (h : DataW.trod enc Tryz.prog w base spare held fuel 31 cs = some x) (hz : WSz Tryz.prog 31 x.1) :
    ∃ m : Msg, cs = (msgA m).toList ∧ MsgRd w m := by
  obtain ⟨xs, k, hk, hxy, _, hxl, hf⟩ := DataW.trod_struct Tryz.underlying31 h
  rw [hxy] at hz
  have c1 : Tryz.prog.cellsOf 25 = 1 := by kernel_rfl
  have c2 : Tryz.prog.cellsOf 3 = 1 := by kernel_rfl
  have c3 : Tryz.prog.cellsOf 9 = 1 := by kernel_rfl
  have c4 : Tryz.prog.cellsOf 28 = 1 := by kernel_rfl
  have c5 : Tryz.prog.cellsOf 29 = 1 := by kernel_rfl
  match xs, hxl, cs, hl with
  | [y0, y1, y2, y3, y4, y5], _, [v0, v1, v2, v3, v4, v5], _ =>
    have g0 := hf 0 _ rfl
    have g1 := hf 1 _ rfl
    have g2 := hf 2 _ rfl
    have g3 := hf 3 _ rfl
    have g4 := hf 4 _ rfl
    have g5 := hf 5 _ rfl
    simp [c1, c2, c3, c4, c5] at g0 g1 g2 g3 g4 g5
    have hU := Tryz.underlying31
    obtain ⟨a0, e0, _⟩ := DataW.trod_int Tryz.underlying3 g0
    obtain ⟨a1, e1, _, hq⟩ := DataW.trod_int Tryz.underlying28 g1
    obtain ⟨a2, e2, _, hn⟩ := DataW.trod_int Tryz.underlying25 g2
    obtain ⟨a3, e3, _⟩ := DataW.trod_int Tryz.underlying3 g3
    obtain ⟨ad, ds, dc, e4, hd⟩ := vec_of g4 (sz_field hU hz 4 rfl rfl)
    obtain ⟨a5, e5, ey5, _⟩ := DataW.trod_string Tryz.underlying9 g5
    have hs5 : a5.size ≤ 140737488351232 := by
      have h5 : WSz Tryz.prog 9 y5.1 := sz_field hU hz 5 rfl rfl
      rw [ey5] at h5
      have := h5 a5.data.toList.length (by simp [DataW.weights])
      simp [reachBytes] at this
      exact this
    simp at e0 e1 e2 e3 e5
    obtain ⟨n2, rfl, hn2⟩ := u64_nat hn
    obtain ⟨n1, rfl, hn1⟩ := u32_nat hq
    subst e0 e1 e2 e3 e4 e5
    exact ⟨⟨a0, n1, n2, a3, ds, a5, ad, dc⟩, rfl, hs5, hn1, hn2, hd⟩
theorem bytesE : Tryz.prog.bytesOf 36 = 200 := by kernel_rfl
theorem bytesN : Tryz.prog.bytesOf 97 = 16 := by kernel_rfl
instance : Inhabited Ev := ⟨⟨0, 0, 0, 0, 0, 0, 0, ⟨0, 0, 0, 0, [], ⟨#[]⟩, none, 0⟩, 0, 0, 0, 0, none, 0, 0, ⟨#[]⟩⟩⟩
set_option maxRecDepth 100000 in
theorem view_of {fuel : Nat} {v0 v1 v2 v3 : Value} {x : DataW H × List MemPlace} (h : DataW.trod enc Tryz.prog w base spare held fuel 33 [v0, v1, v2, v3] = some x) : ∃ (a b : Nat) (c : Int) (d : Nat), v0 = .int .u64 (a : Int) ∧ v1 = .int .u64 (b : Int) ∧ v2 = .int .i64 c ∧ v3 = .int .u64 (d : Int) := by
  obtain ⟨xs, k, hk, hxy, _, hxl, hf⟩ := DataW.trod_struct Tryz.underlying33 h
  have c1 : Tryz.prog.cellsOf 25 = 1 := by kernel_rfl
  have c2 : Tryz.prog.cellsOf 27 = 2 := by kernel_rfl
  match xs, hxl with
  | [y0, y1, y2], _ =>
    have g0 := hf 0 _ rfl
    have g1 := hf 1 _ rfl
    have g2 := hf 2 _ rfl
    simp [c1, c2] at g0 g1 g2
    obtain ⟨a, e0, _, h0⟩ := DataW.trod_int Tryz.underlying25 g0
    obtain ⟨b1, b2, e1, e2, hb⟩ := two_of (o1 := 0) (o2 := 0) Tryz.underlying27 rfl rfl rfl rfl g1
    obtain ⟨d, e3, _, h3⟩ := DataW.trod_int Tryz.underlying25 g2
    simp at e0 e3
    obtain ⟨n0, rfl, _⟩ := u64_nat h0
    obtain ⟨n3, rfl, _⟩ := u64_nat h3
    exact ⟨n0, b1, b2, n3, e0, e1, e2, e3⟩
set_option maxRecDepth 100000 in
theorem names_of {fuel : Nat} {v : Value} {x : DataW H × List MemPlace} (h : DataW.trod enc Tryz.prog w base spare held fuel 34 [v] = some x) (hz : WSz Tryz.prog 34 x.1) : ∃ (ad : Option Addr) (n cap : Nat), v = .slice ad n cap ∧ n ≤ 140737488351232 := by
  rcases open_slice Tryz.underlying34 h with ⟨h0, _⟩ | ⟨a, len, cap, m, n, D, Pl, h0, hb, hl, hm, hmm, hxx, hx⟩
  · simp at h0
    subst h0
    exact ⟨none, 0, 0, rfl, by omega⟩
  · simp at h0
    subst h0
    have hlm : len ≤ m := by rw [hmm]; split <;> omega
    rw [hxx] at hz
    have := (sz_elems Tryz.underlying34 hz).1
    rw [bytesN] at this
    simp [reachBytes] at this
    exact ⟨_, _, _, rfl, by omega⟩
set_option maxRecDepth 100000 in
theorem ev_of {fuel : Nat} {cs : List Value} {x : DataW H × List MemPlace} (hl : cs.length = 19) (h : DataW.trod enc Tryz.prog w base spare held fuel 36 cs = some x) (hz : WSz Tryz.prog 36 x.1) : ∃ y : Ev, cs = (evA y).toList ∧ EvOk w y := by
  obtain ⟨xs, k, hk, hxy, _, hxl, hf⟩ := DataW.trod_struct Tryz.underlying36 h
  rw [hxy] at hz
  have ci : Tryz.prog.cellsOf 3 = 1 := by kernel_rfl
  have cc : Tryz.prog.cellsOf 27 = 2 := by kernel_rfl
  have cm : Tryz.prog.cellsOf 31 = 6 := by kernel_rfl
  have c8 : Tryz.prog.cellsOf 25 = 1 := by kernel_rfl
  have cv : Tryz.prog.cellsOf 33 = 4 := by kernel_rfl
  have cn : Tryz.prog.cellsOf 34 = 1 := by kernel_rfl
  have cst : Tryz.prog.cellsOf 9 = 1 := by kernel_rfl
  obtain ⟨y0, y1, y2, y3, y4, y5, y6, y7, y8, rfl⟩ : ∃ y0 y1 y2 y3 y4 y5 y6 y7 y8, xs = [y0, y1, y2, y3, y4, y5, y6, y7, y8] := by
    match xs, hxl with
    | [y0, y1, y2, y3, y4, y5, y6, y7, y8], _ => exact ⟨y0, y1, y2, y3, y4, y5, y6, y7, y8, rfl⟩
  obtain ⟨v0, v1, v2, v3, v4, v5, v6, v7, v8, v9, v10, v11, v12, v13, v14, v15, v16, v17, v18, rfl⟩ : ∃ v0 v1 v2 v3 v4 v5 v6 v7 v8 v9 v10 v11 v12 v13 v14 v15 v16 v17 v18, cs = [v0, v1, v2, v3, v4, v5, v6, v7, v8, v9, v10, v11, v12, v13, v14, v15, v16, v17, v18] := by
    match cs, hl with
    | [v0, v1, v2, v3, v4, v5, v6, v7, v8, v9, v10, v11, v12, v13, v14, v15, v16, v17, v18], _ => exact ⟨v0, v1, v2, v3, v4, v5, v6, v7, v8, v9, v10, v11, v12, v13, v14, v15, v16, v17, v18, rfl⟩
  have g0 := hf 0 _ rfl
  have g1 := hf 1 _ rfl
  have g2 := hf 2 _ rfl
  have g3 := hf 3 _ rfl
  have g4 := hf 4 _ rfl
  have g5 := hf 5 _ rfl
  have g6 := hf 6 _ rfl
  have g7 := hf 7 _ rfl
  have g8 := hf 8 _ rfl
  simp [ci, cc, cm, c8, cv, cn, cst] at g0 g1 g2 g3 g4 g5 g6 g7 g8
  have hU := Tryz.underlying36
  obtain ⟨a0, e0, _⟩ := DataW.trod_int Tryz.underlying3 g0
  obtain ⟨a1, e1, _⟩ := DataW.trod_int Tryz.underlying3 g1
  obtain ⟨a2, a3, e2, e3, _⟩ := two_of (o1 := 0) (o2 := 0) Tryz.underlying27 rfl rfl rfl rfl g2
  obtain ⟨a4, a5, e4, e5, _⟩ := two_of (o1 := 0) (o2 := 0) Tryz.underlying27 rfl rfl rfl rfl g3
  obtain ⟨a6, e6, _, h6⟩ := DataW.trod_int Tryz.underlying25 g4
  obtain ⟨m, em, hm⟩ := mes_of (by rfl) g5 (sz_field hU hz 5 rfl rfl)
  obtain ⟨b0, b1, b2, b3, e13, e14, e15, e16⟩ := view_of g6
  obtain ⟨na, nl, nc, e17, hnl⟩ := names_of g7 (sz_field hU hz 7 rfl rfl)
  obtain ⟨st, e18, ey8, _⟩ := DataW.trod_string Tryz.underlying9 g8
  have hs8 : st.size ≤ 140737488351232 := by
    have h8 : WSz Tryz.prog 9 y8.1 := sz_field hU hz 8 rfl rfl
    rw [ey8] at h8
    have := h8 st.data.toList.length (by simp [DataW.weights])
    simp [reachBytes] at this
    exact this
  simp at e0 e1 e6 e18
  obtain ⟨n6, rfl, _⟩ := u64_nat h6
  have em' : [v7, v8, v9, v10, v11, v12] = (msgA m).toList := em
  simp only [msgA, List.cons.injEq, and_true] at em'
  obtain ⟨m7, m8, m9, m10, m11, m12⟩ := em'
  refine ⟨⟨a0, a1, a2, a3, a4, a5, n6, m, b0, b1, b2, b3, na, nl, nc, st⟩, ?_, ?_⟩
  · rw [e0, e1, e2, e3, e4, e5, e6, m7, m8, m9, m10, m11, m12, e13, e14, e15, e16, e17, e18]
    rfl
  · exact ⟨hm.2.2.2.reads, fun q hq => by
      obtain ⟨i, hi, rfl⟩ := List.mem_iff_getElem.1 hq
      exact (hm.2.2.2.2 i hi).1, hm.2.2.2.1, hm.1, hs8, hnl⟩
set_option maxRecDepth 100000 in
theorem evs_arg {r : Go.Reach} {b0 : Nat} {v : Value} {d : DataW H} {pl : List MemPlace} (hv : Value.okWide Tryz.prog w r b0 22 v) (h : DataW.Trod enc Tryz.prog w base spare held 22 v d pl) (hz : WSz Tryz.prog 22 d) :
    ∃ (ad : Option Addr) (l : List Ev) (cap : Nat), v = .slice ad l.length cap ∧ EvsAt w ad l := by
  obtain ⟨fuel, hf⟩ := h
  obtain ⟨a', len', cap', rfl⟩ := okWide_slice Tryz.underlying22 hv
  have hcs : (Value.slice a' len' cap').cells.toList = [Value.slice a' len' cap'] := by simp [Value.cells]
  have h19 : Tryz.prog.cellsOf 36 = 19 := by kernel_rfl
  rcases open_slice Tryz.underlying22 hf with ⟨h0, _⟩ | ⟨a, len, cap, m, n, D, Pl, h0, hb, hl, hm, hmm, hxx, hx⟩
  · rw [hcs] at h0
    simp at h0
    obtain ⟨_, rfl, _⟩ := h0
    exact ⟨_, [], _, rfl, by simp, fun i h => absurd h (by simp)⟩
  · rw [hcs] at h0
    simp at h0
    obtain ⟨rfl, rfl, rfl⟩ := h0
    have hlm : len' ≤ m := by rw [hmm]; split <;> omega
    have hd : d = _ := congrArg Prod.fst hxx
    rw [hd] at hz
    have hsz := sz_elems Tryz.underlying22 hz
    have hlen4 : len' ≤ 140737488351232 := by
      have := hsz.1
      rw [bytesE] at this
      simp [reachBytes] at this
      omega
    have each : ∀ i, i < len' → ∃ y : Ev, (∀ j u, (evA y).toList[j]? = some u → w.cell? ((a.add (i * 19)).add j) = some u) ∧ EvOk w y := by
      intro i hi
      obtain ⟨cs', h1, h2⟩ := hx i (by omega)
      rw [h19] at h1
      obtain ⟨_, hlen, hcell⟩ := World.cells?_some h1
      obtain ⟨y, e, hq⟩ := ev_of hlen h2 (hsz.2 _ (List.mem_map.2 ⟨i, List.mem_range.2 hi, rfl⟩))
      refine ⟨y, fun j u hu => ?_, hq⟩
      rw [← e] at hu
      have hj : j < 19 := by have := (List.getElem?_eq_some_iff.1 hu).1; omega
      exact (hcell j hj).trans hu
    obtain ⟨q, hq⟩ := choose_lt each
    have hl2 : ((List.range len').map q).length ≤ 140737488351232 := by simpa using hlen4
    clear hlen4
    refine ⟨some a, (List.range len').map q, cap', by simp, hl2, fun i hi => ?_⟩
    clear hl2 hz hsz
    have hi' : i < len' := by simpa using hi
    obtain ⟨b, off, spot⟩ := a
    have hz := (hq 0 (by omega)).1 0 _ rfl
    have hspot : spot = none := by simpa [Addr.add] using World.cell?_spot hz
    subst hspot
    rw [List.getElem_map, List.getElem_range]
    refine ⟨b, off, rfl, ?_, ?_, (hq i hi').2⟩
    · have := blk_lt hz; rw [add_at, add_at] at this; exact this
    · intro j u hu
      have := (hq i hi').1 j u hu
      rw [add_at, add_at] at this
      exact this
end
end Go.Proofs.YtogagkgkmoppmaaGreatDoor
namespace Go.Proofs.YtogagkgkmoppmaaGreatDoor
set_option linter.unusedVariables false
open Go.RowKit Go.WideShapes Go.ChangeShapes
section
variable {H : Type} {enc : TypeId × Value → H} {P : Program}
theorem trodAll_stays (hl : laidOutB P = true) {W W' : World} {sp' : Nat → Bool} : ∀ {ts : List TypeId} {vs : List Value} {ds : List (DataW H)} {ps : List MemPlace},
    (∀ t ∈ ts, P.readableRec t = true ∧ t < P.types.size) → DataW.TrodAll enc P W 0 (fun _ => true) true ts vs ds ps → (∀ x ∈ ps, W.sameAt W' x) → (∀ x ∈ ps, sp' x.block = true) → DataW.TrodAll enc P W' 0 sp' true ts vs ds ps
  | [], vs, ds, ps, _, h, _, _ => by
    obtain ⟨rfl, rfl, rfl⟩ := trodAll_nil h
    exact trodAll_mk0
  | t :: ts, vs, ds, ps, hr, h, hs, hsp => by
    obtain ⟨v, vs', d, ds', p, p', rfl, rfl, rfl, h0, h1⟩ := trodAll_cons h
    refine trodAll_cons_mk ?_ ?_
    · exact WideElems.Trod_stays hl (hr t (List.mem_cons_self ..)).1 (hr t (List.mem_cons_self ..)).2 h0 (fun x hx => hs x (List.mem_append_left _ hx)) (fun x hx => hsp x (List.mem_append_left _ hx))
    · exact trodAll_stays hl (fun t ht => hr t (List.mem_cons_of_mem _ ht)) h1 (fun x hx => hs x (List.mem_append_right _ hx)) (fun x hx => hsp x (List.mem_append_right _ hx))
theorem law_post {f : Func} {s : ChangeSpec} {apart fresh handsOn again : Bool} {W W' : World} {args : Array Value} {ds gs : List (DataW H)} {before : List MemPlace} {tb : TypeId}
    (hl : laidOutB P = true) (hr : ∀ t ∈ f.params.toList, P.readableRec t = true ∧ t < P.types.size)
    (hW : DataW.Whole enc P f.params.toList s.vars apart W args.toList ds gs before) (hvars : s.vars = []) (hres : f.resultTypes = #[tb]) (htb : P.underlying tb = some .bool)
    (hf1 : (s.fn H (ds ++ gs)).results = [.lit (.bool true)]) (hf2 : (s.fn H (ds ++ gs)).args = ds) (hf3 : (s.fn H (ds ++ gs)).vars = []) (hb : Below W.heap.size W W') :
    s.post enc P f apart fresh handsOn again W args (.bool true) W' := by
  have hlt : ∀ p ∈ before, p.block < W.heap.size := fun p hp => hW.lt p hp
  have hW0 := hW
  obtain ⟨p, q, hA, hV, rfl, hfz, hnd⟩ := hW
  rw [hvars] at hV
  obtain ⟨rfl, rfl⟩ := trodVars_none hV
  refine post_of_below (pa := p) (pv := []) hW0 ?_ ?_ ?_ rfl hb ?_
  · intro b sp hd
    rw [hres, hf1]
    exact trodAll_cons_mk (shut_bool htb _) trodAll_mk0
  · intro sp hsp
    rw [hf2]
    exact trodAll_stays hl hr hA (fun x hx => hb.same (hlt x (List.mem_append_left _ hx))) (fun x hx => hsp x (List.mem_append_left _ hx))
  · intro sp hsp
    rw [hvars, hf3]
    rfl
  · exact ok_one hres rfl (okWide_bool_mk htb _)
end
end Go.Proofs.YtogagkgkmoppmaaGreatDoor
namespace Go.Proofs.YtogagkgkmoppmaaGreatDoor
set_option linter.unusedVariables false
set_option linter.unusedSimpArgs false
open Go.RowKit GM
/-- when a trace was broken first, and by which rule -/
theorem told_first (l : List Ev) : ((told l).at_ = 0 ∧ (told l).broken = 0) ∨ ∃ k : Nat, 1 ≤ k ∧ k ≤ l.length ∧ (told l).at_ = (k : Int) ∧ (told (l.take k)).broken = (told l).rule ∧ (told (l.take (k - 1))).broken = 0 ∧ 0 < (told l).broken := by
  suffices ∀ n, n ≤ l.length → (((told (l.take n)).at_ = 0 ∧ (told (l.take n)).broken = 0) ∨ ∃ k : Nat, 1 ≤ k ∧ k ≤ n ∧ (told (l.take n)).at_ = (k : Int) ∧ (told (l.take k)).broken = (told (l.take n)).rule ∧ (told (l.take (k - 1))).broken = 0 ∧ 0 < (told (l.take n)).broken) by
    have h := this l.length (Nat.le_refl _)
    rw [List.take_length] at h
    exact h
  intro n
  induction n with
  | zero => exact fun _ => .inl ⟨rfl, rfl⟩
  | succ n ih =>
    intro hn
    have ih := ih (by omega)
    have e : told (l.take (n + 1)) = padd (told (l.take n)) l[n] := by rw [List.take_succ_eq_append_getElem (by omega), told_snoc]
    have had := padd_added (told (l.take n)) l[n]
    rw [← e] at had
    have hlen : (told (l.take n)).len = (n : Int) := by
      rw [told_len, List.length_take]
      omega
    have hle := had.broken
    unfold Le at hle
    rcases ih with ⟨h1, h2⟩ | ⟨k, h1, h2, h3, h4, h5, h6⟩
    · by_cases hb : 0 < (told (l.take (n + 1))).broken
      · obtain ⟨q1, q2⟩ := had.now h1 hb
        exact .inr ⟨n + 1, by omega, Nat.le_refl _, by rw [q1, hlen]; rfl, q2.symm, h2, hb⟩
      · exact .inl ⟨(had.not h1 hb).1, by omega⟩
    · obtain ⟨q1, q2⟩ := had.was (by omega)
      exact .inr ⟨k, h1, by omega, by rw [q1, h3], by rw [q2, h4], h5, by omega⟩
def NmAt (w : World) (l : List Ev) (nm : Nat → List NameK) : Prop := ∀ i (h : i < l.length), (nm i).length = l[i].nl ∧ Reads w w.heap.size 2 l[i].na l[i].nl (namesV (nm i))
theorem tr_of {w : World} {ad : Option Addr} {l : List Ev} {nm : Nat → List NameK} (h : EvsAt w ad l) (hn : NmAt w l nm) : ∃ g o, Tr w g o l nm ∧ (0 < l.length → ad = some ⟨g, o, none⟩) := by
  cases l with
  | nil => exact ⟨0, 0, ⟨by simp, fun i hi => by simp at hi, fun i hi => by simp at hi⟩, fun h => by simp at h⟩
  | cons x l =>
    obtain ⟨g, o, e, _⟩ := h.2 0 (by simp)
    refine ⟨g, o, ⟨h.1, fun i hi => ?_, hn⟩, fun _ => e⟩
    obtain ⟨g', o', e', h2⟩ := h.2 i hi
    rw [e] at e'
    injection e' with e'
    injection e' with e1 e2
    subst e1
    subst e2
    exact h2
theorem Tr.take {w : World} {g o : Nat} {l : List Ev} {nm : Nat → List NameK} (h : Tr w g o l nm) (k : Nat) : Tr w g o (l.take k) nm := by
  have hl : (l.take k).length ≤ l.length := by rw [List.length_take]; omega
  refine ⟨Nat.le_trans hl h.len, fun i hi => ?_, fun i hi => ?_⟩
  · rw [List.getElem_take]
    exact h.ev i (by omega)
  · rw [List.getElem_take]
    exact h.nms i (by omega)
theorem at_nil (w : World) : At w [] w := ⟨⟨fun p hp => (by cases hp), fun p hp => (by cases hp), List.Pairwise.nil⟩, br w⟩
/-- the judge of a trace's beginning -/
theorem evs_take {w : World} {ad : Option Addr} {l : List Ev} {nm : Nat → List NameK} (h : EvsAt w ad l) (hn : NmAt w l nm) (h5 : l.length ≤ 500) (W : World) (hb : Below w.heap.size w W) (k : Nat) (hk : k ≤ l.length) (cap : Nat) :
    Calls Tryz.prog 7 #[.slice ad k cap] W fun e w' => e = .returned (.int .i64 (told (l.take k)).broken) ∧ Below W.heap.size W w' := by
  obtain ⟨g, o, hT, had⟩ := tr_of h hn
  have hl : (l.take k).length = k := by rw [List.length_take]; omega
  have h := evs_any (at_nil W) ((hT.below hb).take k) ad (fun h0 => had (by omega)) cap (by omega)
  rw [hl] at h
  refine h.mono fun e w' ⟨h1, h2⟩ => ⟨?_, h2.bel⟩
  rw [h1, told_evs]
end Go.Proofs.YtogagkgkmoppmaaGreatDoor
namespace Go.Proofs.YtogagkgkmoppmaaGreatDoor
set_option linter.unusedVariables false
set_option linter.unusedSimpArgs false
open Go.RowKit
section
open Go.ChangeShapes Go.WideShapes Go.Deep
variable {H : Type} {enc : TypeId × Value → H} {w : World} {base : Nat} {spare : Nat → Bool} {held : Bool}
set_option maxRecDepth 100000 in
theorem name_of {fuel : Nat} {cs : List Value} {x : DataW H × List MemPlace} (hl : cs.length = 2) (h : DataW.trod enc Tryz.prog w base spare held fuel 97 cs = some x) : ∃ n : NameK, cs = [.int .i64 n.1, .int .u32 (n.2 : Int)] := by
  obtain ⟨xs, k, hk, hxy, _, hxl, hf⟩ := DataW.trod_struct Tryz.underlying97 h
  have c1 : Tryz.prog.cellsOf 3 = 1 := by kernel_rfl
  have c2 : Tryz.prog.cellsOf 28 = 1 := by kernel_rfl
  match xs, hxl, cs, hl with
  | [y0, y1], _, [v0, v1], _ =>
    have g0 := hf 0 _ rfl
    have g1 := hf 1 _ rfl
    simp [c1, c2] at g0 g1
    obtain ⟨a, e0, _⟩ := DataW.trod_int Tryz.underlying3 g0
    obtain ⟨b, e1, _, hq⟩ := DataW.trod_int Tryz.underlying28 g1
    simp at e0 e1
    obtain ⟨n1, rfl, hn1⟩ := u32_nat hq
    exact ⟨(a, n1), by rw [e0, e1]⟩
theorem namesV_len2 (L : List NameK) : (namesV L).length = L.length * 2 := by
  unfold namesV
  induction L with
  | nil => rfl
  | cons n L ih =>
    rw [List.flatMap_cons, List.length_append, ih]
    simp
    omega
theorem namesV_pos (L : List NameK) : ∀ (j : Nat) (u : Value), (namesV L)[j]? = some u → ∃ (i : Nat) (h : i < L.length) (r : Nat), j = i * 2 + r ∧ r < 2 ∧ [Value.int .i64 L[i].1, .int .u32 (L[i].2 : Int)][r]? = some u := by
  unfold namesV
  induction L with
  | nil => intro j u h; simp at h
  | cons n L ih =>
    intro j u h
    rw [List.flatMap_cons] at h
    rcases Nat.lt_or_ge j 2 with hj | hj
    · rw [List.getElem?_append_left (by simpa using hj)] at h
      exact ⟨0, by simp, j, by omega, hj, h⟩
    · rw [List.getElem?_append_right (by simpa using hj)] at h
      obtain ⟨i, hi, r, e, hr, h2⟩ := ih _ _ h
      simp only [List.length_cons, List.length_nil] at e
      exact ⟨i + 1, by simp; omega, r, by omega, hr, by simpa using h2⟩
set_option maxRecDepth 100000 in
theorem names_ofN {fuel : Nat} {v : Value} {x : DataW H × List MemPlace} (h : DataW.trod enc Tryz.prog w base spare held fuel 34 [v] = some x) : ∃ (ad : Option Addr) (L : List NameK) (cap : Nat), v = .slice ad L.length cap ∧ Reads w w.heap.size 2 ad L.length (namesV L) := by
  have h2 : Tryz.prog.cellsOf 97 = 2 := by kernel_rfl
  rcases open_slice Tryz.underlying34 h with ⟨h0, _⟩ | ⟨a, len, cap, m, n, D, Pl, h0, hb, hl, hm, hmm, hxx, hx⟩
  · simp at h0
    subst h0
    exact ⟨none, [], 0, rfl, by simp [namesV], fun h => by simp at h⟩
  · simp at h0
    subst h0
    have hlm : len ≤ m := by rw [hmm]; split <;> omega
    have each : ∀ i, i < len → ∃ q : NameK, ∀ (j : Nat) (u : Value), [Value.int .i64 q.1, .int .u32 (q.2 : Int)][j]? = some u → w.cell? ((a.add (i * 2)).add j) = some u := by
      intro i hi
      obtain ⟨cs', h3, h4⟩ := hx i (by omega)
      rw [h2] at h3
      obtain ⟨_, hlen, hcell⟩ := World.cells?_some h3
      obtain ⟨q, e⟩ := name_of hlen h4
      refine ⟨q, fun j u hu => ?_⟩
      rw [← e] at hu
      have hj : j < 2 := by have := (List.getElem?_eq_some_iff.1 hu).1; omega
      exact (hcell j hj).trans hu
    obtain ⟨q, hq⟩ := choose_lt each
    refine ⟨some a, (List.range len).map q, cap, by simp, by rw [namesV_len2], fun h0 => ?_⟩
    have h0 : 0 < len := by simpa using h0
    have hz := hq 0 h0 0 _ rfl
    obtain ⟨b, off, spot⟩ := a
    have hspot : spot = none := by simpa [Addr.add] using World.cell?_spot hz
    subst hspot
    refine ⟨_, rfl, ?_, fun j u hu => ?_⟩
    · have := blk_lt hz
      rw [add_at, add_at] at this
      exact this
    · obtain ⟨i, hi, r, e, hr, h3⟩ := namesV_pos _ j u hu
      have hi' : i < len := by simpa using hi
      rw [List.getElem_map, List.getElem_range] at h3
      have := hq i hi' r u h3
      rw [add_at, add_at] at this
      rw [add_at, e, ← Nat.add_assoc]
      exact this
set_option maxRecDepth 100000 in
theorem ev_ofN {fuel : Nat} {cs : List Value} {x : DataW H × List MemPlace} (hl : cs.length = 19) (h : DataW.trod enc Tryz.prog w base spare held fuel 36 cs = some x) (hz : WSz Tryz.prog 36 x.1) : ∃ (y : Ev) (L : List NameK), cs = (evA y).toList ∧ EvOk w y ∧ L.length = y.nl ∧ Reads w w.heap.size 2 y.na y.nl (namesV L) := by
  obtain ⟨y, rfl, hk⟩ := ev_of hl h hz
  obtain ⟨xs, k, hk2, hxy, _, hxl, hf⟩ := DataW.trod_struct Tryz.underlying36 h
  have ci : Tryz.prog.cellsOf 3 = 1 := by kernel_rfl
  have cc : Tryz.prog.cellsOf 27 = 2 := by kernel_rfl
  have cm : Tryz.prog.cellsOf 31 = 6 := by kernel_rfl
  have c8 : Tryz.prog.cellsOf 25 = 1 := by kernel_rfl
  have cv : Tryz.prog.cellsOf 33 = 4 := by kernel_rfl
  have cn : Tryz.prog.cellsOf 34 = 1 := by kernel_rfl
  have cst : Tryz.prog.cellsOf 9 = 1 := by kernel_rfl
  obtain ⟨y0, y1, y2, y3, y4, y5, y6, y7, y8, rfl⟩ : ∃ y0 y1 y2 y3 y4 y5 y6 y7 y8, xs = [y0, y1, y2, y3, y4, y5, y6, y7, y8] := by
    match xs, hxl with
    | [y0, y1, y2, y3, y4, y5, y6, y7, y8], _ => exact ⟨y0, y1, y2, y3, y4, y5, y6, y7, y8, rfl⟩
  have g7 := hf 7 _ rfl
  have g7 : DataW.trod enc Tryz.prog w base spare held k 34 [.slice y.na y.nl y.nc] = some y7 := g7
  obtain ⟨ad, L, cap, e, hr⟩ := names_ofN g7
  injection e with e1 e2 e3
  exact ⟨y, L, rfl, hk, e2.symm, by rw [e1, e2]; exact hr⟩
set_option maxRecDepth 100000 in
theorem evs_argN {r : Go.Reach} {b0 : Nat} {v : Value} {d : DataW H} {pl : List MemPlace} (hv : Value.okWide Tryz.prog w r b0 22 v) (h : DataW.Trod enc Tryz.prog w base spare held 22 v d pl) (hz : WSz Tryz.prog 22 d) :
    ∃ (ad : Option Addr) (l : List Ev) (cap : Nat) (nm : Nat → List NameK), v = .slice ad l.length cap ∧ EvsAt w ad l ∧ NmAt w l nm ∧ l.length ≤ cap := by
  obtain ⟨fuel, hf⟩ := h
  obtain ⟨a', len', cap', rfl⟩ := okWide_slice Tryz.underlying22 hv
  have hcs : (Value.slice a' len' cap').cells.toList = [Value.slice a' len' cap'] := by simp [Value.cells]
  have h19 : Tryz.prog.cellsOf 36 = 19 := by kernel_rfl
  rcases open_slice Tryz.underlying22 hf with ⟨h0, _⟩ | ⟨a, len, cap, m, n, D, Pl, h0, hb, hl, hm, hmm, hxx, hx⟩
  · rw [hcs] at h0
    simp at h0
    obtain ⟨_, rfl, _⟩ := h0
    exact ⟨_, [], _, fun _ => [], rfl, ⟨by simp, fun i h => absurd h (by simp)⟩, fun i h => absurd h (by simp), by simp⟩
  · rw [hcs] at h0
    simp at h0
    obtain ⟨rfl, rfl, rfl⟩ := h0
    have hlm : len' ≤ m := by rw [hmm]; split <;> omega
    have hd : d = _ := congrArg Prod.fst hxx
    rw [hd] at hz
    have hsz := sz_elems Tryz.underlying22 hz
    have hlen4 : len' ≤ 140737488351232 := by
      have := hsz.1
      rw [bytesE] at this
      simp [reachBytes] at this
      omega
    have each : ∀ i, i < len' → ∃ y : Ev × List NameK, (∀ j u, (evA y.1).toList[j]? = some u → w.cell? ((a.add (i * 19)).add j) = some u) ∧ EvOk w y.1 ∧ y.2.length = y.1.nl ∧ Reads w w.heap.size 2 y.1.na y.1.nl (namesV y.2) := by
      intro i hi
      obtain ⟨cs', h1, h2⟩ := hx i (by omega)
      rw [h19] at h1
      obtain ⟨_, hlen, hcell⟩ := World.cells?_some h1
      obtain ⟨y, L, e, hq⟩ := ev_ofN hlen h2 (hsz.2 _ (List.mem_map.2 ⟨i, List.mem_range.2 hi, rfl⟩))
      refine ⟨(y, L), fun j u hu => ?_, hq⟩
      have hu : (evA y).toList[j]? = some u := hu
      rw [← e] at hu
      have hj : j < 19 := by have := (List.getElem?_eq_some_iff.1 hu).1; omega
      exact (hcell j hj).trans hu
    obtain ⟨q, hq⟩ := choose_lt each
    have hl2 : ((List.range len').map fun i => (q i).1).length ≤ 140737488351232 := by simpa using hlen4
    clear hlen4
    refine ⟨some a, (List.range len').map fun i => (q i).1, cap', fun i => (q i).2, by simp, ⟨hl2, fun i hi => ?_⟩, fun i hi => ?_, by simpa using hl⟩
    rotate_left
    · have hi' : i < len' := by simpa using hi
      rw [List.getElem_map, List.getElem_range]
      exact (hq i hi').2.2
    clear hl2 hz hsz
    have hi' : i < len' := by simpa using hi
    obtain ⟨b, off, spot⟩ := a
    have hz := (hq 0 (by omega)).1 0 _ rfl
    have hspot : spot = none := by simpa [Addr.add] using World.cell?_spot hz
    subst hspot
    rw [List.getElem_map, List.getElem_range]
    refine ⟨b, off, rfl, ?_, ?_, (hq i hi').2.1⟩
    · have := blk_lt hz; rw [add_at, add_at] at this; exact this
    · intro j u hu
      have := (hq i hi').1 j u hu
      rw [add_at, add_at] at this
      exact this
end
end Go.Proofs.YtogagkgkmoppmaaGreatDoor
namespace Go.Proofs.YtogagkgkmoppmaaGreatDoor
set_option linter.unusedVariables false
set_option linter.unusedSimpArgs false
open Go.RowKit GM
/-- a trace's events that are not of views -/
def someL (l : List Ev) : List Ev := l.filter fun x => decide (x.kind ≤ 6)
theorem someL_take {l : List Ev} {k : Nat} (hk : k < l.length) : someL (l.take (k + 1)) = if l[k].kind ≤ 6 then someL (l.take k) ++ [l[k]] else someL (l.take k) := by
  unfold someL
  rw [List.take_add_one, List.getElem?_eq_getElem hk, Option.toList_some, List.filter_append]
  by_cases h : l[k].kind ≤ 6
  · rw [if_pos h, List.filter_cons_of_pos (by simpa using h), List.filter_nil]
  · rw [if_neg h, List.filter_cons_of_neg (by simpa using h), List.filter_nil, List.append_nil]
theorem someL_len (l : List Ev) : (someL l).length ≤ l.length := List.length_filter_le _ _
theorem someL_le (l : List Ev) (k : Nat) : (someL (l.take k)).length ≤ k := Nat.le_trans (someL_len _) (by rw [List.length_take]; omega)
theorem rowsE_snoc (l : List Ev) (x : Ev) : rowsE (l ++ [x]) = rowsE l ++ (evA x).toList := by simp [rowsE]
theorem evA_one (x : Ev) : ∀ u ∈ (evA x).toList, u.oneCell' = true := by
  intro u hu
  have h : (evA x).all (·.oneCell') = true := by simp [evA, Value.oneCell']
  exact Array.all_eq_true_iff_forall_mem.1 h u (by simpa using hu)
theorem rowsE_one (l : List Ev) : ∀ u ∈ rowsE l, u.oneCell' = true := by
  intro u hu
  unfold rowsE at hu
  obtain ⟨x, _, hx⟩ := List.mem_flatMap.1 hu
  exact evA_one x u hx
theorem wpList_buildSlice_rowJ {P : Program} {ops : Array Oper} {rest : List Oper} {o : Oper} {a : Act} {w : World} {Q : Exit → Act → World → Prop} (hgd : o.guard = none) (t : TypeId) (x : Operand) (ho : o.op = .buildSlice t 1 #[(0, x)])
    (e : TypeId) (i : TypeInfo) (z : Value) (ht : P.underlying t = some (.slice e)) (hi : P.info? e = some i) (hz : i.zero = some z) (cs : Array Value) (hx : a.eval x = .agg cs) (hsize : i.size = cs.size) (h0 : 0 < cs.size) (hc : cs.size ≤ 16777216)
    (h : wpList P ops Q rest (a.put o.dst (.slice (some ⟨w.heap.size, 0, none⟩) 1 1)) (w.alloc (.cells cs e))) : wpList P ops Q (o :: rest) a w :=
  wpList_plain hgd fun _ hK => wp_buildSlice_row t x ho e i z ht hi hz cs hx hsize h0 hc (hK _ _ h)
/-- a row of a call's own events is a trace -/
theorem tr_own {w : World} {B n cap : Nat} {ad : Option Addr} {l : List Ev} {nm : Nat → List NameK} (h : w.ownsRow B 36 19 (.slice ad n cap) n (rowsE l)) (hn : n = l.length) (hl : l.length ≤ 500) (hok : ∀ x ∈ l, EvOk w x) (hnm : NmAt w l nm) :
    ∃ g, Tr w g 0 l nm ∧ (0 < l.length → ad = some ⟨g, 0, none⟩) ∧ l.length ≤ cap := by
  rcases h.2 with ⟨hv, h0⟩ | ⟨g, c, cur, hv, hb, hg, hnc, _⟩
  · have hl0 : l.length = 0 := by omega
    exact ⟨0, ⟨by omega, fun i hi => by omega, fun i hi => by omega⟩, fun h => by omega, by omega⟩
  · injection hv with e1 e2 e3
    subst e1
    subst e3
    refine ⟨g, ⟨by omega, fun i hi => ⟨(Array.getElem?_eq_some_iff.1 hg).1, fun j u hu => ?_, hok _ (List.getElem_mem hi)⟩, hnm⟩, fun _ => rfl, by omega⟩
    have h2 := h.cells (g := g) rfl (i * 19 + j) u (rowsE_at l i hi j u hu)
    rwa [show (⟨g, 0, none⟩ : Addr).add (i * 19 + j) = ⟨g, 0 + i * 19 + j, none⟩ from by unfold Addr.add; split <;> simp_all] at h2
theorem NmAt.below {w w' : World} {l : List Ev} {nm : Nat → List NameK} (h : NmAt w l nm) (hb : Below w.heap.size w w') : NmAt w' l nm := fun i hi => ⟨(h i hi).1, reads_moreE ((h i hi).2.below hb) hb.size⟩
/-- names beside some of a trace's events -/
theorem nm_some {w : World} {l l' : List Ev} {nm : Nat → List NameK} (h : NmAt w l nm) (hs : ∀ x ∈ l', x ∈ l) : ∃ nm', NmAt w l' nm' := by
  have each : ∀ i, i < l'.length → ∃ L : List NameK, ∀ (hi : i < l'.length), L.length = l'[i].nl ∧ Reads w w.heap.size 2 l'[i].na l'[i].nl (namesV L) := fun i hi => by
    obtain ⟨j, hj, e⟩ := List.getElem_of_mem (hs l'[i] (List.getElem_mem hi))
    refine ⟨nm j, fun _ => ?_⟩
    rw [← e]
    exact h j hj
  refine ⟨fun i => if hi : i < l'.length then (each i hi).choose else [], fun i hi => ?_⟩
  simp only [dif_pos hi]
  exact (each i hi).choose_spec hi
theorem reads_evs {w : World} {ad : Option Addr} {l : List Ev} (h : EvsAt w ad l) : Reads w w.heap.size 19 ad l.length (rowsE l) := by
  refine ⟨rowsE_len19 l, fun h0 => ?_⟩
  have hl : 0 < l.length := h0
  obtain ⟨g, o, had, hg, _⟩ := h.2 0 hl
  refine ⟨⟨g, o, none⟩, had, hg, fun j u hu => ?_⟩
  have hj : j < l.length * 19 := by rw [← rowsE_len19]; exact (List.getElem?_eq_some_iff.1 hu).1
  have hi : j / 19 < l.length := Nat.div_lt_of_lt_mul (by omega)
  obtain ⟨g', o', e', _, hr, _⟩ := h.2 (j / 19) hi
  rw [had] at e'
  injection e' with e'
  injection e' with e1 e2
  subst e1
  subst e2
  have h19 : j % 19 < (evA l[j / 19]).toList.length := (show j % 19 < 19 from Nat.mod_lt _ (by decide))
  obtain ⟨u', hv⟩ : ∃ u', (evA l[j / 19]).toList[j % 19]? = some u' := ⟨_, List.getElem?_eq_getElem h19⟩
  have h2 := rowsE_at l (j / 19) hi (j % 19) _ hv
  have hjj : j / 19 * 19 + j % 19 = j := by omega
  rw [hjj, hu] at h2
  injection h2 with h2
  have h3 := hr (j % 19) _ hv
  rw [Nat.add_assoc, hjj] at h3
  rw [add_at, h2]
  exact h3
theorem told_someL (l : List Ev) : (told (someL l)).broken = (told l).broken := told_some l
set_option maxRecDepth 100000 in
set_option maxHeartbeats 16000000 in
theorem law_judgeApart (w : World) (ad : Option Addr) (cap : Nat) (l : List Ev) (nm : Nat → List NameK) (h : EvsAt w ad l) (hnm : NmAt w l nm) (hc : l.length ≤ cap) (hv : VwOk l) (hTab : Tab w) :
    Calls Tryz.prog 3 #[.slice ad l.length cap] w fun e w' => e = .returned (.bool true) ∧ Below w.heap.size w w' := by
  have HL := Lib.hid (And.intro h (And.intro hnm (And.intro hc (And.intro hv hTab))))
  have hll := h.1
  obtain ⟨n, hn⟩ : ∃ n, n = l.length := ⟨_, rfl⟩
  have HA := Lib.hid (awake_any w)
  have HFW := Lib.hid (fun w1 (hb : Below w.heap.size w w1) => few_any w1 ad cap l (h.below hb))
  rw [← hn] at hll HFW ⊢
  have HN := Lib.hid hn
  clear h hnm hc hn hv hTab
  obtain ⟨i0, hi, hz0, hz1, hz2⟩ := info_parts infoE27
  go_enter Tryz.func3, Tryz.ntmps3
  go_wp2_with fail
  refine HA.out.mono ?_
  rintro e w1 ⟨rfl, hb1⟩
  have HF := Lib.hid (HFW.out w1 hb1)
  have HB1 := Lib.hid hb1
  clear hb1 HFW HA
  go_wp2_with fail
  refine HF.out.mono ?_
  rintro e w2 ⟨⟨b, rfl, hb⟩, hb2⟩
  have HB2 := Lib.hid (bt HB1.out hb2)
  clear hb2 HF
  cases b
  · clear hb
    go_wp2_with fail
    go_ret
    exact ⟨rfl, HB2.out⟩
  have hn5 : n ≤ 500 := by rw [HN.out]; exact hb rfl
  clear hb
  go_wp2_with fail
  go_loopw [3, 4] (fun u i wr => ∃ k : Nat, k ≤ n ∧ i = .int .i64 (k : Int) ∧ Hid (wr.ownsRow w2.heap.size 36 19 u (someL (l.take k)).length (rowsE (someL (l.take k))) ∧ Below w2.heap.size w2 wr)) (fun _ i _ => n - (intOf i).toNat)
  case atStart => exact ⟨0, by omega, rfl, Lib.hid ⟨⟨rfl, .inl ⟨rfl, rfl⟩⟩, br w2⟩⟩
  case round =>
    obtain ⟨k, hk, rfl, HW⟩ := hrel
    obtain ⟨a1, c1, rfl⟩ := ownFormL HW.out.1
    by_cases hkn : k < n
    · have hr1 : decide ((k : Int) < (n : Int)) = true := by rw [decide_eq_true_eq]; omega
      have hr2 : decide (k < n) = true := by rw [decide_eq_true_eq]; omega
      have hr3 : (k : Int) < (n : Int) := by omega
      have hkl : k < l.length := by rw [← HN.out]; exact hkn
      obtain ⟨g, o, hga, hg, hrg, hok⟩ := HL.out.1.2 k hkl
      have hbw := bt HB2.out HW.out.2
      obtain ⟨x, hx⟩ : ∃ x, x = l[k] := ⟨_, rfl⟩
      have hst := someL_take hkl
      rw [← hx] at hrg hst
      have hrw : wr.rangeAt g (o + k * 19) (evA x).toList := fun j u hu => (hbw.cell (p := ⟨g, o + k * 19 + j, none⟩) hg).trans (hrg j u hu)
      have e0 : wr.cell? ⟨g, o + k * 19, none⟩ = some (.int .i64 x.kind) := hrw 0 _ rfl
      obtain ⟨cx, hcx⟩ : ∃ c, c = evA x := ⟨_, rfl⟩
      rw [← hcx] at hrw
      have HG := Lib.hid (And.intro hrw (And.intro (show cx.size = 19 by rw [hcx]; rfl) (And.intro hcx (And.intro hst hkn))))
      have hsl := someL_le l k
      subst hga
      clear hkl hg hrg hok hbw hx hst hrw hcx hkn
      by_cases h6 : x.kind ≤ 6
      · have d1 : decide (x.kind ≤ 6) = true := by simpa using h6
        have HO := Lib.hid (And.intro HW.out.1 (And.intro HW.out.2 (HG.out.2.2.2.1.trans (if_pos h6))))
        have hsz2 : w2.heap.size ≤ wr.heap.size := HW.out.2.size
        clear h6 HW
        generalize x.kind = xk at *
        obtain ⟨q, hq⟩ : ∃ q, q = (someL (l.take k)).length := ⟨_, rfl⟩
        have HQ := Lib.hid hq
        rw [← hq] at hsl HO ⊢
        have hcs : cx.toList.toArray = cx := by simp
        clear hq
        go_wp2_with (first
          | (with_reducible refine wpList_load_mid rfl 36 (.tmp 28) rfl g (o + k * 19) rfl cx.toList _ HG.out.1 Tryz.underlying36 rfl (by rw [Array.length_toList, HG.out.2.1]; kernel_rfl) ?_)
          | (refine wpList_buildSlice_rowJ rfl 22 (.tmp 29) rfl 36 i0 _ Tryz.underlying22 hi hz0 cx (by rw [← hcs]; rfl) (by rw [HG.out.2.1]; exact hz1) (by rw [HG.out.2.1]; decide) (by rw [HG.out.2.1]; decide) ?_)
          | (at_builtin; refine wpList_append_any _ rfl (.tmp 25) (.tmp 30) 22 rfl w2.heap.size 36 i0 _ 19 200 Tryz.underlying22 hi hz0 hz1 hz2 rfl (by decide) _ q _ rfl (HO.out.1.alloc _) (wr.heap.size + 1) (some ⟨wr.heap.size, 0, none⟩) 1 1 cx.toList rfl (by have h := reads_newJ wr cx 36; rw [HG.out.2.1] at h; exact h) (by rw [HG.out.2.2.1]; exact evA_one _) (by unfold maxLen; omega) (by omega) (by simp; omega) ?_)
          | fail)
        intro v6 w6 ho6 hg6 hu6
        have HE := Lib.hid (show k < n ∧ w6.ownsRow w2.heap.size 36 19 v6 (someL (l.take (k + 1))).length (rowsE (someL (l.take (k + 1)))) ∧ Below w2.heap.size w2 w6 from ⟨HG.out.2.2.2.2, by
          rw [HO.out.2.2, rowsE_snoc, List.length_append, List.length_singleton, ← HQ.out, ← HG.out.2.2.1]
          exact ho6, grownB (ba HO.out.2.1 _) (ba HO.out.2.1 _).size hg6 (fun b hb => (HO.out.1.lt b hb).1)⟩)
        obtain ⟨a6, c6, rfl⟩ := ownFormL ho6
        clear ho6 hg6 hu6 e0 hsz2 HO
        go_wp2_with fail
        exact ⟨⟨k + 1, HE.out.1, by go_num, Lib.hid HE.out.2⟩, by have := HE.out.1; simp [intOf]; omega⟩
      · have d1 : decide (x.kind ≤ 6) = false := by simpa using h6
        have HE := Lib.hid (show k < n ∧ wr.ownsRow w2.heap.size 36 19 (.slice a1 (someL (l.take k)).length c1) (someL (l.take (k + 1))).length (rowsE (someL (l.take (k + 1)))) ∧ Below w2.heap.size w2 wr from ⟨HG.out.2.2.2.2, by
          rw [HG.out.2.2.2.1.trans (if_neg h6)]
          exact HW.out⟩)
        clear h6 HW
        generalize x.kind = xk at *
        go_wp2_with fail
        exact ⟨⟨k + 1, HE.out.1, by go_num, Lib.hid HE.out.2⟩, by have := HE.out.1; simp [intOf]; omega⟩
    · have hr1 : decide ((k : Int) < (n : Int)) = false := by rw [decide_eq_false_iff_not]; omega
      have hr2 : decide (k < n) = false := by rw [decide_eq_false_iff_not]; omega
      have hkn2 : k = n := by omega
      have HS := Lib.hid (show wr.ownsRow w2.heap.size 36 19 (.slice a1 (someL l).length c1) (someL l).length (rowsE (someL l)) ∧ Below w2.heap.size w2 wr from by
        have h := HW.out
        rw [List.take_of_length_le (by rw [← HN.out]; omega)] at h
        exact h)
      rw [show someL (l.take k) = someL l by rw [List.take_of_length_le (by rw [← HN.out]; omega)]]
      clear HW hkn hkn2
      obtain ⟨sl, hsl⟩ : ∃ q, q = (someL l).length := ⟨_, rfl⟩
      rw [← hsl]
      have HSL := Lib.hid hsl
      clear hsl
      have hszr : w2.heap.size ≤ wr.heap.size := HS.out.2.size
      have own1 := Lib.hid (ownNil wr w2.heap.size 36 19 hszr)
      have HRL := Lib.hid (show Reads (wr.alloc (.cells #[] 36)) (wr.alloc (.cells #[] 36)).heap.size 19 ad n (rowsE l) from by
        rw [HN.out]
        exact reads_evs (HL.out.1.below (ba (bt HB2.out HS.out.2) _)))
      have hsza : w2.heap.size ≤ (wr.alloc (.cells #[] 36)).heap.size := Nat.le_trans hszr (by simp)
      go_wp2_with (first
        | (at_builtin; refine wpList_append_any _ rfl (.tmp 32) (.tmp 33) 22 rfl w2.heap.size 36 i0 _ 19 200 Tryz.underlying22 hi hz0 hz1 hz2 rfl (by decide) _ 0 [] rfl own1.out _ ad n cap (rowsE l) rfl HRL.out (rowsE_one l) (by unfold maxLen; omega) (by omega) hsza ?_)
        | fail)
      intro v6 w6 ho6 hg6 hu6
      have hb6 : Below w2.heap.size w2 w6 := grownB (ba HS.out.2 _) (ba HS.out.2 _).size hg6 (fun b hb => (own1.out.lt b hb).1)
      have hos : w6.ownsRow w2.heap.size 36 19 (.slice a1 sl c1) sl (rowsE (someL l)) := by
        have h1 := (show wr.ownsRow w2.heap.size 36 19 (.slice a1 sl c1) sl (rowsE (someL l)) from by rw [HSL.out]; exact HS.out.1).alloc (.cells #[] 36)
        refine own_keptL h1 (S := fun b => b = wr.heap.size) ⟨hg6.os, hg6.tape, hg6.output, hg6.size, fun i hi hs => hg6.block i hi (fun e => hs (by injection e))⟩ (fun b hb e => ?_)
        have := ((show wr.ownsRow w2.heap.size 36 19 (.slice a1 sl c1) sl (rowsE (someL l)) from by rw [HSL.out]; exact HS.out.1).lt b hb).2
        omega
      obtain ⟨a6, c6, rfl⟩ := ownFormL ho6
      have hbw6 := bt HB2.out hb6
      have hnm6 := HL.out.2.1.below hbw6
      have hok6 : ∀ x ∈ l, EvOk w6 x := fun x hx => by
        obtain ⟨i, hi, rfl⟩ := List.getElem_of_mem hx
        obtain ⟨_, _, _, _, _, hk⟩ := HL.out.1.2 i hi
        exact hk.below hbw6
      obtain ⟨gm, hTm, ham, hcm⟩ := tr_own (nm := nm) ho6 HN.out (by rw [← HN.out]; exact hn5) hok6 hnm6
      obtain ⟨nm', hnm'⟩ := nm_some (l' := someL l) hnm6 (fun x hx => (List.mem_filter.1 hx).1)
      obtain ⟨gs, hTs, has, hcs⟩ := tr_own hos HSL.out (Nat.le_trans (someL_len l) (by rw [← HN.out]; exact hn5)) (fun x hx => hok6 x (List.mem_filter.1 hx).1) hnm'
      have hT6 : ∀ W, Below w6.heap.size w6 W → Tab W := fun W hW => HL.out.2.2.2.2.below (bt hbw6 hW) (cell_ltS (HL.out.2.2.2.2 0 (by decide)))
      have HEV := Lib.hid (fun (W : World) (hW : Below w6.heap.size w6 W) => (show Calls Tryz.prog 7 #[.slice a6 n c6] W fun e w' => e = .returned (.int .i64 (told l).broken) ∧ Below W.heap.size W w' from by
        have h := evs_any (at_nil W) (hTm.below hW) a6 ham c6 (by rw [← HN.out]; omega)
        rw [← HN.out] at h
        exact h.mono fun e w' ⟨h1, h2⟩ => ⟨by rw [h1, told_evs], h2.bel⟩))
      have HES := Lib.hid (fun (W : World) (hW : Below w6.heap.size w6 W) => (show Calls Tryz.prog 7 #[.slice a1 sl c1] W fun e w' => e = .returned (.int .i64 (told l).broken) ∧ Below W.heap.size W w' from by
        have h := evs_any (at_nil W) (hTs.below hW) a1 has c1 (by have := someL_len l; rw [← HN.out] at this; omega)
        rw [← HSL.out] at h
        exact h.mono fun e w' ⟨h1, h2⟩ => ⟨by rw [h1, ← told_evs, told_someL], h2.bel⟩))
      have HVW := Lib.hid (fun (W : World) (hW : Below w6.heap.size w6 W) => (show Calls Tryz.prog 8 #[.slice a6 n c6, .int .i64 4] W fun e w' => e = .returned (.int .i64 (viewsJ l nm 4)) ∧ Below W.heap.size W w' from by
        have h := viewsJ_any (at_nil W) (hTm.below hW) a6 ham c6 hcm (by rw [← HN.out]; exact hn5) HL.out.2.2.2.1 (hT6 W hW) 4 (by decide) (by decide)
        rw [← HN.out] at h
        exact h.mono fun e w' ⟨h1, h2⟩ => ⟨h1, h2.bel⟩))
      have HER := Lib.hid (fun (W : World) (hW : Below w6.heap.size w6 W) => (show Calls Tryz.prog 9 #[.slice a6 n c6, .int .i64 0] W fun e w' => (∃ v, e = .returned v) ∧ Below W.heap.size W w' from by
        have h := erased_gen (at_nil W) (hTm.below hW) a6 ham c6 hcm (by rw [← HN.out]; exact hn5) 0
        rw [← HN.out] at h
        exact h.mono fun e w' ⟨h1, h2⟩ => ⟨h1, h2.bel⟩))
      have HB6 := Lib.hid hbw6
      clear ho6 hg6 hu6 hb6 hos hbw6 hnm6 hok6 hTm ham hcm hnm' hTs has hcs hT6 own1 HRL hszr hsza HS
      generalize (told l).broken = z at *
      generalize viewsJ l nm 4 = zv at *
      go_wp2_with fail
      refine (HEV.out w6 (br w6)).mono ?_
      rintro e7 w7 ⟨rfl, hb7⟩
      have HB7 := Lib.hid hb7
      clear hb7
      go_wp2_with fail
      refine (HVW.out w7 HB7.out).mono ?_
      rintro e8 w8 ⟨rfl, hb8⟩
      have HB8 := Lib.hid (bt HB7.out hb8)
      clear hb8
      go_wp2_with fail
      refine (HER.out w8 HB8.out).mono ?_
      rintro e9 w9 ⟨⟨vv, rfl⟩, hb9⟩
      have HB9 := Lib.hid (bt HB8.out hb9)
      clear hb9
      go_wp2_with fail
      refine (HES.out w9 HB9.out).mono ?_
      rintro e10 w10 ⟨rfl, hb10⟩
      have HB10 := Lib.hid (bt HB9.out hb10)
      clear hb10
      go_wp2_with fail
      refine (HEV.out w10 HB10.out).mono ?_
      rintro e11 w11 ⟨rfl, hb11⟩
      have HB11 := Lib.hid (bt HB10.out hb11)
      clear hb11
      go_wp2_with fail
      refine (HVW.out w11 HB11.out).mono ?_
      rintro e12 w12 ⟨rfl, hb12⟩
      have HB12 := Lib.hid (bt HB6.out (bt HB11.out hb12))
      clear hb12
      go_wp2_with fail
      go_ret
      exact ⟨rfl, HB12.out⟩
end Go.Proofs.YtogagkgkmoppmaaGreatDoor
