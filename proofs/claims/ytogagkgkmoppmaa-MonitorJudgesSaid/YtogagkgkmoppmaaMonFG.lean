/-
  What Grow and Concat return of rows of messages; all that a stay delivered.
  Conditions: those that each theorem names.
-/
import Derived.Test.YtogagkgkmoppmaaMonE
import Derived.Lib.AppendZeros
import Derived.Lib.OwnKind
namespace Go.Proofs.Ytogagkgkmoppmaa
set_option linter.unusedVariables false
set_option linter.unusedSimpArgs false
open Go.RowKit
def Grown (n : Nat) (w : World) (e : Ending) (w' : World) : Prop := ∃ ad cap, e = .returned (.slice ad 0 cap) ∧ w'.ownsRow w.heap.size 34 6 (.slice ad 0 cap) 0 []
theorem info34i : ∃ i, Try.prog.info? 34 = some i ∧ i.zero = some (.agg (msgA zeroM)) ∧ i.size = 6 ∧ i.bytes = 72 := info_parts info34
set_option maxHeartbeats 4000000 in
theorem grow_any (n : Nat) (w : World) (hn : n ≤ 100000) :
    Calls Try.prog 62 #[.slice none 0 0, .int .i64 (n : Int)] w fun e w' => Grown n w e w' ∧ Below w.heap.size w w' := by
  obtain ⟨i0, hi, hz0, hz1, hz2⟩ := info34i
  have d0 : decide ((n : Int) < 0) = false := by simp
  by_cases h0 : n = 0
  · subst h0
    have HO := Lib.hid (show Grown 0 w (.returned (.slice none 0 0)) w ∧ Below w.heap.size w w from ⟨⟨none, 0, rfl, rfl, .inl ⟨rfl, rfl⟩⟩, br w⟩)
    go_enter Try.func62, Try.ntmps62
    go_wp2
    go_ret
    exact HO.out
  · have d1 : decide ((0 : Int) < (n : Int)) = true := by simp; omega
    have d2 : decide (0 < n) = true := by simp; omega
    have happ := Lib.run_append_nil_zeros (P := Try.prog) w 61 3 61 34 i0 (.agg (msgA zeroM)) .i64 .i64 Try.underlying61 Try.underlying3 hi hz0 n (by omega) (by rw [hz1]; omega) (by omega) (by rw [hz2]; omega)
    obtain ⟨cap, hcap⟩ : ∃ c, c = grownCap w n 0 34 := ⟨_, rfl⟩
    have hge := grownCap_ge w n 0 34
    have hmx := grownCap_le_maxLen w n 0 34 (by unfold maxLen; omega)
    rw [← hcap] at happ hge hmx
    obtain ⟨A, hA⟩ : ∃ A, A = Builtin.zeroCells (Value.agg (msgA zeroM)).cells n := ⟨_, rfl⟩
    obtain ⟨B, hB⟩ : ∃ B, B = Builtin.zeroCells (Value.agg (msgA zeroM)).cells (cap - n) := ⟨_, rfl⟩
    have sA : A.size = n * 6 := by rw [hA]; exact size_zeroCells (Value.agg (msgA zeroM)).cells n
    have sB : B.size = (cap - n) * 6 := by rw [hB]; exact size_zeroCells (Value.agg (msgA zeroM)).cells (cap - n)
    rw [← hA, ← hB] at happ
    obtain ⟨cur, hcur⟩ : ∃ c, c = A ++ B := ⟨_, rfl⟩
    have hcs : cur.size = cap * 6 := by
      rw [hcur, Array.size_append, sA, sB]
      omega
    rw [← hcur] at happ
    obtain ⟨W, hW⟩ : ∃ W, W = w.drew.alloc (.cells cur 34) := ⟨_, rfl⟩
    rw [← hW] at happ
    have hmx9 : cap ≤ 9223372036854775807 := by unfold maxLen at hmx; exact hmx
    have HO := Lib.hid (show Grown n w (.returned (.slice (some ⟨w.heap.size, 0, none⟩) 0 cap)) W ∧ Below w.heap.size w W from by
      rw [hW]
      exact ⟨⟨_, cap, rfl, World.ownsRow_made w.drew cur cap (Nat.le_refl _) hmx hcs⟩, ba ((br w).drew) _⟩)
    obtain ⟨G, hG⟩ : ∃ G, G = w.heap.size := ⟨_, rfl⟩
    rw [← hG] at happ HO
    rw [← hG]
    have HAPP := Lib.hid happ
    clear hcap hge hmx hcur hcs hA hB sA sB hW happ hi hz0 hz1 hz2 hG
    go_enter Try.func62, Try.ntmps62
    go_wp2_with (at_builtin; refine Lib.wpList_append_run _ rfl (.tmp 20) (.tmp 21) 61 3 rfl _ _ rfl rfl _ _ HAPP.out ?_)
    go_ret
    exact HO.out
/-- what comes of two rows, one behind the other -/
def Cat2 (w : World) (x y : List Msg) (e : Ending) (w' : World) : Prop := ∃ ad cap, e = .returned (.slice ad (x ++ y).length cap) ∧ w'.ownsRow w.heap.size 34 6 (.slice ad (x ++ y).length cap) (x ++ y).length (rowsM (x ++ y))
theorem RdM.reads {w : World} {ad : Option Addr} {l : List Msg} (h : RdM w ad l) : Reads w w.heap.size 6 ad l.length (rowsM l) := by
  refine ⟨rowsM_len l, fun h0 => ?_⟩
  obtain ⟨_, g, o, e, hg, _⟩ := h.2 0 h0
  refine ⟨⟨g, o, none⟩, e, hg, fun j u hu => ?_⟩
  obtain ⟨i, hi, q, hj, hq⟩ := rowsM_get hu
  obtain ⟨_, g', o', e', hg', hr⟩ := h.2 i hi
  rw [e] at e'
  injection e' with e'
  injection e' with e1 e2 e3
  subst e1 e2
  have := hr q u hq
  rw [hj]
  rw [show (⟨g, o, none⟩ : Addr).add (i * 6 + q) = ⟨g, o + i * 6 + q, none⟩ from by unfold Addr.add; split <;> simp_all [Nat.add_assoc]]
  exact this
set_option maxRecDepth 100000 in
set_option maxHeartbeats 8000000 in
theorem concat2_any (x y : List Msg) (xa ya : Option Addr) (xc yc X : Nat) (w : World) (hX : w.heap[X]? = some (.cells #[.slice xa x.length xc, .slice ya y.length yc] 61 (0, 0))) (hx : RdM w xa x) (hy : RdM w ya y) (hxl : x.length ≤ 10000) (hyl : y.length ≤ 10000) :
    Calls Try.prog 55 #[.slice (some ⟨X, 0, none⟩) 2 2] w fun e w' => Cat2 w x y e w' ∧ Below w.heap.size w w' := by
  obtain ⟨i0, hi, hz0, hz1, hz2⟩ := info34i
  obtain ⟨n, hn⟩ : ∃ n, n = x.length := ⟨_, rfl⟩
  obtain ⟨m, hm⟩ : ∃ m, m = y.length := ⟨_, rfl⟩
  have c0 : w.cell? ⟨X, 0, none⟩ = some (.slice xa n xc) := by rw [hn]; exact cell_of_row _ _ 0 _ _ _ hX
  have c1 : w.cell? ⟨X, 1, none⟩ = some (.slice ya m yc) := by rw [hm]; exact cell_of_row _ _ 1 _ _ _ hX
  have hXl := (Array.getElem?_eq_some_iff.1 hX).1
  have HL := Lib.hid (And.intro hn (And.intro hm (And.intro hx hy)))
  have hn1 : n ≤ 10000 := by omega
  have hm1 : m ≤ 10000 := by omega
  obtain ⟨s, hs⟩ : ∃ s, s = n + m := ⟨_, rfl⟩
  have HG := Lib.hid (grow_any s w (by omega))
  have HC := Lib.hid (And.intro c0 (And.intro c1 hXl))
  have hs1 : (n : Int) + (m : Int) = (s : Int) := by omega
  have hs2 : IntKind.i64.wrap ((n : Int) + (m : Int)) = (s : Int) := by rw [hs1]; exact IntWalk.i64_in _ (by omega)
  have d0 : decide ((n : Int) < 0) = false := by simp
  have d1 : decide ((s : Int) < 0) = false := by simp
  clear hX hx hy hxl hyl hn hm hs
  go_enter Try.func55, Try.ntmps55
  go_wp2_with fail
  go_loopw [3, 11] (fun sz i wr => Hid (w = wr) ∧ ((i = .int .i64 0 ∧ sz = .int .i64 0) ∨ (i = .int .i64 1 ∧ sz = .int .i64 (n : Int)) ∨ (i = .int .i64 2 ∧ sz = .int .i64 (s : Int)))) (fun _ i _ => 2 - (intOf i).toNat)
  case atStart => exact ⟨rfl, .inl ⟨rfl, rfl⟩⟩
  case round =>
    obtain ⟨hwe, h⟩ := hrel
    have hwe := hwe.out
    subst hwe
    rcases h with ⟨rfl, rfl⟩ | ⟨rfl, rfl⟩ | ⟨rfl, rfl⟩
    · go_wp2_with fail
      exact ⟨⟨Lib.hid trivial, .inr (.inl ⟨by first | rfl | go_num, by first | rfl | go_num⟩)⟩, by decide⟩
    · go_wp2_with fail
      exact ⟨⟨Lib.hid trivial, .inr (.inr ⟨by first | rfl | go_num, by first | rfl | go_num⟩)⟩, by decide⟩
    · clear hs1 hs2 d0 d1
      go_wp2_with fail
      refine HG.out.mono ?_
      rintro e w1 ⟨⟨ad, cap, rfl, ho⟩, hb1⟩
      have HO := Lib.hid (And.intro ho hb1)
      clear ho hb1 HG c0 c1
      go_wp2_with fail
      go_loopw [6, 27] (fun u i wr => ∃ (k : Nat) (l : List Msg) (a : Option Addr) (c : Nat), k ≤ 2 ∧ i = .int .i64 (k : Int) ∧ u = .slice a l.length c ∧ Hid ((k = 0 ∧ [] = l) ∨ (k = 1 ∧ x = l) ∨ (k = 2 ∧ x ++ y = l)) ∧ Hid (wr.ownsRow w.heap.size 34 6 (.slice a l.length c) l.length (rowsM l) ∧ Below w.heap.size w wr)) (fun _ i _ => 2 - (intOf i).toNat)
      case atStart => exact ⟨0, [], ad, cap, by omega, rfl, rfl, .inl ⟨rfl, rfl⟩, HO.out⟩
      case round =>
        obtain ⟨k, l, a, c, hk, rfl, rfl, hkl, HW⟩ := hrel
        have c0 := (HW.out.2.cell (p := ⟨X, 0, none⟩) HC.out.2.2).trans HC.out.1
        have c1 := (HW.out.2.cell (p := ⟨X, 1, none⟩) HC.out.2.2).trans HC.out.2.1
        have hsz := HW.out.2.size
        rcases hkl.out with ⟨rfl, rfl⟩ | ⟨rfl, rfl⟩ | ⟨rfl, rfl⟩
        · go_wp2_with (at_builtin; (refine wpList_append_any _ rfl (.tmp 31) (.tmp 32) 61 rfl w.heap.size 34 i0 _ 6 72 Try.underlying61 hi hz0 hz1 hz2 rfl (by decide) _ 0 [] rfl (show wr.ownsRow w.heap.size 34 6 (.slice a 0 c) 0 [] from HW.out.1) wr.heap.size xa n xc (rowsM x) rfl (show Reads wr wr.heap.size 6 xa n (rowsM x) from by rw [HL.out.1]; exact (HL.out.2.2.1.below HW.out.2).reads) (rowsM_one _) (by unfold maxLen; omega) (by omega) hsz ?_))
          intro v6 w6 ho6 hg6 hu6
          obtain ⟨a6, q6, rfl⟩ := ownForm ho6
          have hb6 := grownB HW.out.2 HW.out.2.size hg6 (fun b hb => (HW.out.1.lt b hb).1)
          have HE := Lib.hid (show w6.ownsRow w.heap.size 34 6 (.slice a6 x.length q6) x.length (rowsM x) ∧ Below w.heap.size w w6 from by
            refine ⟨?_, hb6⟩
            rw [← HL.out.1]
            have := ho6
            (try simp only [Nat.zero_add, List.nil_append] at this)
            exact this)
          clear ho6 hg6 hu6 hb6 c0 c1 hsz
          go_wp2_with fail
          exact ⟨⟨1, x, a6, q6, by omega, by first | rfl | go_num, by rw [← HL.out.1], .inr (.inl ⟨rfl, rfl⟩), HE.out⟩, by decide⟩
        · have hx9 : x.length ≤ 10000 := by rw [← HL.out.1]; exact hn1
          go_wp2_with (at_builtin; (refine wpList_append_any _ rfl (.tmp 31) (.tmp 32) 61 rfl w.heap.size 34 i0 _ 6 72 Try.underlying61 hi hz0 hz1 hz2 rfl (by decide) _ x.length (rowsM x) rfl HW.out.1 wr.heap.size ya m yc (rowsM y) rfl (show Reads wr wr.heap.size 6 ya m (rowsM y) from by rw [HL.out.2.1]; exact (HL.out.2.2.2.below HW.out.2).reads) (rowsM_one _) (by unfold maxLen; omega) (by omega) hsz ?_))
          intro v6 w6 ho6 hg6 hu6
          obtain ⟨a6, q6, rfl⟩ := ownForm ho6
          have hb6 := grownB HW.out.2 HW.out.2.size hg6 (fun b hb => (HW.out.1.lt b hb).1)
          have HE := Lib.hid (show w6.ownsRow w.heap.size 34 6 (.slice a6 (x ++ y).length q6) (x ++ y).length (rowsM (x ++ y)) ∧ Below w.heap.size w w6 from by
            refine ⟨?_, hb6⟩
            have := ho6
            rw [HL.out.2.1, ← List.length_append, ← rowsM_append] at this
            exact this)
          have hn2 : x.length + m = (x ++ y).length := by rw [List.length_append, ← HL.out.2.1]
          have hx9 : x.length ≤ 10000 := by rw [← HL.out.1]; exact hn1
          clear ho6 hg6 hu6 hb6 c0 c1 hsz
          go_wp2_with fail
          exact ⟨⟨2, x ++ y, a6, q6, by omega, by first | rfl | go_num, by rw [← hn2], .inr (.inr ⟨rfl, rfl⟩), HE.out⟩, by decide⟩
        · have he : Cat2 w x y (.returned (.slice a (x ++ y).length c)) wr := ⟨a, c, rfl, HW.out.1⟩
          have HE := Lib.hid (show Cat2 w x y (.returned (.slice a (x.length + y.length) c)) wr ∧ Below w.heap.size w wr from by rw [List.length_append] at he; exact ⟨he, HW.out.2⟩)
          clear c0 c1 hsz he
          go_wp2_with fail
          go_ret
          exact HE.out
end Go.Proofs.Ytogagkgkmoppmaa
namespace Go.Proofs.Ytogagkgkmoppmaa
set_option linter.unusedVariables false
set_option linter.unusedSimpArgs false
open Go.RowKit
/-- a message whose vector lies in a row of numbers -/
structure MsgT (w : World) (m : Msg) : Prop where
  r : MsgR w m
  ty : ∀ B O, m.da = some ⟨B, O, none⟩ → 0 < m.ds.length → ∃ cs fr, w.heap[B]? = some (.cells cs 31 fr)
/-- a row of such messages, in a row of messages -/
structure RowT (w : World) (ad : Option Addr) (l : List Msg) : Prop where
  r : RdM w ad l
  ty : ∀ g o, ad = some ⟨g, o, none⟩ → 0 < l.length → ∃ cs fr, w.heap[g]? = some (.cells cs 34 fr)
  ms : ∀ m ∈ l, MsgT w m
/-- blocks that hold neither messages nor numbers -/
def Other (w : World) (S : Nat → Prop) : Prop := ∀ b, S b → ∀ cs t fr, w.heap[b]? = some (.cells cs t fr) → t ≠ 34 ∧ t ≠ 31
theorem MsgT.kept {w w' : World} {m : Msg} {S : Nat → Prop} (h : MsgT w m) (hk : Kept S w w') (hs : Other w S) : MsgT w' m := by
  have hne : ∀ B O, m.da = some ⟨B, O, none⟩ → 0 < m.ds.length → ¬ S B := fun B O e h0 hS => by
    obtain ⟨cs, fr, hb⟩ := h.ty B O e h0
    exact (hs B hS cs _ fr hb).2 rfl
  refine ⟨⟨fun i hi => ?_, h.r.len⟩, fun B O e h0 => ?_⟩
  · obtain ⟨B, O, e, hB, hc⟩ := h.r.ds i hi
    exact ⟨B, O, e, Nat.lt_of_lt_of_le hB hk.size, (hk.cell (p := ⟨B, O + i, none⟩) hB (hne B O e (by omega))).trans hc⟩
  · obtain ⟨cs, fr, hb⟩ := h.ty B O e h0
    exact ⟨cs, fr, hk.keep hb (hne B O e h0)⟩
theorem RowT.kept {w w' : World} {ad : Option Addr} {l : List Msg} {S : Nat → Prop} (h : RowT w ad l) (hk : Kept S w w') (hs : Other w S) : RowT w' ad l := by
  have hne : ∀ g o, ad = some ⟨g, o, none⟩ → 0 < l.length → ¬ S g := fun g o e h0 hS => by
    obtain ⟨cs, fr, hb⟩ := h.ty g o e h0
    exact (hs g hS cs _ fr hb).1 rfl
  refine ⟨⟨h.r.1, fun i hi => ?_⟩, fun g o e h0 => ?_, fun m hm => (h.ms m hm).kept hk hs⟩
  · obtain ⟨h1, g, o, e, hg, hr⟩ := h.r.2 i hi
    exact ⟨((h.ms _ (List.getElem_mem hi)).kept hk hs).r, g, o, e, Nat.lt_of_lt_of_le hg hk.size, fun j u hu => (hk.cell (p := ⟨g, o + i * 6 + j, none⟩) hg (hne g o e (by omega))).trans (hr j u hu)⟩
  · obtain ⟨cs, fr, hb⟩ := h.ty g o e h0
    exact ⟨cs, fr, hk.keep hb (hne g o e h0)⟩
theorem Other.none (w : World) : Other w (fun _ => False) := fun b h => h.elim
theorem MsgT.below {w w' : World} {m : Msg} (h : MsgT w m) (hb : Below w.heap.size w w') : MsgT w' m := h.kept (Kept.of_below hb) (Other.none w)
theorem RowT.below {w w' : World} {ad : Option Addr} {l : List Msg} (h : RowT w ad l) (hb : Below w.heap.size w w') : RowT w' ad l := h.kept (Kept.of_below hb) (Other.none w)
theorem RowT.get {w : World} {ad : Option Addr} {l : List Msg} (h : RowT w ad l) {i : Nat} (hi : i < l.length) : MsgT w l[i] := h.ms _ (List.getElem_mem hi)
theorem RowT.nil (w : World) : RowT w none [] := ⟨⟨by simp, fun i h => by simp at h⟩, fun g o e h => by simp at h, fun m hm => by cases hm⟩
/-- what is owned can be read -/
theorem RowT.of_own {w : World} {B : Nat} {ad : Option Addr} {l : List Msg} {cap : Nat} (h : w.ownsRow B 34 6 (.slice ad l.length cap) l.length (rowsM l)) (hl : l.length ≤ 9223372036854775807) (hm : ∀ m ∈ l, MsgT w m) : RowT w ad l := by
  refine ⟨⟨hl, fun i hi => ?_⟩, fun g o e h0 => ?_, hm⟩
  · obtain ⟨g, c, hv, hg0, hg1⟩ := h.form (by omega)
    injection hv with e1 e2 e3
    refine ⟨(hm _ (List.getElem_mem hi)).r, g, 0, e1, hg1, fun j u hu => ?_⟩
    have := h.cells (g := g) (by rw [e1]; rfl) (i * 6 + j) u (rowsM_at l i hi j u hu)
    rw [show (⟨g, 0, none⟩ : Addr).add (i * 6 + j) = ⟨g, 0 + i * 6 + j, none⟩ from by unfold Addr.add; split <;> simp_all [Nat.add_assoc]] at this
    exact this
  · obtain ⟨g', c, hv, hg0, hg1⟩ := h.form (by omega)
    injection hv with e1 e2 e3
    rw [e] at e1
    injection e1 with e1
    injection e1 with e4 e5 e6
    obtain ⟨c, fz, hc⟩ := Lib.ownsRow_kind h g (by rw [e]; rfl)
    exact ⟨c, fz, hc⟩
/-- a stay's cells -/
structure ST where
  proc : Int
  ce : Nat
  cr : Int
  mem : Nat
  p0 : List Msg
  a0 : Option Addr
  c0 : Nat
  p1 : List Msg
  a1 : Option Addr
  c1 : Nat
  cb : Nat
  tr : Option Nat
  went : Bool
def stC (s : ST) : Array Value := #[.int .i64 s.proc, .int .u64 (s.ce : Int), .int .i64 s.cr, .int .u64 (s.mem : Int), .slice s.a0 s.p0.length s.c0, .slice s.a1 s.p1.length s.c1, .map (some s.cb), .pointer (s.tr.map fun b => ⟨b, 0, none⟩), .bool s.went]
def StAt (w : World) (S : Nat) (s : ST) : Prop := w.heap[S]? = some (.cells (stC s) 66 (0, 0))
theorem StAt.lt {w : World} {S : Nat} {s : ST} (h : StAt w S s) : S < w.heap.size := (Array.getElem?_eq_some_iff.1 h).1
theorem StAt.below {w w' : World} {S : Nat} {s : ST} (h : StAt w S s) (hb : Below w.heap.size w w') : StAt w' S s := (hb.block _ h.lt).trans h
theorem StAt.kept {w w' : World} {S : Nat} {s : ST} {P : Nat → Prop} (h : StAt w S s) (hk : Kept P w w') (hs : ¬ P S) : StAt w' S s := (hk.block _ h.lt hs).trans h
set_option maxHeartbeats 4000000 in
theorem all_any (w : World) (S : Nat) (s : ST) (h : StAt w S s) (h0 : RowT w s.a0 s.p0) (h1 : RowT w s.a1 s.p1) (hl0 : s.p0.length ≤ 10000) (hl1 : s.p1.length ≤ 10000) :
    Calls Try.prog 35 #[.pointer (some ⟨S, 0, none⟩)] w fun e w' => Cat2 w s.p0 s.p1 e w' ∧ Below w.heap.size w w' := by
  have c4' : w.cell? ⟨S, 4, none⟩ = some (.slice s.a0 s.p0.length s.c0) := cell_of_row _ _ 4 _ _ _ h
  have c5' : w.cell? ⟨S, 5, none⟩ = some (.slice s.a1 s.p1.length s.c1) := cell_of_row _ _ 5 _ _ _ h
  have c4 := Bel.cell c4' h.lt
  have c5 := Bel.cell c5' h.lt
  clear c4' c5'
  obtain ⟨x, hx⟩ : ∃ x, x = s.p0 := ⟨_, rfl⟩
  obtain ⟨y, hy⟩ : ∃ y, y = s.p1 := ⟨_, rfl⟩
  rw [← hx] at c4 h0 hl0
  rw [← hy] at c5 h1 hl1
  rw [← hx, ← hy]
  generalize s.a0 = xa at *
  generalize s.a1 = ya at *
  generalize s.c0 = xc at *
  generalize s.c1 = yc at *
  have HH := Lib.hid (And.intro h0 (And.intro h1 (And.intro hl0 hl1)))
  have hC := concat2_any x y xa ya xc yc
  have HC := Lib.hid hC
  obtain ⟨n, hn⟩ : ∃ n, n = x.length := ⟨_, rfl⟩
  obtain ⟨m, hm⟩ : ∃ m, m = y.length := ⟨_, rfl⟩
  rw [← hn] at c4
  rw [← hm] at c5
  have HN := Lib.hid (And.intro hn hm)
  clear hx hy h0 h1 hl0 hl1 hC h hn hm
  go_enter Try.func35, Try.ntmps35
  go_upto_region 1 with (fail)
  refine wp_region_bel_tail 10 (by kernel_rfl) (by kernel_rfl) ?_
  simp only [List.take_succ_cons, List.take_zero, List.drop_succ_cons, List.drop_zero]
  repeat (go_big_quiet_step ((fail)))
  refine wpQuiet_nil ?_
  intro w5 hw5
  obtain ⟨x5, rfl⟩ := hw5
  have hb5 := x5.prop
  generalize x5.val = w5 at *
  clear c4 c5
  obtain ⟨X, hX⟩ : ∃ X, X = w5.heap.size := ⟨_, rfl⟩
  obtain ⟨w6, hw6⟩ : ∃ w6, w6 = w5.alloc (.cells #[.slice xa n xc, .slice ya m yc] 61) := ⟨_, rfl⟩
  have hb6 := ba (br w5) (.cells #[.slice xa n xc, .slice ya m yc] 61)
  have hx6 := heap_alloc_new w5 (.cells #[.slice xa n xc, .slice ya m yc] 61)
  rw [← hw6] at hb6 hx6
  rw [← hX] at hx6
  have hbb := bt hb5 hb6
  have HK := Lib.hid (show Calls Try.prog 55 #[.slice (some ⟨X, 0, none⟩) 2 2] w6 fun e w' => Cat2 w x y e w' ∧ Below w.heap.size w w' from by
    rw [HN.out.1, HN.out.2] at hx6
    refine (HC.out X w6 hx6 (HH.out.1.below hbb).r (HH.out.2.1.below hbb).r HH.out.2.2.1 HH.out.2.2.2).mono ?_
    rintro e w' ⟨⟨ad, cap, rfl, ho⟩, hb⟩
    exact ⟨⟨ad, cap, rfl, ownMore ho hbb.size⟩, bt hbb hb⟩)
  clear hb6 hx6 hbb hb5
  go_wp2_with fail
  rw [← hw6, ← hX]
  refine HK.out.mono ?_
  rintro e w7 ⟨⟨ad, cap, rfl, ho⟩, hb⟩
  have HE := Lib.hid (show Cat2 w x y (.returned (.slice ad (x ++ y).length cap)) w7 ∧ Below w.heap.size w w7 from ⟨⟨ad, cap, rfl, ho⟩, hb⟩)
  clear ho hb HK
  generalize (x ++ y).length = k at *
  go_wp2_with fail
  go_ret
  exact HE.out
end Go.Proofs.Ytogagkgkmoppmaa
