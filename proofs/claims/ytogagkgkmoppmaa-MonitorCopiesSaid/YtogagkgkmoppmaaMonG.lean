/-
  A stay's cells; all that it delivered; what it owes.
  Conditions: those that each theorem names.
-/
import Derived.Test.YtogagkgkmoppmaaMonF
import Derived.Lib.OwnKind
namespace Go.Proofs.Ytogagkgkmoppmaa
set_option linter.unusedVariables false
set_option linter.unusedSimpArgs false
open Go.RowKit
/-- a message whose vector lies in a row of numbers -/
structure MsgT (w : World) (m : Msg) : Prop where
  r : MsgR w m
  ty : ∀ B O, m.da = some ⟨B, O, none⟩ → 0 < m.ds.length → ∃ cs fr, w.heap[B]? = some (.cells cs 31 fr)
/-- a row of such messages, in a row of messages -/
structure RowT (w : World) (ad : Option Addr) (l : List Msg) : Prop where
  r : RdM w ad l
  ty : ∀ g o, ad = some ⟨g, o, none⟩ → 0 < l.length → ∃ cs fr, w.heap[g]? = some (.cells cs 34 fr)
  ms : ∀ m ∈ l, MsgT w m
/-- blocks that hold neither messages nor numbers -/
def Other (w : World) (S : Nat → Prop) : Prop := ∀ b, S b → ∀ cs t fr, w.heap[b]? = some (.cells cs t fr) → t ≠ 34 ∧ t ≠ 31
theorem MsgT.kept {w w' : World} {m : Msg} {S : Nat → Prop} (h : MsgT w m) (hk : Kept S w w') (hs : Other w S) : MsgT w' m := by
  have hne : ∀ B O, m.da = some ⟨B, O, none⟩ → 0 < m.ds.length → ¬ S B := fun B O e h0 hS => by
    obtain ⟨cs, fr, hb⟩ := h.ty B O e h0
    exact (hs B hS cs _ fr hb).2 rfl
  refine ⟨⟨fun i hi => ?_, h.r.len⟩, fun B O e h0 => ?_⟩
  · obtain ⟨B, O, e, hB, hc⟩ := h.r.ds i hi
    exact ⟨B, O, e, Nat.lt_of_lt_of_le hB hk.size, (hk.cell (p := ⟨B, O + i, none⟩) hB (hne B O e (by omega))).trans hc⟩
  · obtain ⟨cs, fr, hb⟩ := h.ty B O e h0
    exact ⟨cs, fr, hk.keep hb (hne B O e h0)⟩
theorem RowT.kept {w w' : World} {ad : Option Addr} {l : List Msg} {S : Nat → Prop} (h : RowT w ad l) (hk : Kept S w w') (hs : Other w S) : RowT w' ad l := by
  have hne : ∀ g o, ad = some ⟨g, o, none⟩ → 0 < l.length → ¬ S g := fun g o e h0 hS => by
    obtain ⟨cs, fr, hb⟩ := h.ty g o e h0
    exact (hs g hS cs _ fr hb).1 rfl
  refine ⟨⟨h.r.1, fun i hi => ?_⟩, fun g o e h0 => ?_, fun m hm => (h.ms m hm).kept hk hs⟩
  · obtain ⟨h1, g, o, e, hg, hr⟩ := h.r.2 i hi
    exact ⟨((h.ms _ (List.getElem_mem hi)).kept hk hs).r, g, o, e, Nat.lt_of_lt_of_le hg hk.size, fun j u hu => (hk.cell (p := ⟨g, o + i * 6 + j, none⟩) hg (hne g o e (by omega))).trans (hr j u hu)⟩
  · obtain ⟨cs, fr, hb⟩ := h.ty g o e h0
    exact ⟨cs, fr, hk.keep hb (hne g o e h0)⟩
theorem Other.none (w : World) : Other w (fun _ => False) := fun b h => h.elim
theorem MsgT.below {w w' : World} {m : Msg} (h : MsgT w m) (hb : Below w.heap.size w w') : MsgT w' m := h.kept (Kept.of_below hb) (Other.none w)
theorem RowT.below {w w' : World} {ad : Option Addr} {l : List Msg} (h : RowT w ad l) (hb : Below w.heap.size w w') : RowT w' ad l := h.kept (Kept.of_below hb) (Other.none w)
theorem RowT.get {w : World} {ad : Option Addr} {l : List Msg} (h : RowT w ad l) {i : Nat} (hi : i < l.length) : MsgT w l[i] := h.ms _ (List.getElem_mem hi)
theorem RowT.nil (w : World) : RowT w none [] := ⟨⟨by simp, fun i h => by simp at h⟩, fun g o e h => by simp at h, fun m hm => by cases hm⟩
/-- what is owned can be read -/
theorem RowT.of_own {w : World} {B : Nat} {ad : Option Addr} {l : List Msg} {cap : Nat} (h : w.ownsRow B 34 6 (.slice ad l.length cap) l.length (rowsM l)) (hl : l.length ≤ 9223372036854775807) (hm : ∀ m ∈ l, MsgT w m) : RowT w ad l := by
  refine ⟨⟨hl, fun i hi => ?_⟩, fun g o e h0 => ?_, hm⟩
  · obtain ⟨g, c, hv, hg0, hg1⟩ := h.form (by omega)
    injection hv with e1 e2 e3
    refine ⟨(hm _ (List.getElem_mem hi)).r, g, 0, e1, hg1, fun j u hu => ?_⟩
    have := h.cells (g := g) (by rw [e1]; rfl) (i * 6 + j) u (rowsM_at l i hi j u hu)
    rw [show (⟨g, 0, none⟩ : Addr).add (i * 6 + j) = ⟨g, 0 + i * 6 + j, none⟩ from by unfold Addr.add; split <;> simp_all [Nat.add_assoc]] at this
    exact this
  · obtain ⟨g', c, hv, hg0, hg1⟩ := h.form (by omega)
    injection hv with e1 e2 e3
    rw [e] at e1
    injection e1 with e1
    injection e1 with e4 e5 e6
    obtain ⟨c, fz, hc⟩ := Lib.ownsRow_kind h g (by rw [e]; rfl)
    exact ⟨c, fz, hc⟩
/-- a stay's cells -/
structure ST where
  proc : Int
  ce : Nat
  cr : Int
  mem : Nat
  p0 : List Msg
  a0 : Option Addr
  c0 : Nat
  p1 : List Msg
  a1 : Option Addr
  c1 : Nat
  cb : Nat
  tr : Option Nat
  went : Bool
def stC (s : ST) : Array Value := #[.int .i64 s.proc, .int .u64 (s.ce : Int), .int .i64 s.cr, .int .u64 (s.mem : Int), .slice s.a0 s.p0.length s.c0, .slice s.a1 s.p1.length s.c1, .map (some s.cb), .pointer (s.tr.map fun b => ⟨b, 0, none⟩), .bool s.went]
def StAt (w : World) (S : Nat) (s : ST) : Prop := w.heap[S]? = some (.cells (stC s) 66 (0, 0))
theorem StAt.lt {w : World} {S : Nat} {s : ST} (h : StAt w S s) : S < w.heap.size := (Array.getElem?_eq_some_iff.1 h).1
theorem StAt.below {w w' : World} {S : Nat} {s : ST} (h : StAt w S s) (hb : Below w.heap.size w w') : StAt w' S s := (hb.block _ h.lt).trans h
theorem StAt.kept {w w' : World} {S : Nat} {s : ST} {P : Nat → Prop} (h : StAt w S s) (hk : Kept P w w') (hs : ¬ P S) : StAt w' S s := (hk.block _ h.lt hs).trans h
set_option maxHeartbeats 4000000 in
theorem all_any (w : World) (S : Nat) (s : ST) (h : StAt w S s) (h0 : RowT w s.a0 s.p0) (h1 : RowT w s.a1 s.p1) (hl0 : s.p0.length ≤ 10000) (hl1 : s.p1.length ≤ 10000) :
    Calls Try.prog 35 #[.pointer (some ⟨S, 0, none⟩)] w fun e w' => Cat2 w s.p0 s.p1 e w' ∧ Below w.heap.size w w' := by
  have c4' : w.cell? ⟨S, 4, none⟩ = some (.slice s.a0 s.p0.length s.c0) := cell_of_row _ _ 4 _ _ _ h
  have c5' : w.cell? ⟨S, 5, none⟩ = some (.slice s.a1 s.p1.length s.c1) := cell_of_row _ _ 5 _ _ _ h
  have c4 := Bel.cell c4' h.lt
  have c5 := Bel.cell c5' h.lt
  clear c4' c5'
  obtain ⟨x, hx⟩ : ∃ x, x = s.p0 := ⟨_, rfl⟩
  obtain ⟨y, hy⟩ : ∃ y, y = s.p1 := ⟨_, rfl⟩
  rw [← hx] at c4 h0 hl0
  rw [← hy] at c5 h1 hl1
  rw [← hx, ← hy]
  generalize s.a0 = xa at *
  generalize s.a1 = ya at *
  generalize s.c0 = xc at *
  generalize s.c1 = yc at *
  have HH := Lib.hid (And.intro h0 (And.intro h1 (And.intro hl0 hl1)))
  have hC := concat2_any x y xa ya xc yc
  have HC := Lib.hid hC
  obtain ⟨n, hn⟩ : ∃ n, n = x.length := ⟨_, rfl⟩
  obtain ⟨m, hm⟩ : ∃ m, m = y.length := ⟨_, rfl⟩
  rw [← hn] at c4
  rw [← hm] at c5
  have HN := Lib.hid (And.intro hn hm)
  clear hx hy h0 h1 hl0 hl1 hC h hn hm
  go_enter Try.func35, Try.ntmps35
  go_upto_region 1 with (fail)
  refine wp_region_bel_tail 10 (by kernel_rfl) (by kernel_rfl) ?_
  simp only [List.take_succ_cons, List.take_zero, List.drop_succ_cons, List.drop_zero]
  repeat (go_big_quiet_step ((fail)))
  refine wpQuiet_nil ?_
  intro w5 hw5
  obtain ⟨x5, rfl⟩ := hw5
  have hb5 := x5.prop
  generalize x5.val = w5 at *
  clear c4 c5
  obtain ⟨X, hX⟩ : ∃ X, X = w5.heap.size := ⟨_, rfl⟩
  obtain ⟨w6, hw6⟩ : ∃ w6, w6 = w5.alloc (.cells #[.slice xa n xc, .slice ya m yc] 61) := ⟨_, rfl⟩
  have hb6 := ba (br w5) (.cells #[.slice xa n xc, .slice ya m yc] 61)
  have hx6 := heap_alloc_new w5 (.cells #[.slice xa n xc, .slice ya m yc] 61)
  rw [← hw6] at hb6 hx6
  rw [← hX] at hx6
  have hbb := bt hb5 hb6
  have HK := Lib.hid (show Calls Try.prog 55 #[.slice (some ⟨X, 0, none⟩) 2 2] w6 fun e w' => Cat2 w x y e w' ∧ Below w.heap.size w w' from by
    rw [HN.out.1, HN.out.2] at hx6
    refine (HC.out X w6 hx6 (HH.out.1.below hbb).r (HH.out.2.1.below hbb).r HH.out.2.2.1 HH.out.2.2.2).mono ?_
    rintro e w' ⟨⟨ad, cap, rfl, ho⟩, hb⟩
    exact ⟨⟨ad, cap, rfl, ownMore ho hbb.size⟩, bt hbb hb⟩)
  clear hb6 hx6 hbb hb5
  go_wp2_with fail
  rw [← hw6, ← hX]
  refine HK.out.mono ?_
  rintro e w7 ⟨⟨ad, cap, rfl, ho⟩, hb⟩
  have HE := Lib.hid (show Cat2 w x y (.returned (.slice ad (x ++ y).length cap)) w7 ∧ Below w.heap.size w w7 from ⟨⟨ad, cap, rfl, ho⟩, hb⟩)
  clear ho hb HK
  generalize (x ++ y).length = k at *
  go_wp2_with fail
  go_ret
  exact HE.out
end Go.Proofs.Ytogagkgkmoppmaa
