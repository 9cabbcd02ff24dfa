/-
  Messages without the places of their vectors; what a copy of numbers, and hold's copies, return.
  Conditions: none.
-/
import Derived.Test.YtgjlcjbmcnofiaaDoorCmpA
import Derived.Test.YtgjlcjbmcnofiaaDoorSortH
namespace Go.Proofs.YtgjlcjbmcnofiaaDoor
set_option linter.unusedVariables false
set_option linter.unusedSimpArgs false
open Go.RowKit
/-- what a message reads as -/
def core (m : Msg) : Int × Nat × Nat × Int × List Nat × ByteArray := (m.frm, m.seq, m.stamp, m.service, m.ds, m.pay)
theorem core_same (a b : Msg) : sameM a b = decide (core a = core b) := by
  unfold sameM core
  congr 1
  simp only [Prod.mk.injEq, eq_iff_iff]
  constructor
  · rintro ⟨h1, h2, h3, h4, h5, h6⟩; exact ⟨h1, h2, h3, h4, h6, h5⟩
  · rintro ⟨h1, h2, h3, h4, h5, h6⟩; exact ⟨h1, h2, h3, h4, h6, h5⟩
theorem core_iff {a b : Msg} : core a = core b ↔ (a.frm = b.frm ∧ a.seq = b.seq ∧ a.stamp = b.stamp ∧ a.service = b.service ∧ a.ds = b.ds ∧ a.pay = b.pay) := by
  unfold core; simp
theorem allM_core : ∀ {x y : List Msg}, x.map core = y.map core → allM x y = true
  | [], [], _ => rfl
  | a :: x, b :: y, h => by
    simp only [List.map_cons, List.cons.injEq] at h
    rw [allM, core_same, allM_core h.2]; simp [h.1]
  | [], b :: y, h => by simp at h
  | a :: x, [], h => by simp at h
def numsM (L : List Nat) : List Value := L.map fun q : Nat => .int .u32 (q : Int)
theorem numsM_one (L : List Nat) : ∀ u ∈ numsM L, u.oneCell' = true := by
  intro u hu
  unfold numsM at hu
  obtain ⟨q, _, rfl⟩ := List.mem_map.1 hu
  rfl
theorem numsM_len (L : List Nat) : (numsM L).length = L.length := by simp [numsM]
theorem info33 : (Tryd.prog.info? 33).map (fun i => (i.zero, i.size, i.bytes)) = some (some (.int .u32 0), 1, 4) := by kernel_rfl
theorem MsgOk.deps {w : World} {m : Msg} (h : MsgOk w m) : Reads w w.heap.size 1 m.da m.ds.length (numsM m.ds) := by
  obtain ⟨_, _, _, _, h5⟩ := h
  refine ⟨by rw [numsM_len]; omega, fun hn => ?_⟩
  obtain ⟨B, O, e, hB, _⟩ := h5 0 hn
  refine ⟨_, e, hB, fun j u hu => ?_⟩
  have hj : j < m.ds.length := by have := (List.getElem?_eq_some_iff.1 hu).1; rwa [numsM_len] at this
  obtain ⟨B', O', e', _, hc⟩ := h5 j hj
  rw [e] at e'
  injection e' with e'
  injection e' with e1 e2
  subst e1; subst e2
  unfold numsM at hu
  rw [List.getElem?_map, List.getElem?_eq_getElem hj] at hu
  injection hu with hu
  rw [← hu, ← hc]
  congr 1
  unfold Addr.add
  split <;> simp_all
theorem MsgsAt.bel {w : World} {ad : Option Addr} {n cap : Nat} {l : List Msg} (h : MsgsAt w (.slice ad n cap) l) {i : Nat} (hi : i < l.length) : ∃ B O, ad = some ⟨B, O, none⟩ ∧ (∀ w' : World, (∃ x : Bel w, w' = x.val) → w'.rangeAt B (O + i * 6) (msgA l[i]).toList) ∧ MsgOk w l[i] := by
  obtain ⟨ad', cap', e, _, h⟩ := h
  injection e with e _ _
  subst e
  obtain ⟨B, O, e, hB, hr, ho⟩ := h i hi
  exact ⟨B, O, e, Bel.range hr hB, ho⟩
/-- a message whose vector lies in memory of its own, in a block from B on -/
def FreshM (B : Nat) (w : World) (m : Msg) : Prop := MsgOk w m ∧ w.ownsRow B 33 1 (.slice m.da m.ds.length m.dc) m.ds.length (numsM m.ds)
theorem MsgOk.of_own {w : World} {B : Nat} {m : Msg} (h1 : m.ds.length ≤ 9223372036854775807) (h2 : m.pay.size ≤ 9223372036854775807) (h3 : m.seq < 4294967296) (h4 : m.stamp < 18446744073709551616) (ho : w.ownsRow B 33 1 (.slice m.da m.ds.length m.dc) m.ds.length (numsM m.ds)) : MsgOk w m := by
  refine ⟨h1, h2, h3, h4, fun i hi => ?_⟩
  obtain ⟨g, cap, hv, hg0, hg1⟩ := ho.form (by omega)
  injection hv with e1 e2 e3
  refine ⟨g, 0, e1, hg1, ?_⟩
  have := ho.cells (g := g) (by rw [e1]; rfl) i (.int .u32 (m.ds[i] : Int)) (by unfold numsM; rw [List.getElem?_map, List.getElem?_eq_getElem hi]; rfl)
  rw [← this]
  congr 1
  unfold Addr.add
  split <;> simp_all
theorem own_ne {w : World} {b1 b2 : Nat} {e1 e2 : TypeId} {s1 s2 n1 n2 : Nat} {v1 v2 : Value} {x1 x2 : List Value} (h1 : w.ownsRow b1 e1 s1 v1 n1 x1) (h2 : w.ownsRow b2 e2 s2 v2 n2 x2) (hne : e1 ≠ e2) : ∀ b, v1.ownBlock = some b → v2.ownBlock ≠ some b := by
  intro b hb hc
  rcases h1.2 with ⟨rfl, _⟩ | ⟨g, cap, cur, rfl, _, hh, _⟩
  · simp [Value.ownBlock] at hb
  · have : g = b := by simpa [Value.ownBlock] using hb
    subst this
    exact own_blk_ne h2 hh (fun e => hne e.symm) hc
theorem FreshM.kept {B : Nat} {w w' : World} {m : Msg} {S : Nat → Prop} (h : FreshM B w m) (hk : Kept S w w') (hS : ∀ b, (Value.slice m.da m.ds.length m.dc).ownBlock = some b → ¬ S b) : FreshM B w' m := by
  have ho := own_keptS h.2 hk hS
  obtain ⟨h1, h2, h3, h4, _⟩ := h.1
  exact ⟨.of_own h1 h2 h3 h4 ho, ho⟩
theorem FreshM.below {B : Nat} {w w' : World} {m : Msg} (h : FreshM B w m) (hb : Below w.heap.size w w') : FreshM B w' m := h.kept (S := fun _ => False) (.of_below hb) (fun _ _ h => h)
theorem FreshM.grown {B B2 : Nat} {w w' : World} {m : Msg} {v : Value} {n : Nat} {xs : List Value} (h : FreshM B w m) (ho : w.ownsRow B2 42 6 v n xs) (hg : w.grownBy w' v.ownBlock) : FreshM B w' m := by
  refine h.kept (S := fun k => v.ownBlock = some k) ⟨hg.os, hg.tape, hg.output, hg.size, fun i hi hs => hg.block i hi (fun e => hs e.symm)⟩ (fun b hb hc => ?_)
  exact own_ne h.2 ho (by decide) b hb hc
theorem FreshM.more {B B' : Nat} {w : World} {m : Msg} (h : FreshM B w m) (hb : B' ≤ B) : FreshM B' w m := ⟨h.1, ownMore h.2 hb⟩
def Clone32 (w : World) (ds : List Nat) (e : Ending) (w' : World) : Prop := ∃ ad cap, e = .returned (.slice ad ds.length cap) ∧ w'.ownsRow w.heap.size 33 1 (.slice ad ds.length cap) ds.length (numsM ds)
set_option maxRecDepth 100000 in
set_option maxHeartbeats 2000000 in
theorem clone32_any (ad : Option Addr) (ds : List Nat) (cap : Nat) (w : World) (h : Reads w w.heap.size 1 ad ds.length (numsM ds)) (hl : ds.length ≤ 1000000) : Calls Tryd.prog 62 #[.slice ad ds.length cap] w fun e w' => Clone32 w ds e w' ∧ Below w.heap.size w w' := by
  obtain ⟨i0, hi, hz0, hz1, hz2⟩ := info_parts info33
  rcases ad with _ | p
  · have h0 : ds.length = 0 := by
      rcases Nat.eq_zero_or_pos ds.length with h0 | h0
      · exact h0
      · obtain ⟨_, e, _⟩ := h.2 h0; cases e
    have : ds = [] := List.eq_nil_of_length_eq_zero h0
    subst this
    have hnil : ∀ W : World, (Go.binOp .eql 40 (.slice none 0 cap) (.slice none 0 0)).run Tryd.prog W = .ok (.bool true) W := fun W => Lib.run_eql_slice_nil W 40 33 none 0 cap 0 0 Tryd.underlying40
    have HO := Lib.hid (show Clone32 w [] (.returned (.slice none 0 0)) w from ⟨_, _, rfl, rfl, .inl ⟨rfl, rfl⟩⟩)
    clear h h0 hl
    go_enter Tryd.func62, Tryd.ntmps62
    go_wp2
    go_ret
    exact ⟨HO.out, br _⟩
  · have hb := ba (br w) (.cells #[] 33)
    have own1 := ownNil w w.heap.size 33 1 (Nat.le_refl _)
    have HR := Lib.hid (h.below hb)
    have H1 := Lib.hid (And.intro own1 hb)
    have hnil : ∀ W : World, (Go.binOp .eql 40 (.slice (some p) ds.length cap) (.slice none 0 0)).run Tryd.prog W = .ok (.bool false) W := fun W => Lib.run_eql_slice_nil W 40 33 (some p) ds.length cap 0 0 Tryd.underlying40
    clear h own1 hb
    go_enter Tryd.func62, Tryd.ntmps62
    go_wp2_with (at_builtin; refine wpList_append_any _ rfl (.tmp 5) (.tmp 6) 40 rfl w.heap.size 33 i0 _ 1 4 Tryd.underlying40 hi hz0 hz1 hz2 rfl (by decide) _ 0 [] rfl H1.out.1 w.heap.size _ ds.length _ (numsM ds) rfl HR.out (numsM_one _) ?c3 ?c4 ?c5 ?_)
    case c3 => unfold maxLen; omega
    case c4 => omega
    case c5 => simp
    intro v6 w6 ho6 hg6 hu6
    have hb6 := grownB H1.out.2 H1.out.2.size hg6 (fun b hb => (H1.out.1.lt b hb).1)
    obtain ⟨a6, c6, rfl⟩ := ownForm ho6
    have HO := Lib.hid (show Clone32 w ds (.returned (.slice a6 ds.length c6)) w6 from ⟨a6, c6, rfl, ho6⟩)
    clear ho6 hg6 hu6
    go_wp2
    go_ret
    exact ⟨HO.out, hb6⟩
/-- what hold's copies leave: the same messages, in memory of their own -/
def CopyEnd (w : World) (l : List Msg) (e : Ending) (w' : World) : Prop := ∃ v L, e = .returned v ∧ w'.ownsRow w.heap.size 42 6 v L.length (rowsM L) ∧ L.map core = l.map core ∧ ∀ m ∈ L, FreshM w.heap.size w' m
set_option maxRecDepth 100000 in
set_option maxHeartbeats 4000000 in
theorem copies_any (v : Value) (l : List Msg) (w : World) (h : MsgsAt w v l) (hl : l.length ≤ 1000) (hd : ∀ m ∈ l, m.ds.length ≤ 1000000) : Calls Tryd.prog 74 #[v] w fun e w' => CopyEnd w l e w' ∧ Below w.heap.size w w' := by
  have HH := Lib.hid h
  have HD := Lib.hid hd
  obtain ⟨ad, cap, rfl, hz⟩ := id h
  obtain ⟨i0, hi, hz0, hz1, hz2⟩ := info_parts info42
  clear h hz hd
  go_enter Tryd.func74, Tryd.ntmps74
  go_wp2
  go_loopw [3, 8] (fun u i wr => ∃ (k : Nat) (L : List Msg), k ≤ l.length ∧ i = .int .i64 (k : Int) ∧ Hid (L.length = k ∧ L.map core = (l.take k).map core ∧ ∀ m ∈ L, FreshM w.heap.size wr m) ∧ wr.ownsRow w.heap.size 42 6 u L.length (rowsM L) ∧ Below w.heap.size w wr) (fun _ i _ => l.length - (intOf i).toNat)
  case atStart => exact ⟨0, [], by omega, rfl, ⟨rfl, rfl, by simp⟩, ⟨rfl, .inl ⟨rfl, rfl⟩⟩, br _⟩
  case round =>
    obtain ⟨k, L, hk, rfl, HL, ho, hB⟩ := hrel
    by_cases hlt : k < l.length
    · have hbool : decide (k < l.length) = true := by simpa using hlt
      have hbool' : decide ((k : Int) < (l.length : Int)) = true := by simpa using hlt
      have hi0 : (k : Int) < (l.length : Int) := by omega
      obtain ⟨ad', cap', e0, _, hm⟩ := HH.out.below hB
      injection e0 with e0 e1 e2
      subst e0
      subst e2
      clear e1
      obtain ⟨g, o, rfl, hg, hrow, hok⟩ := hm k hlt
      have hdl : l[k].ds.length ≤ 1000000 := HD.out _ (List.getElem_mem _)
      have htk := List.take_succ_eq_append_getElem hlt
      obtain ⟨x, hx⟩ : ∃ x, x = l[k] := ⟨_, rfl⟩
      rw [← hx] at hrow hok hdl htk
      have y0 : wr.cell? ⟨g, o + k * 6, none⟩ = some (.int .i64 x.frm) := hrow 0 _ rfl
      have y1 : wr.cell? ⟨g, o + k * 6 + 1, none⟩ = some (.int .u32 (x.seq : Int)) := hrow 1 _ rfl
      have y2 : wr.cell? ⟨g, o + k * 6 + 2, none⟩ = some (.int .u64 (x.stamp : Int)) := hrow 2 _ rfl
      have y3 : wr.cell? ⟨g, o + k * 6 + 3, none⟩ = some (.int .i64 x.service) := hrow 3 _ rfl
      have y4 : wr.cell? ⟨g, o + k * 6 + 4, none⟩ = some (.slice x.da x.ds.length x.dc) := hrow 4 _ rfl
      have y5 : wr.cell? ⟨g, o + k * 6 + 5, none⟩ = some (.string x.pay) := hrow 5 _ rfl
      have hbA := ba (br wr) (.cells #[.int .i64 x.frm, .int .u32 (x.seq : Int), .int .u64 (x.stamp : Int), .int .i64 x.service, .slice x.da x.ds.length x.dc, .string x.pay] 42)
      have hC := Lib.hid (clone32_any x.da x.ds x.dc _ ((hok.deps.below hbA).more hbA.size) hdl)
      have HA := Lib.hid (And.intro ho (And.intro hB (And.intro hok (And.intro htk hlt))))
      clear hm hg hrow hx ho hB hok htk hbA hlt
      go_wp2_with fail
      refine hC.out.mono ?_
      rintro e w2 ⟨⟨ad2, cap2, rfl, ho2⟩, hb2⟩
      have hblk : w2.heap[wr.heap.size]? = some (.cells #[.int .i64 x.frm, .int .u32 (x.seq : Int), .int .u64 (x.stamp : Int), .int .i64 x.service, .slice x.da x.ds.length x.dc, .string x.pay] 42 (0, 0)) := (hb2.block wr.heap.size (by simp)).trans (heap_alloc_new wr _)
      have hblk3 := setCell_block hblk 4 (.slice ad2 x.ds.length cap2)
      have c4 : w2.cell? ⟨wr.heap.size, 4, none⟩ = some (.slice x.da x.ds.length x.dc) := cell_of_row _ _ 4 _ _ _ hblk
      have f4 : w2.frozen? ⟨wr.heap.size, 4, none⟩ = false := frozen_of_row _ _ _ _ _ hblk
      have c0 : w2.cell? ⟨wr.heap.size, 0, none⟩ = some (.int .i64 x.frm) := cell_of_row _ _ 0 _ _ _ hblk
      have c1 : w2.cell? ⟨wr.heap.size, 1, none⟩ = some (.int .u32 (x.seq : Int)) := cell_of_row _ _ 1 _ _ _ hblk
      have c2 : w2.cell? ⟨wr.heap.size, 2, none⟩ = some (.int .u64 (x.stamp : Int)) := cell_of_row _ _ 2 _ _ _ hblk
      have c3 : w2.cell? ⟨wr.heap.size, 3, none⟩ = some (.int .i64 x.service) := cell_of_row _ _ 3 _ _ _ hblk
      have c5 : w2.cell? ⟨wr.heap.size, 5, none⟩ = some (.string x.pay) := cell_of_row _ _ 5 _ _ _ hblk
      obtain ⟨y, hy⟩ : ∃ y : Msg, y = ⟨x.frm, x.seq, x.stamp, x.service, x.ds, x.pay, ad2, cap2⟩ := ⟨_, rfl⟩
      have hb3 : Below wr.heap.size wr (w2.setCell ⟨wr.heap.size, 4, none⟩ (.slice ad2 x.ds.length cap2)) := bs ((ba (br wr) _).trans (hb2.mono (by simp))) (Nat.le_refl _) _
      have hk3 : Kept (fun b => b = wr.heap.size) w2 (w2.setCell ⟨wr.heap.size, 4, none⟩ (.slice ad2 x.ds.length cap2)) := (show Kept (fun b => b = wr.heap.size) w2 w2 from .refl _ _).setCell (p := ⟨wr.heap.size, 4, none⟩) rfl _
      have ho3 := own_keptS ho2 hk3 (fun b hb he => by have := (ho2.lt b hb).1; simp at this; omega)
      obtain ⟨W3, hW3⟩ : ∃ W3, W3 = w2.setCell ⟨wr.heap.size, 4, none⟩ (.slice ad2 x.ds.length cap2) := ⟨_, rfl⟩
      have hown3 := own_keptS HA.out.1 (Kept.of_below (S := fun _ => False) hb3) (fun _ _ h => h)
      have hfy : FreshM wr.heap.size (w2.setCell ⟨wr.heap.size, 4, none⟩ (.slice ad2 x.ds.length cap2)) y := by
        obtain ⟨h1, h2, h3, h4, _⟩ := HA.out.2.2.1
        rw [hy]
        have := ownMore (base := wr.heap.size) ho3 (by simp)
        exact ⟨.of_own h1 h2 h3 h4 this, this⟩
      have hmy : msgA y = #[.int .i64 x.frm, .int .u32 (x.seq : Int), .int .u64 (x.stamp : Int), .int .i64 x.service, .slice ad2 x.ds.length cap2, .string x.pay] := by rw [hy]; rfl
      have hcy : core y = core x := by rw [hy]; rfl
      have HY := Lib.hid hy
      clear hy
      have H3 := Lib.hid (And.intro hb3 (And.intro hown3 (And.intro hfy (And.intro hmy hcy))))
      have HZ := Lib.hid (show Reads ((w2.setCell ⟨wr.heap.size, 4, none⟩ (.slice ad2 x.ds.length cap2)).alloc (.cells #[.int .i64 x.frm, .int .u32 (x.seq : Int), .int .u64 (x.stamp : Int), .int .i64 x.service, .slice ad2 x.ds.length cap2, .string x.pay] 42)) (w2.heap.size + 1) 6 (some ⟨w2.heap.size, 0, none⟩) 1 (msgA y).toList from by
        have := reads_new (w2.setCell ⟨wr.heap.size, 4, none⟩ (.slice ad2 x.ds.length cap2)) y
        rw [hmy] at this ⊢
        simpa [World.setCell] using this)
      have hzz : w.heap.size ≤ w2.heap.size := by
        have h1 := HA.out.2.1.size
        have h2 := hb3.size
        simp [World.setCell] at h2
        omega
      have HL1 := Lib.hid (show L.length ≤ 1000 by have := HL.out.1; omega)
      have hL1 := HL1.out
      clear hblk hblk3 hb3 hk3 ho2 ho3 hb2 y0 y1 y2 y3 y4 y5 hown3 hfy hmy hcy hW3
      go_wp2_with (at_builtin; (refine wpList_append_any _ rfl (.tmp 16) (.tmp 18) 27 rfl w.heap.size 42 i0 _ 6 72 Tryd.underlying27 hi hz0 hz1 hz2 rfl (by decide) u3 L.length (rowsM L) rfl (H3.out.2.1.alloc _) (w2.heap.size + 1) (some ⟨w2.heap.size, 0, none⟩) 1 1 (msgA y).toList rfl HZ.out (msgA_one y) (by unfold maxLen; omega) (by omega) (by simp [World.setCell]; omega) ?_))
      intro v4 w4 ho4 hg4 hu4
      have hbw3 := HA.out.2.1.trans (H3.out.1.mono HA.out.2.1.size)
      have hb4 : Below w.heap.size w w4 := grownB (ba hbw3 _) (ba hbw3 _).size hg4 (fun b hb => (H3.out.2.1.lt b hb).1)
      have hown4 : w4.ownsRow w.heap.size 42 6 v4 (L ++ [y]).length (rowsM (L ++ [y])) := by
        rw [rowsM_snoc, List.length_append]
        exact ho4
      have hf4 : ∀ m ∈ L ++ [y], FreshM w.heap.size w4 m := by
        have hoA := H3.out.2.1.alloc (.cells #[.int .i64 x.frm, .int .u32 (x.seq : Int), .int .u64 (x.stamp : Int), .int .i64 x.service, .slice ad2 x.ds.length cap2, .string x.pay] 42)
        intro m hm
        rcases List.mem_append.1 hm with h | h
        · exact (((HL.out.2.2 m h).below H3.out.1).below (ba (br _) _)).grown hoA hg4
        · simp at h
          rw [h]
          exact ((H3.out.2.2.1.more HA.out.2.1.size).below (ba (br _) _)).grown hoA hg4
      have hmap : (L ++ [y]).map core = (l.take (k + 1)).map core := by
        rw [HA.out.2.2.2.1, List.map_append, List.map_append, HL.out.2.1, List.map_singleton, List.map_singleton, H3.out.2.2.2.2]
      have HE := Lib.hid (And.intro hb4 (And.intro hown4 (And.intro hf4 (And.intro hmap HA.out.2.2.2.2))))
      have HLL := Lib.hid (show (L ++ [y]).length = k + 1 by rw [List.length_append, HL.out.1]; rfl)
      clear hbw3 hb4 hown4 hf4 hmap ho4 hg4 hu4
      go_wp2
      exact ⟨⟨k + 1, L ++ [y], HE.out.2.2.2.2, by go_num, ⟨HLL.out, HE.out.2.2.2.1, HE.out.2.2.1⟩, HE.out.2.1, HE.out.1⟩, measI HE.out.2.2.2.2⟩
    · have hbool : decide (k < l.length) = false := by simpa using hlt
      have hbool' : decide ((k : Int) < (l.length : Int)) = false := by simpa using hlt
      have HE := Lib.hid (show CopyEnd w l (.returned u3) wr from ⟨_, L, rfl, ho, by rw [HL.out.2.1, List.take_of_length_le (by omega)], HL.out.2.2⟩)
      clear ho
      go_wp2
      go_ret
      exact ⟨HE.out, hB⟩
end Go.Proofs.YtgjlcjbmcnofiaaDoor
