/-
  What the reference's taker takes of each field, and what its Parse returns.
  Conditions: those that each theorem names.
-/
import Derived.Test.YtgpojbmloielmaaTake1
import Derived.Test.YtgpojbmloielmaaReadG
import Derived.Test.YtgpojbmloielmaaReadI
import Derived.Test.YtgpojbmloielmaaPackRB
import Derived.Test.YtgpojbmloielmaaPackL
import Derived.Test.YtgpojbmloielmaaFrameC
namespace Go.Proofs.Ytgpojbmloielmaa
set_option linter.unusedVariables false
set_option linter.unusedSimpArgs false
open Go.RowKit
/-- a field that is read into a packet -/
def rdFld (f : Nat) (z : Pkt) (l : List UInt8) : Except Int (Pkt × List UInt8) :=
  if f = 99 then andR (rdConf l) fun c l => .ok ({ z with ce := c.1, cr := (c.2 : Int) }, l)
  else if f = 109 then andR (rdMsg (if z.kind = 9 then z.whom else z.frm) l) fun m l => .ok ({ z with m := m }, l)
  else if f = 115 then andR (rdN 8 l) fun v l => .ok ({ z with stamp := v }, l)
  else if f = 110 then andR (rdN 4 l) fun v l => .ok ({ z with sent := v }, l)
  else if f = 103 then andR (rdVec l) fun v l => .ok ({ z with got := v }, l)
  else if f = 104 then andR (rdN 8 l) fun v l => .ok ({ z with hor := v }, l)
  else if f = 119 then andR (rdProc l) fun v l => .ok ({ z with whom := (v : Int) }, l)
  else if f = 113 then andR (rdN 4 l) fun v l => .ok ({ z with seq := v }, l)
  else if f = 112 then andR (rdConf l) fun c l => .ok ({ z with pe := c.1, pr := (c.2 : Int) }, l)
  else if f = 101 then andR (rdN 8 l) fun v l => .ok ({ z with epoch := v }, l)
  else if f = 98 then andR (rdN 8 l) fun v l => .ok ({ z with mem := v }, l)
  else if f = 120 then andR (rdEx l) fun x l => .ok ({ z with xs := [x] }, l)
  else andR (rdN 1 l) fun n l => andR (rdBad 3 (decide (64 < n)) l) fun _ l => andR (rdExs n l) fun xs l => .ok ({ z with xs := z.xs ++ xs }, l)
theorem OwnPk.keptP {S : Nat → Prop} {B : Nat} {w w' : World} {q : Pkt} (h : OwnPk B w q) (hk : Kept S w w') (hs : ∀ b, S b → b < B ∨ ∃ cs fr, w.heap[b]? = some (.cells cs 35 fr)) : OwnPk B w' q := by
  have key : ∀ {e : TypeId} {z : Nat} {v : Value} {n : Nat} {xs : List Value}, e ≠ 35 → w.ownsRow B e z v n xs → w'.ownsRow B e z v n xs := by
    intro e z v n xs he ho
    refine own_keptS ho hk (fun b hb hsb => ?_)
    rcases hs b hsb with h1 | ⟨cs, fr, h1⟩
    · have := (ho.lt b hb).1
      omega
    · obtain ⟨c, fz, hc⟩ := Lib.ownsRow_kind ho b hb
      rw [h1] at hc
      injection hc with hc
      injection hc with _ hc
      exact he hc.symm
  exact ⟨key (by decide) h.got, key (by decide) h.ds, key (by decide) h.xs, fun x hx => key (by decide) (h.cs x hx)⟩
/-- the field's packet and its result, while it is read -/
structure FSt (w : World) (T : Nat) (s : ByteArray) (A B N : Nat) (q : Pkt) (W : World) (st : Except Int (List UInt8)) : Prop where
  n : W.heap[N]? = some (.cells (pktA q) 35 (0, 0))
  z : W.heap[N + 1]? = some (.cells (pktA zeroP) 35 (0, 0))
  t : TkS W T s A st
  k : Kept (fun b => b = T ∨ B ≤ b) w W
  o : OwnPk B W q
  hT : T < B
  hB : B ≤ w.heap.size
  hN : N = w.heap.size
theorem Kept.imp {S S' : Nat → Prop} {w w' : World} (h : Kept S w w') (hs : ∀ b, S b → S' b) : Kept S' w w' := ⟨h.os, h.tape, h.output, h.size, fun i hi hne => h.block i hi (fun e => hne (hs i e))⟩
theorem FSt.start {w : World} {T : Nat} {s : ByteArray} {A B : Nat} {st : Except Int (List UInt8)} (h : TkS w T s A st) (p : Pkt) (hB : T < B ∧ B ≤ w.heap.size) (ho : OwnPk B w p) {N : Nat} (hN : N = w.heap.size) {W : World} (hW : W = (w.alloc (.cells (pktA p) 35)).alloc (.cells (pktA zeroP) 35)) :
    FSt w T s A B N p W st := by
  have hb1 := ba (br w) (.cells (pktA p) 35)
  have hb2 := ba (br (w.alloc (.cells (pktA p) 35))) (.cells (pktA zeroP) 35)
  have n1 := (hb2.block w.heap.size (by simp)).trans (heap_alloc_new w (.cells (pktA p) 35))
  have n2 := heap_alloc_new (w.alloc (.cells (pktA p) 35)) (.cells (pktA zeroP) 35)
  rw [show (w.alloc (.cells (pktA p) 35)).heap.size = w.heap.size + 1 by simp] at n2
  have hbA := bt hb1 hb2
  subst hW hN
  exact ⟨n1, n2, h.below hbA, Kept.of_below hbA, ho.below hbA, hB.1, hB.2, rfl⟩
theorem FSt.call {w : World} {T : Nat} {s : ByteArray} {A B N : Nat} {q : Pkt} {W : World} {st : Except Int (List UInt8)} (h : FSt w T s A B N q W st) {W' : World} {A' : Nat} {st' : Except Int (List UInt8)} (hk : Kept (fun b => b = T) W W') (ht : TkS W' T s A' st') : FSt w T s A' B N q W' st' :=
  ⟨hk.keep h.n (by have := h.hT; have := h.hB; have := h.hN; omega), hk.keep h.z (by have := h.hT; have := h.hB; have := h.hN; omega), ht, h.k.trans (hk.imp fun b hb => .inl hb), h.o.keptP hk (fun b hb => .inl (by have := h.hT; omega)), h.hT, h.hB, h.hN⟩
theorem FSt.set {w : World} {T : Nat} {s : ByteArray} {A B N : Nat} {q : Pkt} {W : World} {st : Except Int (List UInt8)} (h : FSt w T s A B N q W st) (j : Nat) (v : Value) (q' : Pkt) (hq : (pktA q).setIfInBounds j v = pktA q') (ho : OwnPk B W q') : FSt w T s A B N q' (W.setCell ⟨N, j, none⟩ v) st := by
  have hk := keptS W ⟨N, j, none⟩ v
  have hT := h.hT
  have hB := h.hB
  have hN := h.hN
  exact ⟨by rw [← hq]; exact setCell_block h.n j v, hk.keep h.z (by simp), h.t.kept hk (by simp; omega), h.k.trans (hk.imp fun b hb => .inr (by simp at hb; omega)), ho.keptP hk (fun b hb => .inr (by simp at hb; subst hb; exact ⟨_, _, h.n⟩)), hT, hB, hN⟩
def TFld (T : Nat) (s : ByteArray) (A : Nat) (w : World) (B : Nat) (p : Pkt) (f : Nat) (st : Except Int (List UInt8)) (en : Ending) (w' : World) : Prop :=
  ∃ (q : Pkt) (st' : Except Int (List UInt8)), en = .returned (.agg (pktA q)) ∧ OwnPk B w' q ∧ TkS w' T s (A + 20000) st' ∧ Kept (fun b => b = T ∨ B ≤ b) w w' ∧ TR st (rdFld f (coreP p)) (coreP q) st' ∧ q.xs.length ≤ p.xs.length + 64
theorem FSt.fin {w : World} {T : Nat} {s : ByteArray} {A A' B N : Nat} {p q : Pkt} {W : World} {st st' : Except Int (List UInt8)} {f : Nat} (h : FSt w T s A' B N q W st') (hA : A' ≤ A + 20000) (hr : TR st (rdFld f (coreP p)) (coreP q) st') (hx : q.xs.length ≤ p.xs.length + 64) {C : Array Value} (hC : C = pktA q) :
    TFld T s A w B p f st (.returned (.agg C)) (W.setRow (N + 1) C) := by
  subst hC
  have hk := kept_setRow' W (N + 1) (pktA q)
  have hT := h.hT
  have hB := h.hB
  have hN := h.hN
  exact ⟨q, st', rfl, h.o.keptP hk (fun b hb => .inr (by subst hb; exact ⟨_, _, h.z⟩)), (h.t.kept hk (by omega)).le hA, h.k.trans (hk.imp fun b hb => .inr (by omega)), hr, hx⟩
set_option maxRecDepth 100000 in
set_option maxHeartbeats 8000000 in
theorem tFld_c {w : World} {T : Nat} {s : ByteArray} {A : Nat} {st : Except Int (List UInt8)} (h : TkS w T s A st) (hA : A ≤ 7000000) (hA0 : 1000000 ≤ A) (p : Pkt) {B : Nat} (hB : T < B ∧ B ≤ w.heap.size) (ho : OwnPk B w p) :
    Calls Try.prog 26 #[.pointer (some ⟨T, 0, none⟩), .int .u8 99, .agg (pktA p)] w fun en w' => TFld T s A w B p 99 st en w' := by
  obtain ⟨N, hN⟩ : ∃ N, N = w.heap.size := ⟨_, rfl⟩
  obtain ⟨W, hW⟩ : ∃ W, W = (w.alloc (.cells (pktA p) 35)).alloc (.cells (pktA zeroP) 35) := ⟨_, rfl⟩
  have hS := FSt.start h p hB ho hN hW
  have HS := Lib.hid hS
  have HA := Lib.hid (And.intro hA hA0)
  have HC := Lib.hid (tConf_any hS.t (by omega))
  have hma : pktA p = #[.int .i64 p.kind, .int .i64 p.frm, .int .i64 p.dst, .int .u64 (p.ce : Int), .int .i64 p.cr, .int .i64 p.m.frm, .int .u32 (p.m.seq : Int), .int .u64 (p.m.stamp : Int), .int .i64 p.m.service, .slice p.m.da p.m.ds.length p.m.dc, .string p.m.pay, .int .u64 (p.stamp : Int), .int .u32 (p.sent : Int), .slice p.ga p.got.length p.gc, .int .u64 (p.hor : Int), .int .i64 p.whom, .int .u32 (p.seq : Int), .int .u64 (p.mem : Int), .int .u64 (p.pe : Int), .int .i64 p.pr, .int .u64 (p.epoch : Int), .slice p.xa p.xs.length p.xc] := rfl
  have hmz : pktA zeroP = #[.int .i64 0, .int .i64 0, .int .i64 0, .int .u64 0, .int .i64 0, .int .i64 0, .int .u32 0, .int .u64 0, .int .i64 0, .slice none 0 0, .string ⟨#[]⟩, .int .u64 0, .int .u32 0, .slice none 0 0, .int .u64 0, .int .i64 0, .int .u32 0, .int .u64 0, .int .u64 0, .int .i64 0, .int .u64 0, .slice none 0 0] := rfl
  rw [hma, hmz] at hW
  rw [hma]
  clear h hS hA hA0 hB ho
  go_enter Try.func26, Try.ntmps26
  go_upto_region 1 with (fail)
  rw [← hW, ← hN]
  clear hma hmz hW hN
  go_wp2_with fail
  refine HC.out.mono ?_
  rintro en w1 ⟨c, r, st1, rfl, hc, h1, k1, r1⟩
  have s1 := HS.out.call k1 h1
  have e3 : w1.cell? ⟨N, 3, none⟩ = some (.int .u64 (p.ce : Int)) := cell_of_row _ _ 3 _ _ _ s1.n
  have f3 : w1.frozen? ⟨N, 3, none⟩ = false := frozen_of_row _ _ _ _ _ s1.n
  have e4 : w1.cell? ⟨N, 4, none⟩ = some (.int .i64 p.cr) := cell_of_row _ _ 4 _ _ _ s1.n
  have f4 : w1.frozen? ⟨N, 4, none⟩ = false := frozen_of_row _ _ _ _ _ s1.n
  obtain ⟨V, hV⟩ : ∃ V, V = ((w1.setCell ⟨N, 3, none⟩ (.int .u64 (c : Int))).setCell ⟨N, 4, none⟩ (.int .i64 (r : Int))) := ⟨_, rfl⟩
  have s2 := s1.set 3 (.int .u64 (c : Int)) { p with ce := c } (by rfl) ⟨s1.o.got, s1.o.ds, s1.o.xs, s1.o.cs⟩
  have s10 := s2.set 4 (.int .i64 (r : Int)) { p with ce := c, cr := (r : Int) } (by rfl) ⟨s2.o.got, s2.o.ds, s2.o.xs, s2.o.cs⟩
  rw [← hV] at s10
  have HR := Lib.hid r1
  clear HC h1 k1 s1 r1 HS s2
  go_upto_region 36 with (fail)
  rw [← hV]
  clear hV e3 f3 e4 f4
  obtain ⟨C, hC⟩ : ∃ C, C = pktA { p with ce := c, cr := (r : Int) } := ⟨_, rfl⟩
  have hm : V.heap[N]? = some (.cells C 35 (0, 0)) := by rw [hC]; exact s10.n
  have HC := Lib.hid (And.intro (show C.size = 22 by rw [hC]; rfl) (show C.all (·.oneCell') = true by rw [hC]; exact oneCell_pktA _))
  have hst : (V.setRow (N + 1) C).heap[N + 1]? = some (.cells C 35 (0, 0)) := setRow_heap _ _ _ _ _ _ s10.z
  have HX := Lib.hid (And.intro hm (And.intro s10.z hst))
  have HE := Lib.hid (show TFld T s A w B p 99 st (.returned (.agg C)) (V.setRow (N + 1) C) from s10.fin (by omega) (by
    refine TR.eq (r := fun l => andR (rdConf l) fun c l => .ok ({ coreP p with ce := c.1, cr := (c.2 : Int) }, l)) ?_ (fun l => rfl)
    refine TR.bind HR.out ?_
    exact TR.pure _ _) (by show p.xs.length ≤ p.xs.length + 64; omega) hC)
  clear hC hm hst s10
  go_wp2_with (first
    | (refine wpList_load_row rfl 35 (.tmp 5) rfl N rfl 35 C (0, 0) _ HX.out.1 Try.underlying35 rfl (by rw [HC.out.1]; kernel_rfl) ?_)
    | (refine wpList_store_row rfl 35 (.tmp 6) (.tmp 110) rfl (N + 1) C rfl rfl 35 _ HX.out.2.1 (by rw [HC.out.1]; kernel_rfl) (by rw [HC.out.1]; rfl) HC.out.2 ?_))
  refine bodyPost_ret (results_cell_row Try.results26 _ _ (N + 1) 35 C (0, 0) _ rfl HX.out.2.2 Try.underlying35 rfl (by rw [HC.out.1]; kernel_rfl)) rfl ?_
  exact HE.out
set_option maxRecDepth 100000 in
set_option maxHeartbeats 8000000 in
theorem tFld_s {w : World} {T : Nat} {s : ByteArray} {A : Nat} {st : Except Int (List UInt8)} (h : TkS w T s A st) (hA : A ≤ 7000000) (hA0 : 1000000 ≤ A) (p : Pkt) {B : Nat} (hB : T < B ∧ B ≤ w.heap.size) (ho : OwnPk B w p) :
    Calls Try.prog 26 #[.pointer (some ⟨T, 0, none⟩), .int .u8 115, .agg (pktA p)] w fun en w' => TFld T s A w B p 115 st en w' := by
  obtain ⟨N, hN⟩ : ∃ N, N = w.heap.size := ⟨_, rfl⟩
  obtain ⟨W, hW⟩ : ∃ W, W = (w.alloc (.cells (pktA p) 35)).alloc (.cells (pktA zeroP) 35) := ⟨_, rfl⟩
  have hS := FSt.start h p hB ho hN hW
  have HS := Lib.hid hS
  have HA := Lib.hid (And.intro hA hA0)
  have HC := Lib.hid (tNum_any hS.t 8 (by omega) (by omega) (by omega))
  have hma : pktA p = #[.int .i64 p.kind, .int .i64 p.frm, .int .i64 p.dst, .int .u64 (p.ce : Int), .int .i64 p.cr, .int .i64 p.m.frm, .int .u32 (p.m.seq : Int), .int .u64 (p.m.stamp : Int), .int .i64 p.m.service, .slice p.m.da p.m.ds.length p.m.dc, .string p.m.pay, .int .u64 (p.stamp : Int), .int .u32 (p.sent : Int), .slice p.ga p.got.length p.gc, .int .u64 (p.hor : Int), .int .i64 p.whom, .int .u32 (p.seq : Int), .int .u64 (p.mem : Int), .int .u64 (p.pe : Int), .int .i64 p.pr, .int .u64 (p.epoch : Int), .slice p.xa p.xs.length p.xc] := rfl
  have hmz : pktA zeroP = #[.int .i64 0, .int .i64 0, .int .i64 0, .int .u64 0, .int .i64 0, .int .i64 0, .int .u32 0, .int .u64 0, .int .i64 0, .slice none 0 0, .string ⟨#[]⟩, .int .u64 0, .int .u32 0, .slice none 0 0, .int .u64 0, .int .i64 0, .int .u32 0, .int .u64 0, .int .u64 0, .int .i64 0, .int .u64 0, .slice none 0 0] := rfl
  rw [hma, hmz] at hW
  rw [hma]
  clear h hS hA hA0 hB ho
  go_enter Try.func26, Try.ntmps26
  go_upto_region 1 with (fail)
  rw [← hW, ← hN]
  clear hma hmz hW hN
  go_wp2_with fail
  refine HC.out.mono ?_
  rintro en w1 ⟨v, st1, rfl, hv, h1, k1, r1⟩
  have s1 := HS.out.call k1 h1
  have e11 : w1.cell? ⟨N, 11, none⟩ = some (.int .u64 (p.stamp : Int)) := cell_of_row _ _ 11 _ _ _ s1.n
  have f11 : w1.frozen? ⟨N, 11, none⟩ = false := frozen_of_row _ _ _ _ _ s1.n
  obtain ⟨V, hV⟩ : ∃ V, V = (w1.setCell ⟨N, 11, none⟩ (.int .u64 (v : Int))) := ⟨_, rfl⟩
  have s10 := (s1.set 11 (.int .u64 (v : Int)) { p with stamp := v } (by rfl) ⟨s1.o.got, s1.o.ds, s1.o.xs, s1.o.cs⟩)
  rw [← hV] at s10
  have HR := Lib.hid r1
  clear HC h1 k1 s1 r1 HS
  go_upto_region 36 with (fail)
  rw [← hV]
  clear hV e11 f11
  obtain ⟨C, hC⟩ : ∃ C, C = pktA { p with stamp := v } := ⟨_, rfl⟩
  have hm : V.heap[N]? = some (.cells C 35 (0, 0)) := by rw [hC]; exact s10.n
  have HC := Lib.hid (And.intro (show C.size = 22 by rw [hC]; rfl) (show C.all (·.oneCell') = true by rw [hC]; exact oneCell_pktA _))
  have hst : (V.setRow (N + 1) C).heap[N + 1]? = some (.cells C 35 (0, 0)) := setRow_heap _ _ _ _ _ _ s10.z
  have HX := Lib.hid (And.intro hm (And.intro s10.z hst))
  have HE := Lib.hid (show TFld T s A w B p 115 st (.returned (.agg C)) (V.setRow (N + 1) C) from s10.fin (by omega) (by
    refine TR.eq (r := fun l => andR (rdN 8 l) fun v l => .ok ({ coreP p with stamp := v }, l)) ?_ (fun l => rfl)
    refine TR.bind HR.out ?_
    exact TR.pure _ _) (by show p.xs.length ≤ p.xs.length + 64; omega) hC)
  clear hC hm hst s10
  go_wp2_with (first
    | (refine wpList_load_row rfl 35 (.tmp 5) rfl N rfl 35 C (0, 0) _ HX.out.1 Try.underlying35 rfl (by rw [HC.out.1]; kernel_rfl) ?_)
    | (refine wpList_store_row rfl 35 (.tmp 6) (.tmp 110) rfl (N + 1) C rfl rfl 35 _ HX.out.2.1 (by rw [HC.out.1]; kernel_rfl) (by rw [HC.out.1]; rfl) HC.out.2 ?_))
  refine bodyPost_ret (results_cell_row Try.results26 _ _ (N + 1) 35 C (0, 0) _ rfl HX.out.2.2 Try.underlying35 rfl (by rw [HC.out.1]; kernel_rfl)) rfl ?_
  exact HE.out
set_option maxRecDepth 100000 in
set_option maxHeartbeats 8000000 in
theorem tFld_n {w : World} {T : Nat} {s : ByteArray} {A : Nat} {st : Except Int (List UInt8)} (h : TkS w T s A st) (hA : A ≤ 7000000) (hA0 : 1000000 ≤ A) (p : Pkt) {B : Nat} (hB : T < B ∧ B ≤ w.heap.size) (ho : OwnPk B w p) :
    Calls Try.prog 26 #[.pointer (some ⟨T, 0, none⟩), .int .u8 110, .agg (pktA p)] w fun en w' => TFld T s A w B p 110 st en w' := by
  obtain ⟨N, hN⟩ : ∃ N, N = w.heap.size := ⟨_, rfl⟩
  obtain ⟨W, hW⟩ : ∃ W, W = (w.alloc (.cells (pktA p) 35)).alloc (.cells (pktA zeroP) 35) := ⟨_, rfl⟩
  have hS := FSt.start h p hB ho hN hW
  have HS := Lib.hid hS
  have HA := Lib.hid (And.intro hA hA0)
  have HC := Lib.hid (tNum_any hS.t 4 (by omega) (by omega) (by omega))
  have hma : pktA p = #[.int .i64 p.kind, .int .i64 p.frm, .int .i64 p.dst, .int .u64 (p.ce : Int), .int .i64 p.cr, .int .i64 p.m.frm, .int .u32 (p.m.seq : Int), .int .u64 (p.m.stamp : Int), .int .i64 p.m.service, .slice p.m.da p.m.ds.length p.m.dc, .string p.m.pay, .int .u64 (p.stamp : Int), .int .u32 (p.sent : Int), .slice p.ga p.got.length p.gc, .int .u64 (p.hor : Int), .int .i64 p.whom, .int .u32 (p.seq : Int), .int .u64 (p.mem : Int), .int .u64 (p.pe : Int), .int .i64 p.pr, .int .u64 (p.epoch : Int), .slice p.xa p.xs.length p.xc] := rfl
  have hmz : pktA zeroP = #[.int .i64 0, .int .i64 0, .int .i64 0, .int .u64 0, .int .i64 0, .int .i64 0, .int .u32 0, .int .u64 0, .int .i64 0, .slice none 0 0, .string ⟨#[]⟩, .int .u64 0, .int .u32 0, .slice none 0 0, .int .u64 0, .int .i64 0, .int .u32 0, .int .u64 0, .int .u64 0, .int .i64 0, .int .u64 0, .slice none 0 0] := rfl
  rw [hma, hmz] at hW
  rw [hma]
  clear h hS hA hA0 hB ho
  go_enter Try.func26, Try.ntmps26
  go_upto_region 1 with (fail)
  rw [← hW, ← hN]
  clear hma hmz hW hN
  go_wp2_with fail
  refine HC.out.mono ?_
  rintro en w1 ⟨v, st1, rfl, hv, h1, k1, r1⟩
  have s1 := HS.out.call k1 h1
  have hwv : IntKind.u32.wrap (v : Int) = (v : Int) := by rw [IntKind.wrap_u32]; simp at hv; omega
  have e12 : w1.cell? ⟨N, 12, none⟩ = some (.int .u32 (p.sent : Int)) := cell_of_row _ _ 12 _ _ _ s1.n
  have f12 : w1.frozen? ⟨N, 12, none⟩ = false := frozen_of_row _ _ _ _ _ s1.n
  obtain ⟨V, hV⟩ : ∃ V, V = (w1.setCell ⟨N, 12, none⟩ (.int .u32 (v : Int))) := ⟨_, rfl⟩
  have s10 := (s1.set 12 (.int .u32 (v : Int)) { p with sent := v } (by rfl) ⟨s1.o.got, s1.o.ds, s1.o.xs, s1.o.cs⟩)
  rw [← hV] at s10
  have HR := Lib.hid r1
  clear HC h1 k1 s1 r1 HS
  go_upto_region 36 with (fail)
  rw [← hV]
  clear hV e12 f12
  obtain ⟨C, hC⟩ : ∃ C, C = pktA { p with sent := v } := ⟨_, rfl⟩
  have hm : V.heap[N]? = some (.cells C 35 (0, 0)) := by rw [hC]; exact s10.n
  have HC := Lib.hid (And.intro (show C.size = 22 by rw [hC]; rfl) (show C.all (·.oneCell') = true by rw [hC]; exact oneCell_pktA _))
  have hst : (V.setRow (N + 1) C).heap[N + 1]? = some (.cells C 35 (0, 0)) := setRow_heap _ _ _ _ _ _ s10.z
  have HX := Lib.hid (And.intro hm (And.intro s10.z hst))
  have HE := Lib.hid (show TFld T s A w B p 110 st (.returned (.agg C)) (V.setRow (N + 1) C) from s10.fin (by omega) (by
    refine TR.eq (r := fun l => andR (rdN 4 l) fun v l => .ok ({ coreP p with sent := v }, l)) ?_ (fun l => rfl)
    refine TR.bind HR.out ?_
    exact TR.pure _ _) (by show p.xs.length ≤ p.xs.length + 64; omega) hC)
  clear hC hm hst s10
  go_wp2_with (first
    | (refine wpList_load_row rfl 35 (.tmp 5) rfl N rfl 35 C (0, 0) _ HX.out.1 Try.underlying35 rfl (by rw [HC.out.1]; kernel_rfl) ?_)
    | (refine wpList_store_row rfl 35 (.tmp 6) (.tmp 110) rfl (N + 1) C rfl rfl 35 _ HX.out.2.1 (by rw [HC.out.1]; kernel_rfl) (by rw [HC.out.1]; rfl) HC.out.2 ?_))
  refine bodyPost_ret (results_cell_row Try.results26 _ _ (N + 1) 35 C (0, 0) _ rfl HX.out.2.2 Try.underlying35 rfl (by rw [HC.out.1]; kernel_rfl)) rfl ?_
  exact HE.out
set_option maxRecDepth 100000 in
set_option maxHeartbeats 8000000 in
theorem tFld_g {w : World} {T : Nat} {s : ByteArray} {A : Nat} {st : Except Int (List UInt8)} (h : TkS w T s A st) (hA : A ≤ 7000000) (hA0 : 1000000 ≤ A) (p : Pkt) {B : Nat} (hB : T < B ∧ B ≤ w.heap.size) (ho : OwnPk B w p) :
    Calls Try.prog 26 #[.pointer (some ⟨T, 0, none⟩), .int .u8 103, .agg (pktA p)] w fun en w' => TFld T s A w B p 103 st en w' := by
  obtain ⟨N, hN⟩ : ∃ N, N = w.heap.size := ⟨_, rfl⟩
  obtain ⟨W, hW⟩ : ∃ W, W = (w.alloc (.cells (pktA p) 35)).alloc (.cells (pktA zeroP) 35) := ⟨_, rfl⟩
  have hS := FSt.start h p hB ho hN hW
  have HS := Lib.hid hS
  have HA := Lib.hid (And.intro hA hA0)
  have HC := Lib.hid (tVec_any hS.t (by omega))
  have hma : pktA p = #[.int .i64 p.kind, .int .i64 p.frm, .int .i64 p.dst, .int .u64 (p.ce : Int), .int .i64 p.cr, .int .i64 p.m.frm, .int .u32 (p.m.seq : Int), .int .u64 (p.m.stamp : Int), .int .i64 p.m.service, .slice p.m.da p.m.ds.length p.m.dc, .string p.m.pay, .int .u64 (p.stamp : Int), .int .u32 (p.sent : Int), .slice p.ga p.got.length p.gc, .int .u64 (p.hor : Int), .int .i64 p.whom, .int .u32 (p.seq : Int), .int .u64 (p.mem : Int), .int .u64 (p.pe : Int), .int .i64 p.pr, .int .u64 (p.epoch : Int), .slice p.xa p.xs.length p.xc] := rfl
  have hmz : pktA zeroP = #[.int .i64 0, .int .i64 0, .int .i64 0, .int .u64 0, .int .i64 0, .int .i64 0, .int .u32 0, .int .u64 0, .int .i64 0, .slice none 0 0, .string ⟨#[]⟩, .int .u64 0, .int .u32 0, .slice none 0 0, .int .u64 0, .int .i64 0, .int .u32 0, .int .u64 0, .int .u64 0, .int .i64 0, .int .u64 0, .slice none 0 0] := rfl
  rw [hma, hmz] at hW
  rw [hma]
  clear h hS hA hA0 hB ho
  go_enter Try.func26, Try.ntmps26
  go_upto_region 1 with (fail)
  rw [← hW, ← hN]
  clear hma hmz hW hN
  go_wp2_with fail
  refine HC.out.mono ?_
  rintro en w1 ⟨ds, da, dc, st1, rfl, o1, hl1, hd1, h1, k1, r1⟩
  have s1 := HS.out.call k1 h1
  obtain ⟨dn, hdn⟩ : ∃ dn, dn = ds.length := ⟨_, rfl⟩
  rw [← hdn]
  have e13 : w1.cell? ⟨N, 13, none⟩ = some (.slice p.ga p.got.length p.gc) := cell_of_row _ _ 13 _ _ _ s1.n
  have f13 : w1.frozen? ⟨N, 13, none⟩ = false := frozen_of_row _ _ _ _ _ s1.n
  obtain ⟨V, hV⟩ : ∃ V, V = (w1.setCell ⟨N, 13, none⟩ (.slice da dn dc)) := ⟨_, rfl⟩
  have s10 := (s1.set 13 (.slice da dn dc) { p with got := ds, ga := da, gc := dc } (by rw [hdn]; rfl) ⟨ownMore o1 (by have h1 := HS.out.k.size; have h2 := HS.out.hB; omega), s1.o.ds, s1.o.xs, s1.o.cs⟩)
  rw [← hV] at s10
  have HR := Lib.hid r1
  clear HC h1 k1 s1 r1 HS hdn
  go_upto_region 36 with (fail)
  rw [← hV]
  clear hV e13 f13
  obtain ⟨C, hC⟩ : ∃ C, C = pktA { p with got := ds, ga := da, gc := dc } := ⟨_, rfl⟩
  have hm : V.heap[N]? = some (.cells C 35 (0, 0)) := by rw [hC]; exact s10.n
  have HC := Lib.hid (And.intro (show C.size = 22 by rw [hC]; rfl) (show C.all (·.oneCell') = true by rw [hC]; exact oneCell_pktA _))
  have hst : (V.setRow (N + 1) C).heap[N + 1]? = some (.cells C 35 (0, 0)) := setRow_heap _ _ _ _ _ _ s10.z
  have HX := Lib.hid (And.intro hm (And.intro s10.z hst))
  have HE := Lib.hid (show TFld T s A w B p 103 st (.returned (.agg C)) (V.setRow (N + 1) C) from s10.fin (by omega) (by
    refine TR.eq (r := fun l => andR (rdVec l) fun v l => .ok ({ coreP p with got := v }, l)) ?_ (fun l => rfl)
    refine TR.bind HR.out ?_
    exact TR.pure _ _) (by show p.xs.length ≤ p.xs.length + 64; omega) hC)
  clear hC hm hst s10
  go_wp2_with (first
    | (refine wpList_load_row rfl 35 (.tmp 5) rfl N rfl 35 C (0, 0) _ HX.out.1 Try.underlying35 rfl (by rw [HC.out.1]; kernel_rfl) ?_)
    | (refine wpList_store_row rfl 35 (.tmp 6) (.tmp 110) rfl (N + 1) C rfl rfl 35 _ HX.out.2.1 (by rw [HC.out.1]; kernel_rfl) (by rw [HC.out.1]; rfl) HC.out.2 ?_))
  refine bodyPost_ret (results_cell_row Try.results26 _ _ (N + 1) 35 C (0, 0) _ rfl HX.out.2.2 Try.underlying35 rfl (by rw [HC.out.1]; kernel_rfl)) rfl ?_
  exact HE.out
set_option maxRecDepth 100000 in
set_option maxHeartbeats 8000000 in
theorem tFld_h {w : World} {T : Nat} {s : ByteArray} {A : Nat} {st : Except Int (List UInt8)} (h : TkS w T s A st) (hA : A ≤ 7000000) (hA0 : 1000000 ≤ A) (p : Pkt) {B : Nat} (hB : T < B ∧ B ≤ w.heap.size) (ho : OwnPk B w p) :
    Calls Try.prog 26 #[.pointer (some ⟨T, 0, none⟩), .int .u8 104, .agg (pktA p)] w fun en w' => TFld T s A w B p 104 st en w' := by
  obtain ⟨N, hN⟩ : ∃ N, N = w.heap.size := ⟨_, rfl⟩
  obtain ⟨W, hW⟩ : ∃ W, W = (w.alloc (.cells (pktA p) 35)).alloc (.cells (pktA zeroP) 35) := ⟨_, rfl⟩
  have hS := FSt.start h p hB ho hN hW
  have HS := Lib.hid hS
  have HA := Lib.hid (And.intro hA hA0)
  have HC := Lib.hid (tNum_any hS.t 8 (by omega) (by omega) (by omega))
  have hma : pktA p = #[.int .i64 p.kind, .int .i64 p.frm, .int .i64 p.dst, .int .u64 (p.ce : Int), .int .i64 p.cr, .int .i64 p.m.frm, .int .u32 (p.m.seq : Int), .int .u64 (p.m.stamp : Int), .int .i64 p.m.service, .slice p.m.da p.m.ds.length p.m.dc, .string p.m.pay, .int .u64 (p.stamp : Int), .int .u32 (p.sent : Int), .slice p.ga p.got.length p.gc, .int .u64 (p.hor : Int), .int .i64 p.whom, .int .u32 (p.seq : Int), .int .u64 (p.mem : Int), .int .u64 (p.pe : Int), .int .i64 p.pr, .int .u64 (p.epoch : Int), .slice p.xa p.xs.length p.xc] := rfl
  have hmz : pktA zeroP = #[.int .i64 0, .int .i64 0, .int .i64 0, .int .u64 0, .int .i64 0, .int .i64 0, .int .u32 0, .int .u64 0, .int .i64 0, .slice none 0 0, .string ⟨#[]⟩, .int .u64 0, .int .u32 0, .slice none 0 0, .int .u64 0, .int .i64 0, .int .u32 0, .int .u64 0, .int .u64 0, .int .i64 0, .int .u64 0, .slice none 0 0] := rfl
  rw [hma, hmz] at hW
  rw [hma]
  clear h hS hA hA0 hB ho
  go_enter Try.func26, Try.ntmps26
  go_upto_region 1 with (fail)
  rw [← hW, ← hN]
  clear hma hmz hW hN
  go_wp2_with fail
  refine HC.out.mono ?_
  rintro en w1 ⟨v, st1, rfl, hv, h1, k1, r1⟩
  have s1 := HS.out.call k1 h1
  have e14 : w1.cell? ⟨N, 14, none⟩ = some (.int .u64 (p.hor : Int)) := cell_of_row _ _ 14 _ _ _ s1.n
  have f14 : w1.frozen? ⟨N, 14, none⟩ = false := frozen_of_row _ _ _ _ _ s1.n
  obtain ⟨V, hV⟩ : ∃ V, V = (w1.setCell ⟨N, 14, none⟩ (.int .u64 (v : Int))) := ⟨_, rfl⟩
  have s10 := (s1.set 14 (.int .u64 (v : Int)) { p with hor := v } (by rfl) ⟨s1.o.got, s1.o.ds, s1.o.xs, s1.o.cs⟩)
  rw [← hV] at s10
  have HR := Lib.hid r1
  clear HC h1 k1 s1 r1 HS
  go_upto_region 36 with (fail)
  rw [← hV]
  clear hV e14 f14
  obtain ⟨C, hC⟩ : ∃ C, C = pktA { p with hor := v } := ⟨_, rfl⟩
  have hm : V.heap[N]? = some (.cells C 35 (0, 0)) := by rw [hC]; exact s10.n
  have HC := Lib.hid (And.intro (show C.size = 22 by rw [hC]; rfl) (show C.all (·.oneCell') = true by rw [hC]; exact oneCell_pktA _))
  have hst : (V.setRow (N + 1) C).heap[N + 1]? = some (.cells C 35 (0, 0)) := setRow_heap _ _ _ _ _ _ s10.z
  have HX := Lib.hid (And.intro hm (And.intro s10.z hst))
  have HE := Lib.hid (show TFld T s A w B p 104 st (.returned (.agg C)) (V.setRow (N + 1) C) from s10.fin (by omega) (by
    refine TR.eq (r := fun l => andR (rdN 8 l) fun v l => .ok ({ coreP p with hor := v }, l)) ?_ (fun l => rfl)
    refine TR.bind HR.out ?_
    exact TR.pure _ _) (by show p.xs.length ≤ p.xs.length + 64; omega) hC)
  clear hC hm hst s10
  go_wp2_with (first
    | (refine wpList_load_row rfl 35 (.tmp 5) rfl N rfl 35 C (0, 0) _ HX.out.1 Try.underlying35 rfl (by rw [HC.out.1]; kernel_rfl) ?_)
    | (refine wpList_store_row rfl 35 (.tmp 6) (.tmp 110) rfl (N + 1) C rfl rfl 35 _ HX.out.2.1 (by rw [HC.out.1]; kernel_rfl) (by rw [HC.out.1]; rfl) HC.out.2 ?_))
  refine bodyPost_ret (results_cell_row Try.results26 _ _ (N + 1) 35 C (0, 0) _ rfl HX.out.2.2 Try.underlying35 rfl (by rw [HC.out.1]; kernel_rfl)) rfl ?_
  exact HE.out
set_option maxRecDepth 100000 in
set_option maxHeartbeats 8000000 in
theorem tFld_w {w : World} {T : Nat} {s : ByteArray} {A : Nat} {st : Except Int (List UInt8)} (h : TkS w T s A st) (hA : A ≤ 7000000) (hA0 : 1000000 ≤ A) (p : Pkt) {B : Nat} (hB : T < B ∧ B ≤ w.heap.size) (ho : OwnPk B w p) :
    Calls Try.prog 26 #[.pointer (some ⟨T, 0, none⟩), .int .u8 119, .agg (pktA p)] w fun en w' => TFld T s A w B p 119 st en w' := by
  obtain ⟨N, hN⟩ : ∃ N, N = w.heap.size := ⟨_, rfl⟩
  obtain ⟨W, hW⟩ : ∃ W, W = (w.alloc (.cells (pktA p) 35)).alloc (.cells (pktA zeroP) 35) := ⟨_, rfl⟩
  have hS := FSt.start h p hB ho hN hW
  have HS := Lib.hid hS
  have HA := Lib.hid (And.intro hA hA0)
  have HC := Lib.hid (tProc_any hS.t (by omega))
  have hma : pktA p = #[.int .i64 p.kind, .int .i64 p.frm, .int .i64 p.dst, .int .u64 (p.ce : Int), .int .i64 p.cr, .int .i64 p.m.frm, .int .u32 (p.m.seq : Int), .int .u64 (p.m.stamp : Int), .int .i64 p.m.service, .slice p.m.da p.m.ds.length p.m.dc, .string p.m.pay, .int .u64 (p.stamp : Int), .int .u32 (p.sent : Int), .slice p.ga p.got.length p.gc, .int .u64 (p.hor : Int), .int .i64 p.whom, .int .u32 (p.seq : Int), .int .u64 (p.mem : Int), .int .u64 (p.pe : Int), .int .i64 p.pr, .int .u64 (p.epoch : Int), .slice p.xa p.xs.length p.xc] := rfl
  have hmz : pktA zeroP = #[.int .i64 0, .int .i64 0, .int .i64 0, .int .u64 0, .int .i64 0, .int .i64 0, .int .u32 0, .int .u64 0, .int .i64 0, .slice none 0 0, .string ⟨#[]⟩, .int .u64 0, .int .u32 0, .slice none 0 0, .int .u64 0, .int .i64 0, .int .u32 0, .int .u64 0, .int .u64 0, .int .i64 0, .int .u64 0, .slice none 0 0] := rfl
  rw [hma, hmz] at hW
  rw [hma]
  clear h hS hA hA0 hB ho
  go_enter Try.func26, Try.ntmps26
  go_upto_region 1 with (fail)
  rw [← hW, ← hN]
  clear hma hmz hW hN
  go_wp2_with fail
  refine HC.out.mono ?_
  rintro en w1 ⟨v, st1, rfl, hv, h1, k1, r1⟩
  have s1 := HS.out.call k1 h1
  have e15 : w1.cell? ⟨N, 15, none⟩ = some (.int .i64 p.whom) := cell_of_row _ _ 15 _ _ _ s1.n
  have f15 : w1.frozen? ⟨N, 15, none⟩ = false := frozen_of_row _ _ _ _ _ s1.n
  obtain ⟨V, hV⟩ : ∃ V, V = (w1.setCell ⟨N, 15, none⟩ (.int .i64 (v : Int))) := ⟨_, rfl⟩
  have s10 := (s1.set 15 (.int .i64 (v : Int)) { p with whom := (v : Int) } (by rfl) ⟨s1.o.got, s1.o.ds, s1.o.xs, s1.o.cs⟩)
  rw [← hV] at s10
  have HR := Lib.hid r1
  clear HC h1 k1 s1 r1 HS
  go_upto_region 36 with (fail)
  rw [← hV]
  clear hV e15 f15
  obtain ⟨C, hC⟩ : ∃ C, C = pktA { p with whom := (v : Int) } := ⟨_, rfl⟩
  have hm : V.heap[N]? = some (.cells C 35 (0, 0)) := by rw [hC]; exact s10.n
  have HC := Lib.hid (And.intro (show C.size = 22 by rw [hC]; rfl) (show C.all (·.oneCell') = true by rw [hC]; exact oneCell_pktA _))
  have hst : (V.setRow (N + 1) C).heap[N + 1]? = some (.cells C 35 (0, 0)) := setRow_heap _ _ _ _ _ _ s10.z
  have HX := Lib.hid (And.intro hm (And.intro s10.z hst))
  have HE := Lib.hid (show TFld T s A w B p 119 st (.returned (.agg C)) (V.setRow (N + 1) C) from s10.fin (by omega) (by
    refine TR.eq (r := fun l => andR (rdProc l) fun v l => .ok ({ coreP p with whom := (v : Int) }, l)) ?_ (fun l => rfl)
    refine TR.bind HR.out ?_
    exact TR.pure _ _) (by show p.xs.length ≤ p.xs.length + 64; omega) hC)
  clear hC hm hst s10
  go_wp2_with (first
    | (refine wpList_load_row rfl 35 (.tmp 5) rfl N rfl 35 C (0, 0) _ HX.out.1 Try.underlying35 rfl (by rw [HC.out.1]; kernel_rfl) ?_)
    | (refine wpList_store_row rfl 35 (.tmp 6) (.tmp 110) rfl (N + 1) C rfl rfl 35 _ HX.out.2.1 (by rw [HC.out.1]; kernel_rfl) (by rw [HC.out.1]; rfl) HC.out.2 ?_))
  refine bodyPost_ret (results_cell_row Try.results26 _ _ (N + 1) 35 C (0, 0) _ rfl HX.out.2.2 Try.underlying35 rfl (by rw [HC.out.1]; kernel_rfl)) rfl ?_
  exact HE.out
set_option maxRecDepth 100000 in
set_option maxHeartbeats 8000000 in
theorem tFld_q {w : World} {T : Nat} {s : ByteArray} {A : Nat} {st : Except Int (List UInt8)} (h : TkS w T s A st) (hA : A ≤ 7000000) (hA0 : 1000000 ≤ A) (p : Pkt) {B : Nat} (hB : T < B ∧ B ≤ w.heap.size) (ho : OwnPk B w p) :
    Calls Try.prog 26 #[.pointer (some ⟨T, 0, none⟩), .int .u8 113, .agg (pktA p)] w fun en w' => TFld T s A w B p 113 st en w' := by
  obtain ⟨N, hN⟩ : ∃ N, N = w.heap.size := ⟨_, rfl⟩
  obtain ⟨W, hW⟩ : ∃ W, W = (w.alloc (.cells (pktA p) 35)).alloc (.cells (pktA zeroP) 35) := ⟨_, rfl⟩
  have hS := FSt.start h p hB ho hN hW
  have HS := Lib.hid hS
  have HA := Lib.hid (And.intro hA hA0)
  have HC := Lib.hid (tNum_any hS.t 4 (by omega) (by omega) (by omega))
  have hma : pktA p = #[.int .i64 p.kind, .int .i64 p.frm, .int .i64 p.dst, .int .u64 (p.ce : Int), .int .i64 p.cr, .int .i64 p.m.frm, .int .u32 (p.m.seq : Int), .int .u64 (p.m.stamp : Int), .int .i64 p.m.service, .slice p.m.da p.m.ds.length p.m.dc, .string p.m.pay, .int .u64 (p.stamp : Int), .int .u32 (p.sent : Int), .slice p.ga p.got.length p.gc, .int .u64 (p.hor : Int), .int .i64 p.whom, .int .u32 (p.seq : Int), .int .u64 (p.mem : Int), .int .u64 (p.pe : Int), .int .i64 p.pr, .int .u64 (p.epoch : Int), .slice p.xa p.xs.length p.xc] := rfl
  have hmz : pktA zeroP = #[.int .i64 0, .int .i64 0, .int .i64 0, .int .u64 0, .int .i64 0, .int .i64 0, .int .u32 0, .int .u64 0, .int .i64 0, .slice none 0 0, .string ⟨#[]⟩, .int .u64 0, .int .u32 0, .slice none 0 0, .int .u64 0, .int .i64 0, .int .u32 0, .int .u64 0, .int .u64 0, .int .i64 0, .int .u64 0, .slice none 0 0] := rfl
  rw [hma, hmz] at hW
  rw [hma]
  clear h hS hA hA0 hB ho
  go_enter Try.func26, Try.ntmps26
  go_upto_region 1 with (fail)
  rw [← hW, ← hN]
  clear hma hmz hW hN
  go_wp2_with fail
  refine HC.out.mono ?_
  rintro en w1 ⟨v, st1, rfl, hv, h1, k1, r1⟩
  have s1 := HS.out.call k1 h1
  have hwv : IntKind.u32.wrap (v : Int) = (v : Int) := by rw [IntKind.wrap_u32]; simp at hv; omega
  have e16 : w1.cell? ⟨N, 16, none⟩ = some (.int .u32 (p.seq : Int)) := cell_of_row _ _ 16 _ _ _ s1.n
  have f16 : w1.frozen? ⟨N, 16, none⟩ = false := frozen_of_row _ _ _ _ _ s1.n
  obtain ⟨V, hV⟩ : ∃ V, V = (w1.setCell ⟨N, 16, none⟩ (.int .u32 (v : Int))) := ⟨_, rfl⟩
  have s10 := (s1.set 16 (.int .u32 (v : Int)) { p with seq := v } (by rfl) ⟨s1.o.got, s1.o.ds, s1.o.xs, s1.o.cs⟩)
  rw [← hV] at s10
  have HR := Lib.hid r1
  clear HC h1 k1 s1 r1 HS
  go_upto_region 36 with (fail)
  rw [← hV]
  clear hV e16 f16
  obtain ⟨C, hC⟩ : ∃ C, C = pktA { p with seq := v } := ⟨_, rfl⟩
  have hm : V.heap[N]? = some (.cells C 35 (0, 0)) := by rw [hC]; exact s10.n
  have HC := Lib.hid (And.intro (show C.size = 22 by rw [hC]; rfl) (show C.all (·.oneCell') = true by rw [hC]; exact oneCell_pktA _))
  have hst : (V.setRow (N + 1) C).heap[N + 1]? = some (.cells C 35 (0, 0)) := setRow_heap _ _ _ _ _ _ s10.z
  have HX := Lib.hid (And.intro hm (And.intro s10.z hst))
  have HE := Lib.hid (show TFld T s A w B p 113 st (.returned (.agg C)) (V.setRow (N + 1) C) from s10.fin (by omega) (by
    refine TR.eq (r := fun l => andR (rdN 4 l) fun v l => .ok ({ coreP p with seq := v }, l)) ?_ (fun l => rfl)
    refine TR.bind HR.out ?_
    exact TR.pure _ _) (by show p.xs.length ≤ p.xs.length + 64; omega) hC)
  clear hC hm hst s10
  go_wp2_with (first
    | (refine wpList_load_row rfl 35 (.tmp 5) rfl N rfl 35 C (0, 0) _ HX.out.1 Try.underlying35 rfl (by rw [HC.out.1]; kernel_rfl) ?_)
    | (refine wpList_store_row rfl 35 (.tmp 6) (.tmp 110) rfl (N + 1) C rfl rfl 35 _ HX.out.2.1 (by rw [HC.out.1]; kernel_rfl) (by rw [HC.out.1]; rfl) HC.out.2 ?_))
  refine bodyPost_ret (results_cell_row Try.results26 _ _ (N + 1) 35 C (0, 0) _ rfl HX.out.2.2 Try.underlying35 rfl (by rw [HC.out.1]; kernel_rfl)) rfl ?_
  exact HE.out
set_option maxRecDepth 100000 in
set_option maxHeartbeats 8000000 in
theorem tFld_p {w : World} {T : Nat} {s : ByteArray} {A : Nat} {st : Except Int (List UInt8)} (h : TkS w T s A st) (hA : A ≤ 7000000) (hA0 : 1000000 ≤ A) (p : Pkt) {B : Nat} (hB : T < B ∧ B ≤ w.heap.size) (ho : OwnPk B w p) :
    Calls Try.prog 26 #[.pointer (some ⟨T, 0, none⟩), .int .u8 112, .agg (pktA p)] w fun en w' => TFld T s A w B p 112 st en w' := by
  obtain ⟨N, hN⟩ : ∃ N, N = w.heap.size := ⟨_, rfl⟩
  obtain ⟨W, hW⟩ : ∃ W, W = (w.alloc (.cells (pktA p) 35)).alloc (.cells (pktA zeroP) 35) := ⟨_, rfl⟩
  have hS := FSt.start h p hB ho hN hW
  have HS := Lib.hid hS
  have HA := Lib.hid (And.intro hA hA0)
  have HC := Lib.hid (tConf_any hS.t (by omega))
  have hma : pktA p = #[.int .i64 p.kind, .int .i64 p.frm, .int .i64 p.dst, .int .u64 (p.ce : Int), .int .i64 p.cr, .int .i64 p.m.frm, .int .u32 (p.m.seq : Int), .int .u64 (p.m.stamp : Int), .int .i64 p.m.service, .slice p.m.da p.m.ds.length p.m.dc, .string p.m.pay, .int .u64 (p.stamp : Int), .int .u32 (p.sent : Int), .slice p.ga p.got.length p.gc, .int .u64 (p.hor : Int), .int .i64 p.whom, .int .u32 (p.seq : Int), .int .u64 (p.mem : Int), .int .u64 (p.pe : Int), .int .i64 p.pr, .int .u64 (p.epoch : Int), .slice p.xa p.xs.length p.xc] := rfl
  have hmz : pktA zeroP = #[.int .i64 0, .int .i64 0, .int .i64 0, .int .u64 0, .int .i64 0, .int .i64 0, .int .u32 0, .int .u64 0, .int .i64 0, .slice none 0 0, .string ⟨#[]⟩, .int .u64 0, .int .u32 0, .slice none 0 0, .int .u64 0, .int .i64 0, .int .u32 0, .int .u64 0, .int .u64 0, .int .i64 0, .int .u64 0, .slice none 0 0] := rfl
  rw [hma, hmz] at hW
  rw [hma]
  clear h hS hA hA0 hB ho
  go_enter Try.func26, Try.ntmps26
  go_upto_region 1 with (fail)
  rw [← hW, ← hN]
  clear hma hmz hW hN
  go_wp2_with fail
  refine HC.out.mono ?_
  rintro en w1 ⟨c, r, st1, rfl, hc, h1, k1, r1⟩
  have s1 := HS.out.call k1 h1
  have e18 : w1.cell? ⟨N, 18, none⟩ = some (.int .u64 (p.pe : Int)) := cell_of_row _ _ 18 _ _ _ s1.n
  have f18 : w1.frozen? ⟨N, 18, none⟩ = false := frozen_of_row _ _ _ _ _ s1.n
  have e19 : w1.cell? ⟨N, 19, none⟩ = some (.int .i64 p.pr) := cell_of_row _ _ 19 _ _ _ s1.n
  have f19 : w1.frozen? ⟨N, 19, none⟩ = false := frozen_of_row _ _ _ _ _ s1.n
  obtain ⟨V, hV⟩ : ∃ V, V = ((w1.setCell ⟨N, 18, none⟩ (.int .u64 (c : Int))).setCell ⟨N, 19, none⟩ (.int .i64 (r : Int))) := ⟨_, rfl⟩
  have s2 := s1.set 18 (.int .u64 (c : Int)) { p with pe := c } (by rfl) ⟨s1.o.got, s1.o.ds, s1.o.xs, s1.o.cs⟩
  have s10 := s2.set 19 (.int .i64 (r : Int)) { p with pe := c, pr := (r : Int) } (by rfl) ⟨s2.o.got, s2.o.ds, s2.o.xs, s2.o.cs⟩
  rw [← hV] at s10
  have HR := Lib.hid r1
  clear HC h1 k1 s1 r1 HS s2
  go_upto_region 36 with (fail)
  rw [← hV]
  clear hV e18 f18 e19 f19
  obtain ⟨C, hC⟩ : ∃ C, C = pktA { p with pe := c, pr := (r : Int) } := ⟨_, rfl⟩
  have hm : V.heap[N]? = some (.cells C 35 (0, 0)) := by rw [hC]; exact s10.n
  have HC := Lib.hid (And.intro (show C.size = 22 by rw [hC]; rfl) (show C.all (·.oneCell') = true by rw [hC]; exact oneCell_pktA _))
  have hst : (V.setRow (N + 1) C).heap[N + 1]? = some (.cells C 35 (0, 0)) := setRow_heap _ _ _ _ _ _ s10.z
  have HX := Lib.hid (And.intro hm (And.intro s10.z hst))
  have HE := Lib.hid (show TFld T s A w B p 112 st (.returned (.agg C)) (V.setRow (N + 1) C) from s10.fin (by omega) (by
    refine TR.eq (r := fun l => andR (rdConf l) fun c l => .ok ({ coreP p with pe := c.1, pr := (c.2 : Int) }, l)) ?_ (fun l => rfl)
    refine TR.bind HR.out ?_
    exact TR.pure _ _) (by show p.xs.length ≤ p.xs.length + 64; omega) hC)
  clear hC hm hst s10
  go_wp2_with (first
    | (refine wpList_load_row rfl 35 (.tmp 5) rfl N rfl 35 C (0, 0) _ HX.out.1 Try.underlying35 rfl (by rw [HC.out.1]; kernel_rfl) ?_)
    | (refine wpList_store_row rfl 35 (.tmp 6) (.tmp 110) rfl (N + 1) C rfl rfl 35 _ HX.out.2.1 (by rw [HC.out.1]; kernel_rfl) (by rw [HC.out.1]; rfl) HC.out.2 ?_))
  refine bodyPost_ret (results_cell_row Try.results26 _ _ (N + 1) 35 C (0, 0) _ rfl HX.out.2.2 Try.underlying35 rfl (by rw [HC.out.1]; kernel_rfl)) rfl ?_
  exact HE.out
set_option maxRecDepth 100000 in
set_option maxHeartbeats 8000000 in
theorem tFld_e {w : World} {T : Nat} {s : ByteArray} {A : Nat} {st : Except Int (List UInt8)} (h : TkS w T s A st) (hA : A ≤ 7000000) (hA0 : 1000000 ≤ A) (p : Pkt) {B : Nat} (hB : T < B ∧ B ≤ w.heap.size) (ho : OwnPk B w p) :
    Calls Try.prog 26 #[.pointer (some ⟨T, 0, none⟩), .int .u8 101, .agg (pktA p)] w fun en w' => TFld T s A w B p 101 st en w' := by
  obtain ⟨N, hN⟩ : ∃ N, N = w.heap.size := ⟨_, rfl⟩
  obtain ⟨W, hW⟩ : ∃ W, W = (w.alloc (.cells (pktA p) 35)).alloc (.cells (pktA zeroP) 35) := ⟨_, rfl⟩
  have hS := FSt.start h p hB ho hN hW
  have HS := Lib.hid hS
  have HA := Lib.hid (And.intro hA hA0)
  have HC := Lib.hid (tNum_any hS.t 8 (by omega) (by omega) (by omega))
  have hma : pktA p = #[.int .i64 p.kind, .int .i64 p.frm, .int .i64 p.dst, .int .u64 (p.ce : Int), .int .i64 p.cr, .int .i64 p.m.frm, .int .u32 (p.m.seq : Int), .int .u64 (p.m.stamp : Int), .int .i64 p.m.service, .slice p.m.da p.m.ds.length p.m.dc, .string p.m.pay, .int .u64 (p.stamp : Int), .int .u32 (p.sent : Int), .slice p.ga p.got.length p.gc, .int .u64 (p.hor : Int), .int .i64 p.whom, .int .u32 (p.seq : Int), .int .u64 (p.mem : Int), .int .u64 (p.pe : Int), .int .i64 p.pr, .int .u64 (p.epoch : Int), .slice p.xa p.xs.length p.xc] := rfl
  have hmz : pktA zeroP = #[.int .i64 0, .int .i64 0, .int .i64 0, .int .u64 0, .int .i64 0, .int .i64 0, .int .u32 0, .int .u64 0, .int .i64 0, .slice none 0 0, .string ⟨#[]⟩, .int .u64 0, .int .u32 0, .slice none 0 0, .int .u64 0, .int .i64 0, .int .u32 0, .int .u64 0, .int .u64 0, .int .i64 0, .int .u64 0, .slice none 0 0] := rfl
  rw [hma, hmz] at hW
  rw [hma]
  clear h hS hA hA0 hB ho
  go_enter Try.func26, Try.ntmps26
  go_upto_region 1 with (fail)
  rw [← hW, ← hN]
  clear hma hmz hW hN
  go_wp2_with fail
  refine HC.out.mono ?_
  rintro en w1 ⟨v, st1, rfl, hv, h1, k1, r1⟩
  have s1 := HS.out.call k1 h1
  have e20 : w1.cell? ⟨N, 20, none⟩ = some (.int .u64 (p.epoch : Int)) := cell_of_row _ _ 20 _ _ _ s1.n
  have f20 : w1.frozen? ⟨N, 20, none⟩ = false := frozen_of_row _ _ _ _ _ s1.n
  obtain ⟨V, hV⟩ : ∃ V, V = (w1.setCell ⟨N, 20, none⟩ (.int .u64 (v : Int))) := ⟨_, rfl⟩
  have s10 := (s1.set 20 (.int .u64 (v : Int)) { p with epoch := v } (by rfl) ⟨s1.o.got, s1.o.ds, s1.o.xs, s1.o.cs⟩)
  rw [← hV] at s10
  have HR := Lib.hid r1
  clear HC h1 k1 s1 r1 HS
  go_upto_region 36 with (fail)
  rw [← hV]
  clear hV e20 f20
  obtain ⟨C, hC⟩ : ∃ C, C = pktA { p with epoch := v } := ⟨_, rfl⟩
  have hm : V.heap[N]? = some (.cells C 35 (0, 0)) := by rw [hC]; exact s10.n
  have HC := Lib.hid (And.intro (show C.size = 22 by rw [hC]; rfl) (show C.all (·.oneCell') = true by rw [hC]; exact oneCell_pktA _))
  have hst : (V.setRow (N + 1) C).heap[N + 1]? = some (.cells C 35 (0, 0)) := setRow_heap _ _ _ _ _ _ s10.z
  have HX := Lib.hid (And.intro hm (And.intro s10.z hst))
  have HE := Lib.hid (show TFld T s A w B p 101 st (.returned (.agg C)) (V.setRow (N + 1) C) from s10.fin (by omega) (by
    refine TR.eq (r := fun l => andR (rdN 8 l) fun v l => .ok ({ coreP p with epoch := v }, l)) ?_ (fun l => rfl)
    refine TR.bind HR.out ?_
    exact TR.pure _ _) (by show p.xs.length ≤ p.xs.length + 64; omega) hC)
  clear hC hm hst s10
  go_wp2_with (first
    | (refine wpList_load_row rfl 35 (.tmp 5) rfl N rfl 35 C (0, 0) _ HX.out.1 Try.underlying35 rfl (by rw [HC.out.1]; kernel_rfl) ?_)
    | (refine wpList_store_row rfl 35 (.tmp 6) (.tmp 110) rfl (N + 1) C rfl rfl 35 _ HX.out.2.1 (by rw [HC.out.1]; kernel_rfl) (by rw [HC.out.1]; rfl) HC.out.2 ?_))
  refine bodyPost_ret (results_cell_row Try.results26 _ _ (N + 1) 35 C (0, 0) _ rfl HX.out.2.2 Try.underlying35 rfl (by rw [HC.out.1]; kernel_rfl)) rfl ?_
  exact HE.out
set_option maxRecDepth 100000 in
set_option maxHeartbeats 8000000 in
theorem tFld_b {w : World} {T : Nat} {s : ByteArray} {A : Nat} {st : Except Int (List UInt8)} (h : TkS w T s A st) (hA : A ≤ 7000000) (hA0 : 1000000 ≤ A) (p : Pkt) {B : Nat} (hB : T < B ∧ B ≤ w.heap.size) (ho : OwnPk B w p) :
    Calls Try.prog 26 #[.pointer (some ⟨T, 0, none⟩), .int .u8 98, .agg (pktA p)] w fun en w' => TFld T s A w B p 98 st en w' := by
  obtain ⟨N, hN⟩ : ∃ N, N = w.heap.size := ⟨_, rfl⟩
  obtain ⟨W, hW⟩ : ∃ W, W = (w.alloc (.cells (pktA p) 35)).alloc (.cells (pktA zeroP) 35) := ⟨_, rfl⟩
  have hS := FSt.start h p hB ho hN hW
  have HS := Lib.hid hS
  have HA := Lib.hid (And.intro hA hA0)
  have HC := Lib.hid (tNum_any hS.t 8 (by omega) (by omega) (by omega))
  have hma : pktA p = #[.int .i64 p.kind, .int .i64 p.frm, .int .i64 p.dst, .int .u64 (p.ce : Int), .int .i64 p.cr, .int .i64 p.m.frm, .int .u32 (p.m.seq : Int), .int .u64 (p.m.stamp : Int), .int .i64 p.m.service, .slice p.m.da p.m.ds.length p.m.dc, .string p.m.pay, .int .u64 (p.stamp : Int), .int .u32 (p.sent : Int), .slice p.ga p.got.length p.gc, .int .u64 (p.hor : Int), .int .i64 p.whom, .int .u32 (p.seq : Int), .int .u64 (p.mem : Int), .int .u64 (p.pe : Int), .int .i64 p.pr, .int .u64 (p.epoch : Int), .slice p.xa p.xs.length p.xc] := rfl
  have hmz : pktA zeroP = #[.int .i64 0, .int .i64 0, .int .i64 0, .int .u64 0, .int .i64 0, .int .i64 0, .int .u32 0, .int .u64 0, .int .i64 0, .slice none 0 0, .string ⟨#[]⟩, .int .u64 0, .int .u32 0, .slice none 0 0, .int .u64 0, .int .i64 0, .int .u32 0, .int .u64 0, .int .u64 0, .int .i64 0, .int .u64 0, .slice none 0 0] := rfl
  rw [hma, hmz] at hW
  rw [hma]
  clear h hS hA hA0 hB ho
  go_enter Try.func26, Try.ntmps26
  go_upto_region 1 with (fail)
  rw [← hW, ← hN]
  clear hma hmz hW hN
  go_wp2_with fail
  refine HC.out.mono ?_
  rintro en w1 ⟨v, st1, rfl, hv, h1, k1, r1⟩
  have s1 := HS.out.call k1 h1
  have e17 : w1.cell? ⟨N, 17, none⟩ = some (.int .u64 (p.mem : Int)) := cell_of_row _ _ 17 _ _ _ s1.n
  have f17 : w1.frozen? ⟨N, 17, none⟩ = false := frozen_of_row _ _ _ _ _ s1.n
  obtain ⟨V, hV⟩ : ∃ V, V = (w1.setCell ⟨N, 17, none⟩ (.int .u64 (v : Int))) := ⟨_, rfl⟩
  have s10 := (s1.set 17 (.int .u64 (v : Int)) { p with mem := v } (by rfl) ⟨s1.o.got, s1.o.ds, s1.o.xs, s1.o.cs⟩)
  rw [← hV] at s10
  have HR := Lib.hid r1
  clear HC h1 k1 s1 r1 HS
  go_upto_region 36 with (fail)
  rw [← hV]
  clear hV e17 f17
  obtain ⟨C, hC⟩ : ∃ C, C = pktA { p with mem := v } := ⟨_, rfl⟩
  have hm : V.heap[N]? = some (.cells C 35 (0, 0)) := by rw [hC]; exact s10.n
  have HC := Lib.hid (And.intro (show C.size = 22 by rw [hC]; rfl) (show C.all (·.oneCell') = true by rw [hC]; exact oneCell_pktA _))
  have hst : (V.setRow (N + 1) C).heap[N + 1]? = some (.cells C 35 (0, 0)) := setRow_heap _ _ _ _ _ _ s10.z
  have HX := Lib.hid (And.intro hm (And.intro s10.z hst))
  have HE := Lib.hid (show TFld T s A w B p 98 st (.returned (.agg C)) (V.setRow (N + 1) C) from s10.fin (by omega) (by
    refine TR.eq (r := fun l => andR (rdN 8 l) fun v l => .ok ({ coreP p with mem := v }, l)) ?_ (fun l => rfl)
    refine TR.bind HR.out ?_
    exact TR.pure _ _) (by show p.xs.length ≤ p.xs.length + 64; omega) hC)
  clear hC hm hst s10
  go_wp2_with (first
    | (refine wpList_load_row rfl 35 (.tmp 5) rfl N rfl 35 C (0, 0) _ HX.out.1 Try.underlying35 rfl (by rw [HC.out.1]; kernel_rfl) ?_)
    | (refine wpList_store_row rfl 35 (.tmp 6) (.tmp 110) rfl (N + 1) C rfl rfl 35 _ HX.out.2.1 (by rw [HC.out.1]; kernel_rfl) (by rw [HC.out.1]; rfl) HC.out.2 ?_))
  refine bodyPost_ret (results_cell_row Try.results26 _ _ (N + 1) 35 C (0, 0) _ rfl HX.out.2.2 Try.underlying35 rfl (by rw [HC.out.1]; kernel_rfl)) rfl ?_
  exact HE.out
end Go.Proofs.Ytgpojbmloielmaa
namespace Go.Proofs.Ytgpojbmloielmaa
set_option linter.unusedVariables false
set_option linter.unusedSimpArgs false
open Go.RowKit
theorem OwnN.sets {B : Nat} {w : World} {da : Option Addr} {ds : List Nat} {dc : Nat} (h : OwnN B w da ds dc) {N : Nat} {cs : Array Value} {fr : Nat × Nat} (hN : w.heap[N]? = some (.cells cs 35 fr)) (j : Nat) (v : Value) : OwnN B (w.setCell ⟨N, j, none⟩ v) da ds dc :=
  own_keptS h (keptS w ⟨N, j, none⟩ v) (fun b hb hsb => by
    obtain ⟨c, fz, hc⟩ := Lib.ownsRow_kind h b hb
    simp at hsb
    subst hsb
    rw [hN] at hc
    injection hc with hc
    injection hc with _ hc
    exact absurd hc (by decide))
set_option maxRecDepth 100000 in
set_option maxHeartbeats 8000000 in
theorem tFld_m {w : World} {T : Nat} {s : ByteArray} {A : Nat} {st : Except Int (List UInt8)} (h : TkS w T s A st) (hA : A ≤ 7000000) (hA0 : 1000000 ≤ A) (p : Pkt) {B : Nat} (hB : T < B ∧ B ≤ w.heap.size) (ho : OwnPk B w p) :
    Calls Try.prog 26 #[.pointer (some ⟨T, 0, none⟩), .int .u8 109, .agg (pktA p)] w fun en w' => TFld T s A w B p 109 st en w' := by
  obtain ⟨N, hN⟩ : ∃ N, N = w.heap.size := ⟨_, rfl⟩
  obtain ⟨W, hW⟩ : ∃ W, W = (w.alloc (.cells (pktA p) 35)).alloc (.cells (pktA zeroP) 35) := ⟨_, rfl⟩
  have hS := FSt.start h p hB ho hN hW
  have HS := Lib.hid hS
  have HA := Lib.hid (And.intro hA hA0)
  have HC := Lib.hid (tMsg_any hS.t (by omega) (by omega) (if p.kind = 9 then p.whom else p.frm))
  have c0 : W.cell? ⟨N, 0, none⟩ = some (.int .i64 p.kind) := cell_of_row _ _ 0 _ _ _ hS.n
  have c1 : W.cell? ⟨N, 1, none⟩ = some (.int .i64 p.frm) := cell_of_row _ _ 1 _ _ _ hS.n
  have c15 : W.cell? ⟨N, 15, none⟩ = some (.int .i64 p.whom) := cell_of_row _ _ 15 _ _ _ hS.n
  have hma : pktA p = #[.int .i64 p.kind, .int .i64 p.frm, .int .i64 p.dst, .int .u64 (p.ce : Int), .int .i64 p.cr, .int .i64 p.m.frm, .int .u32 (p.m.seq : Int), .int .u64 (p.m.stamp : Int), .int .i64 p.m.service, .slice p.m.da p.m.ds.length p.m.dc, .string p.m.pay, .int .u64 (p.stamp : Int), .int .u32 (p.sent : Int), .slice p.ga p.got.length p.gc, .int .u64 (p.hor : Int), .int .i64 p.whom, .int .u32 (p.seq : Int), .int .u64 (p.mem : Int), .int .u64 (p.pe : Int), .int .i64 p.pr, .int .u64 (p.epoch : Int), .slice p.xa p.xs.length p.xc] := rfl
  have hmz : pktA zeroP = #[.int .i64 0, .int .i64 0, .int .i64 0, .int .u64 0, .int .i64 0, .int .i64 0, .int .u32 0, .int .u64 0, .int .i64 0, .slice none 0 0, .string ⟨#[]⟩, .int .u64 0, .int .u32 0, .slice none 0 0, .int .u64 0, .int .i64 0, .int .u32 0, .int .u64 0, .int .u64 0, .int .i64 0, .int .u64 0, .slice none 0 0] := rfl
  rw [hma, hmz] at hW
  rw [hma]
  clear h hS hA hA0 hB ho
  go_enter Try.func26, Try.ntmps26
  go_upto_region 1 with (fail)
  rw [← hW, ← hN]
  clear hma hmz hW hN
  obtain ⟨fr, hfr⟩ : ∃ fr, fr = if p.kind = 9 then p.whom else p.frm := ⟨_, rfl⟩
  rw [← hfr] at HC
  have HF := Lib.hid hfr
  by_cases hk : p.kind = 9
  · have hfr2 : fr = p.whom := by rw [hfr, if_pos hk]
    rw [hk] at c0
    subst hfr2
    clear hfr
    go_upto_region 8 with (fail)
    clear c0 c1 c15 hk
    go_wp2_with fail
    refine HC.out.mono ?_
    rintro en w1 ⟨m, st1, rfl, o1, h1, k1, r1⟩
    have s1 := HS.out.call k1 h1
    rw [show msgA m = #[.int .i64 m.frm, .int .u32 (m.seq : Int), .int .u64 (m.stamp : Int), .int .i64 m.service, .slice m.da m.ds.length m.dc, .string m.pay] from rfl]
    have e5 : w1.cell? ⟨N, 5, none⟩ = some (.int .i64 p.m.frm) := cell_of_row _ _ 5 _ _ _ s1.n
    have f5 : w1.frozen? ⟨N, 5, none⟩ = false := frozen_of_row _ _ _ _ _ s1.n
    have e6 : w1.cell? ⟨N, 6, none⟩ = some (.int .u32 (p.m.seq : Int)) := cell_of_row _ _ 6 _ _ _ s1.n
    have f6 : w1.frozen? ⟨N, 6, none⟩ = false := frozen_of_row _ _ _ _ _ s1.n
    have e7 : w1.cell? ⟨N, 7, none⟩ = some (.int .u64 (p.m.stamp : Int)) := cell_of_row _ _ 7 _ _ _ s1.n
    have f7 : w1.frozen? ⟨N, 7, none⟩ = false := frozen_of_row _ _ _ _ _ s1.n
    have e8 : w1.cell? ⟨N, 8, none⟩ = some (.int .i64 p.m.service) := cell_of_row _ _ 8 _ _ _ s1.n
    have f8 : w1.frozen? ⟨N, 8, none⟩ = false := frozen_of_row _ _ _ _ _ s1.n
    have e9 : w1.cell? ⟨N, 9, none⟩ = some (.slice p.m.da p.m.ds.length p.m.dc) := cell_of_row _ _ 9 _ _ _ s1.n
    have f9 : w1.frozen? ⟨N, 9, none⟩ = false := frozen_of_row _ _ _ _ _ s1.n
    have e10 : w1.cell? ⟨N, 10, none⟩ = some (.string p.m.pay) := cell_of_row _ _ 10 _ _ _ s1.n
    have f10 : w1.frozen? ⟨N, 10, none⟩ = false := frozen_of_row _ _ _ _ _ s1.n
    obtain ⟨V, hV⟩ : ∃ V, V = ((((((w1.setCell ⟨N, 5, none⟩ (.int .i64 m.frm)).setCell ⟨N, 6, none⟩ (.int .u32 (m.seq : Int))).setCell ⟨N, 7, none⟩ (.int .u64 (m.stamp : Int))).setCell ⟨N, 8, none⟩ (.int .i64 m.service)).setCell ⟨N, 9, none⟩ (.slice m.da m.ds.length m.dc)).setCell ⟨N, 10, none⟩ (.string m.pay)) := ⟨_, rfl⟩
    have s2 := s1.set 5 (.int .i64 m.frm) { p with m := { p.m with frm := m.frm } } (by rfl) ⟨s1.o.got, s1.o.ds, s1.o.xs, s1.o.cs⟩
    have s3 := s2.set 6 (.int .u32 (m.seq : Int)) { p with m := { p.m with frm := m.frm, seq := m.seq } } (by rfl) ⟨s2.o.got, s2.o.ds, s2.o.xs, s2.o.cs⟩
    have s4 := s3.set 7 (.int .u64 (m.stamp : Int)) { p with m := { p.m with frm := m.frm, seq := m.seq, stamp := m.stamp } } (by rfl) ⟨s3.o.got, s3.o.ds, s3.o.xs, s3.o.cs⟩
    have s5 := s4.set 8 (.int .i64 m.service) { p with m := { p.m with frm := m.frm, seq := m.seq, stamp := m.stamp, service := m.service } } (by rfl) ⟨s4.o.got, s4.o.ds, s4.o.xs, s4.o.cs⟩
    have s6 := s5.set 9 (.slice m.da m.ds.length m.dc) { p with m := { p.m with frm := m.frm, seq := m.seq, stamp := m.stamp, service := m.service, ds := m.ds, da := m.da, dc := m.dc } } (by rfl) ⟨s5.o.got, OwnN.sets (OwnN.sets (OwnN.sets (OwnN.sets (ownMore o1 (by have h1 := HS.out.k.size; have h2 := HS.out.hB; omega)) s1.n 5 _) s2.n 6 _) s3.n 7 _) s4.n 8 _, s5.o.xs, s5.o.cs⟩
    have s10 := s6.set 10 (.string m.pay) { p with m := m } (by rfl) ⟨s6.o.got, s6.o.ds, s6.o.xs, s6.o.cs⟩
    rw [← hV] at s10
    have HR := Lib.hid r1
    clear HC h1 k1 s1 s2 s3 s4 s5 s6 r1 HS
    go_upto_region 36 with (fail)
    rw [← hV]
    clear hV e5 f5 e6 f6 e7 f7 e8 f8 e9 f9 e10 f10
    obtain ⟨C, hC⟩ : ∃ C, C = pktA { p with m := m } := ⟨_, rfl⟩
    have hm : V.heap[N]? = some (.cells C 35 (0, 0)) := by rw [hC]; exact s10.n
    have HC := Lib.hid (And.intro (show C.size = 22 by rw [hC]; rfl) (show C.all (·.oneCell') = true by rw [hC]; exact oneCell_pktA _))
    have hst : (V.setRow (N + 1) C).heap[N + 1]? = some (.cells C 35 (0, 0)) := setRow_heap _ _ _ _ _ _ s10.z
    have HX := Lib.hid (And.intro hm (And.intro s10.z hst))
    have HE := Lib.hid (show TFld T s A w B p 109 st (.returned (.agg C)) (V.setRow (N + 1) C) from s10.fin (by omega) (by
      refine TR.eq (r := fun l => andR (rdMsg (if p.kind = 9 then p.whom else p.frm) l) fun m l => .ok ({ coreP p with m := m }, l)) ?_ (fun l => rfl)
      refine TR.bind (by rw [← HF.out]; exact HR.out) ?_
      exact TR.pure _ _) (by show p.xs.length ≤ p.xs.length + 64; omega) hC)
    clear hC hm hst s10
    go_wp2_with (first
      | (refine wpList_load_row rfl 35 (.tmp 5) rfl N rfl 35 C (0, 0) _ HX.out.1 Try.underlying35 rfl (by rw [HC.out.1]; kernel_rfl) ?_)
      | (refine wpList_store_row rfl 35 (.tmp 6) (.tmp 110) rfl (N + 1) C rfl rfl 35 _ HX.out.2.1 (by rw [HC.out.1]; kernel_rfl) (by rw [HC.out.1]; rfl) HC.out.2 ?_))
    refine bodyPost_ret (results_cell_row Try.results26 _ _ (N + 1) 35 C (0, 0) _ rfl HX.out.2.2 Try.underlying35 rfl (by rw [HC.out.1]; kernel_rfl)) rfl ?_
    exact HE.out
  · have hfr2 : fr = p.frm := by rw [hfr, if_neg hk]
    have hk2 : (p.kind == 9) = false := by simpa using hk
    have hk3 : decide (p.kind = 9) = false := by simpa using hk
    subst hfr2
    clear hfr
    go_upto_region 8 with (fail)
    clear c0 c1 c15 hk hk2 hk3
    go_wp2_with fail
    refine HC.out.mono ?_
    rintro en w1 ⟨m, st1, rfl, o1, h1, k1, r1⟩
    have s1 := HS.out.call k1 h1
    rw [show msgA m = #[.int .i64 m.frm, .int .u32 (m.seq : Int), .int .u64 (m.stamp : Int), .int .i64 m.service, .slice m.da m.ds.length m.dc, .string m.pay] from rfl]
    have e5 : w1.cell? ⟨N, 5, none⟩ = some (.int .i64 p.m.frm) := cell_of_row _ _ 5 _ _ _ s1.n
    have f5 : w1.frozen? ⟨N, 5, none⟩ = false := frozen_of_row _ _ _ _ _ s1.n
    have e6 : w1.cell? ⟨N, 6, none⟩ = some (.int .u32 (p.m.seq : Int)) := cell_of_row _ _ 6 _ _ _ s1.n
    have f6 : w1.frozen? ⟨N, 6, none⟩ = false := frozen_of_row _ _ _ _ _ s1.n
    have e7 : w1.cell? ⟨N, 7, none⟩ = some (.int .u64 (p.m.stamp : Int)) := cell_of_row _ _ 7 _ _ _ s1.n
    have f7 : w1.frozen? ⟨N, 7, none⟩ = false := frozen_of_row _ _ _ _ _ s1.n
    have e8 : w1.cell? ⟨N, 8, none⟩ = some (.int .i64 p.m.service) := cell_of_row _ _ 8 _ _ _ s1.n
    have f8 : w1.frozen? ⟨N, 8, none⟩ = false := frozen_of_row _ _ _ _ _ s1.n
    have e9 : w1.cell? ⟨N, 9, none⟩ = some (.slice p.m.da p.m.ds.length p.m.dc) := cell_of_row _ _ 9 _ _ _ s1.n
    have f9 : w1.frozen? ⟨N, 9, none⟩ = false := frozen_of_row _ _ _ _ _ s1.n
    have e10 : w1.cell? ⟨N, 10, none⟩ = some (.string p.m.pay) := cell_of_row _ _ 10 _ _ _ s1.n
    have f10 : w1.frozen? ⟨N, 10, none⟩ = false := frozen_of_row _ _ _ _ _ s1.n
    obtain ⟨V, hV⟩ : ∃ V, V = ((((((w1.setCell ⟨N, 5, none⟩ (.int .i64 m.frm)).setCell ⟨N, 6, none⟩ (.int .u32 (m.seq : Int))).setCell ⟨N, 7, none⟩ (.int .u64 (m.stamp : Int))).setCell ⟨N, 8, none⟩ (.int .i64 m.service)).setCell ⟨N, 9, none⟩ (.slice m.da m.ds.length m.dc)).setCell ⟨N, 10, none⟩ (.string m.pay)) := ⟨_, rfl⟩
    have s2 := s1.set 5 (.int .i64 m.frm) { p with m := { p.m with frm := m.frm } } (by rfl) ⟨s1.o.got, s1.o.ds, s1.o.xs, s1.o.cs⟩
    have s3 := s2.set 6 (.int .u32 (m.seq : Int)) { p with m := { p.m with frm := m.frm, seq := m.seq } } (by rfl) ⟨s2.o.got, s2.o.ds, s2.o.xs, s2.o.cs⟩
    have s4 := s3.set 7 (.int .u64 (m.stamp : Int)) { p with m := { p.m with frm := m.frm, seq := m.seq, stamp := m.stamp } } (by rfl) ⟨s3.o.got, s3.o.ds, s3.o.xs, s3.o.cs⟩
    have s5 := s4.set 8 (.int .i64 m.service) { p with m := { p.m with frm := m.frm, seq := m.seq, stamp := m.stamp, service := m.service } } (by rfl) ⟨s4.o.got, s4.o.ds, s4.o.xs, s4.o.cs⟩
    have s6 := s5.set 9 (.slice m.da m.ds.length m.dc) { p with m := { p.m with frm := m.frm, seq := m.seq, stamp := m.stamp, service := m.service, ds := m.ds, da := m.da, dc := m.dc } } (by rfl) ⟨s5.o.got, OwnN.sets (OwnN.sets (OwnN.sets (OwnN.sets (ownMore o1 (by have h1 := HS.out.k.size; have h2 := HS.out.hB; omega)) s1.n 5 _) s2.n 6 _) s3.n 7 _) s4.n 8 _, s5.o.xs, s5.o.cs⟩
    have s10 := s6.set 10 (.string m.pay) { p with m := m } (by rfl) ⟨s6.o.got, s6.o.ds, s6.o.xs, s6.o.cs⟩
    rw [← hV] at s10
    have HR := Lib.hid r1
    clear HC h1 k1 s1 s2 s3 s4 s5 s6 r1 HS
    go_upto_region 36 with (fail)
    rw [← hV]
    clear hV e5 f5 e6 f6 e7 f7 e8 f8 e9 f9 e10 f10
    obtain ⟨C, hC⟩ : ∃ C, C = pktA { p with m := m } := ⟨_, rfl⟩
    have hm : V.heap[N]? = some (.cells C 35 (0, 0)) := by rw [hC]; exact s10.n
    have HC := Lib.hid (And.intro (show C.size = 22 by rw [hC]; rfl) (show C.all (·.oneCell') = true by rw [hC]; exact oneCell_pktA _))
    have hst : (V.setRow (N + 1) C).heap[N + 1]? = some (.cells C 35 (0, 0)) := setRow_heap _ _ _ _ _ _ s10.z
    have HX := Lib.hid (And.intro hm (And.intro s10.z hst))
    have HE := Lib.hid (show TFld T s A w B p 109 st (.returned (.agg C)) (V.setRow (N + 1) C) from s10.fin (by omega) (by
      refine TR.eq (r := fun l => andR (rdMsg (if p.kind = 9 then p.whom else p.frm) l) fun m l => .ok ({ coreP p with m := m }, l)) ?_ (fun l => rfl)
      refine TR.bind (by rw [← HF.out]; exact HR.out) ?_
      exact TR.pure _ _) (by show p.xs.length ≤ p.xs.length + 64; omega) hC)
    clear hC hm hst s10
    go_wp2_with (first
      | (refine wpList_load_row rfl 35 (.tmp 5) rfl N rfl 35 C (0, 0) _ HX.out.1 Try.underlying35 rfl (by rw [HC.out.1]; kernel_rfl) ?_)
      | (refine wpList_store_row rfl 35 (.tmp 6) (.tmp 110) rfl (N + 1) C rfl rfl 35 _ HX.out.2.1 (by rw [HC.out.1]; kernel_rfl) (by rw [HC.out.1]; rfl) HC.out.2 ?_))
    refine bodyPost_ret (results_cell_row Try.results26 _ _ (N + 1) 35 C (0, 0) _ rfl HX.out.2.2 Try.underlying35 rfl (by rw [HC.out.1]; kernel_rfl)) rfl ?_
    exact HE.out
set_option maxRecDepth 100000 in
set_option maxHeartbeats 8000000 in
theorem tFld_x {w : World} {T : Nat} {s : ByteArray} {A : Nat} {st : Except Int (List UInt8)} (h : TkS w T s A st) (hA : A ≤ 7000000) (hA0 : 1000000 ≤ A) (p : Pkt) {B : Nat} (hB : T < B ∧ B ≤ w.heap.size) (ho : OwnPk B w p) :
    Calls Try.prog 26 #[.pointer (some ⟨T, 0, none⟩), .int .u8 120, .agg (pktA p)] w fun en w' => TFld T s A w B p 120 st en w' := by
  obtain ⟨N, hN⟩ : ∃ N, N = w.heap.size := ⟨_, rfl⟩
  obtain ⟨W, hW⟩ : ∃ W, W = (w.alloc (.cells (pktA p) 35)).alloc (.cells (pktA zeroP) 35) := ⟨_, rfl⟩
  have hS := FSt.start h p hB ho hN hW
  have HS := Lib.hid hS
  have HA := Lib.hid (And.intro hA hA0)
  have HC := Lib.hid (tEx_any hS.t (by omega))
  have hma : pktA p = #[.int .i64 p.kind, .int .i64 p.frm, .int .i64 p.dst, .int .u64 (p.ce : Int), .int .i64 p.cr, .int .i64 p.m.frm, .int .u32 (p.m.seq : Int), .int .u64 (p.m.stamp : Int), .int .i64 p.m.service, .slice p.m.da p.m.ds.length p.m.dc, .string p.m.pay, .int .u64 (p.stamp : Int), .int .u32 (p.sent : Int), .slice p.ga p.got.length p.gc, .int .u64 (p.hor : Int), .int .i64 p.whom, .int .u32 (p.seq : Int), .int .u64 (p.mem : Int), .int .u64 (p.pe : Int), .int .i64 p.pr, .int .u64 (p.epoch : Int), .slice p.xa p.xs.length p.xc] := rfl
  have hmz : pktA zeroP = #[.int .i64 0, .int .i64 0, .int .i64 0, .int .u64 0, .int .i64 0, .int .i64 0, .int .u32 0, .int .u64 0, .int .i64 0, .slice none 0 0, .string ⟨#[]⟩, .int .u64 0, .int .u32 0, .slice none 0 0, .int .u64 0, .int .i64 0, .int .u32 0, .int .u64 0, .int .u64 0, .int .i64 0, .int .u64 0, .slice none 0 0] := rfl
  rw [hma, hmz] at hW
  rw [hma]
  clear h hS hA hA0 hB ho
  go_enter Try.func26, Try.ntmps26
  go_upto_region 1 with (fail)
  rw [← hW, ← hN]
  clear hma hmz hW hN
  go_wp2_with fail
  refine HC.out.mono ?_
  rintro en w1 ⟨x, st1, rfl, o1, h1, k1, r1⟩
  have s1 := HS.out.call k1 h1
  rw [show exA x = #[.int .i64 x.who, .int .u64 (x.oe : Int), .int .i64 x.orp, .slice x.ca x.cs.length x.cc, .int .u64 (x.ls : Int), .int .i64 x.lf] from rfl]
  obtain ⟨W2, hW2⟩ : ∃ W2, W2 = w1.alloc (.cells #[.int .i64 x.who, .int .u64 (x.oe : Int), .int .i64 x.orp, .slice x.ca x.cs.length x.cc, .int .u64 (x.ls : Int), .int .i64 x.lf] 51) := ⟨_, rfl⟩
  have hb := ba (br w1) (.cells #[.int .i64 x.who, .int .u64 (x.oe : Int), .int .i64 x.orp, .slice x.ca x.cs.length x.cc, .int .u64 (x.ls : Int), .int .i64 x.lf] 51)
  have hsz : B ≤ w1.heap.size := by have h1 := s1.k.size; have h2 := s1.hB; omega
  have hox := ownOne w1 B 51 (exA x) 6 rfl hsz
  rw [show exA x = #[.int .i64 x.who, .int .u64 (x.oe : Int), .int .i64 x.orp, .slice x.ca x.cs.length x.cc, .int .u64 (x.ls : Int), .int .i64 x.lf] from rfl, ← hW2] at hox
  rw [← hW2] at hb
  obtain ⟨G, hG⟩ : ∃ G, G = w1.heap.size := ⟨_, rfl⟩
  rw [← hG] at hox
  have s2 := s1.call (Kept.of_below hb) (h1.below hb)
  have o2 : OwnN B W2 x.ca x.cs x.cc := OwnN.below (show OwnN B w1 x.ca x.cs x.cc from ownMore o1 (by have h1 := HS.out.k.size; have h2 := HS.out.hB; omega)) hb
  have e21 : W2.cell? ⟨N, 21, none⟩ = some (.slice p.xa p.xs.length p.xc) := cell_of_row _ _ 21 _ _ _ s2.n
  have f21 : W2.frozen? ⟨N, 21, none⟩ = false := frozen_of_row _ _ _ _ _ s2.n
  have s10 := s2.set 21 (.slice (some ⟨G, 0, none⟩) 1 1) { p with xs := [x], xa := some ⟨G, 0, none⟩, xc := 1 } (by rfl) ⟨s2.o.got, s2.o.ds, hox, fun y hy => by rw [List.mem_singleton.1 hy]; exact o2⟩
  obtain ⟨V, hV⟩ : ∃ V, V = W2.setCell ⟨N, 21, none⟩ (.slice (some ⟨G, 0, none⟩) 1 1) := ⟨_, rfl⟩
  rw [← hV] at s10
  rw [hW2] at e21 f21
  rw [hW2, hG] at hV
  have HR := Lib.hid r1
  clear HC h1 k1 s1 s2 r1 HS hb hox o2 o1 hsz hW2 hG
  go_upto_region 36 with (fail)
  rw [← hV]
  clear hV e21 f21
  obtain ⟨C, hC⟩ : ∃ C, C = pktA { p with xs := [x], xa := some ⟨G, 0, none⟩, xc := 1 } := ⟨_, rfl⟩
  have hm : V.heap[N]? = some (.cells C 35 (0, 0)) := by rw [hC]; exact s10.n
  have HC := Lib.hid (And.intro (show C.size = 22 by rw [hC]; rfl) (show C.all (·.oneCell') = true by rw [hC]; exact oneCell_pktA _))
  have hst : (V.setRow (N + 1) C).heap[N + 1]? = some (.cells C 35 (0, 0)) := setRow_heap _ _ _ _ _ _ s10.z
  have HX := Lib.hid (And.intro hm (And.intro s10.z hst))
  have HE := Lib.hid (show TFld T s A w B p 120 st (.returned (.agg C)) (V.setRow (N + 1) C) from s10.fin (by omega) (by
    refine TR.eq (r := fun l => andR (rdEx l) fun x l => .ok ({ coreP p with xs := [x] }, l)) ?_ (fun l => rfl)
    refine TR.bind HR.out ?_
    exact TR.pure _ _) (by show 1 ≤ p.xs.length + 64; omega) hC)
  clear hC hm hst s10
  go_wp2_with (first
    | (refine wpList_load_row rfl 35 (.tmp 5) rfl N rfl 35 C (0, 0) _ HX.out.1 Try.underlying35 rfl (by rw [HC.out.1]; kernel_rfl) ?_)
    | (refine wpList_store_row rfl 35 (.tmp 6) (.tmp 110) rfl (N + 1) C rfl rfl 35 _ HX.out.2.1 (by rw [HC.out.1]; kernel_rfl) (by rw [HC.out.1]; rfl) HC.out.2 ?_))
  refine bodyPost_ret (results_cell_row Try.results26 _ _ (N + 1) 35 C (0, 0) _ rfl HX.out.2.2 Try.underlying35 rfl (by rw [HC.out.1]; kernel_rfl)) rfl ?_
  exact HE.out
end Go.Proofs.Ytgpojbmloielmaa
namespace Go.Proofs.Ytgpojbmloielmaa
set_option linter.unusedVariables false
set_option linter.unusedSimpArgs false
open Go.RowKit
theorem rdExs_next (k : Nat) (l : List UInt8) : (andR (rdExs k l) fun xs l => andR (rdEx l) fun x l => .ok (xs ++ [x], l)) = rdExs (k + 1) l := (rdExs_snoc k l).symm
set_option maxRecDepth 100000 in
set_option maxHeartbeats 8000000 in
theorem tFld_l {w : World} {T : Nat} {s : ByteArray} {A : Nat} {st : Except Int (List UInt8)} (h : TkS w T s A st) (hA : A ≤ 7000000) (hA0 : 1000000 ≤ A) (p : Pkt) {B : Nat} (hB : T < B ∧ B ≤ w.heap.size) (ho : OwnPk B w p) (hpx : p.xs.length ≤ 1000) :
    Calls Try.prog 26 #[.pointer (some ⟨T, 0, none⟩), .int .u8 108, .agg (pktA p)] w fun en w' => TFld T s A w B p 108 st en w' := by
  obtain ⟨N, hN⟩ : ∃ N, N = w.heap.size := ⟨_, rfl⟩
  obtain ⟨W, hW⟩ : ∃ W, W = (w.alloc (.cells (pktA p) 35)).alloc (.cells (pktA zeroP) 35) := ⟨_, rfl⟩
  have hS := FSt.start h p hB ho hN hW
  have HS := Lib.hid hS
  have HA := Lib.hid (And.intro hA hA0)
  have HC := Lib.hid (tNum_any hS.t 1 (by omega) (by omega) (by omega))
  have hma : pktA p = #[.int .i64 p.kind, .int .i64 p.frm, .int .i64 p.dst, .int .u64 (p.ce : Int), .int .i64 p.cr, .int .i64 p.m.frm, .int .u32 (p.m.seq : Int), .int .u64 (p.m.stamp : Int), .int .i64 p.m.service, .slice p.m.da p.m.ds.length p.m.dc, .string p.m.pay, .int .u64 (p.stamp : Int), .int .u32 (p.sent : Int), .slice p.ga p.got.length p.gc, .int .u64 (p.hor : Int), .int .i64 p.whom, .int .u32 (p.seq : Int), .int .u64 (p.mem : Int), .int .u64 (p.pe : Int), .int .i64 p.pr, .int .u64 (p.epoch : Int), .slice p.xa p.xs.length p.xc] := rfl
  have hmz : pktA zeroP = #[.int .i64 0, .int .i64 0, .int .i64 0, .int .u64 0, .int .i64 0, .int .i64 0, .int .u32 0, .int .u64 0, .int .i64 0, .slice none 0 0, .string ⟨#[]⟩, .int .u64 0, .int .u32 0, .slice none 0 0, .int .u64 0, .int .i64 0, .int .u32 0, .int .u64 0, .int .u64 0, .int .i64 0, .int .u64 0, .slice none 0 0] := rfl
  rw [hma, hmz] at hW
  rw [hma]
  clear h hS hA hA0 hB ho
  go_enter Try.func26, Try.ntmps26
  go_upto_region 1 with (fail)
  rw [← hW, ← hN]
  clear hma hmz hW hN
  have HPX := Lib.hid hpx
  clear hpx
  obtain ⟨i2, hj, hy0, hy1, hy2⟩ := info_parts info51
  go_wp2_with fail
  refine HC.out.mono ?_
  rintro en w1 ⟨n, st1, rfl, hv, h1, k1, r1⟩
  have hv2 : n < 256 := by simpa using hv
  have hw : IntKind.i64.wrap (n : Int) = (n : Int) := IntWalk.i64_in _ (by omega)
  obtain ⟨b, hb⟩ : ∃ b : Bool, b = decide (64 < n) := ⟨_, rfl⟩
  have hb2 : decide ((64 : Int) < (n : Int)) = b := by rw [hb, decide_eq_decide]; omega
  have hb3 := hb.symm
  have HB := Lib.hid (tBad_any h1 3 (by decide) b)
  have HS1 := Lib.hid (HS.out.call k1 h1)
  have HK := Lib.hid (And.intro r1 hb)
  clear h1 k1 r1 HC hv hb HS
  go_wp2_with fail
  refine HB.out.mono ?_
  rintro en w2 ⟨rfl, st2, h2, k2, r2⟩
  have HS2 := Lib.hid (HS1.out.call k2 h2)
  have HR := Lib.hid (show (∀ (q : Pkt) (X : List Exch) st', TR st2 (rdExs n) (X.map coreX) st' → coreP q = { coreP p with xs := (coreP p).xs ++ X.map coreX } → TR st (rdFld 108 (coreP p)) (coreP q) st') ∧ (∀ l, st2 = .ok l → n ≤ 64) from by
    refine ⟨fun q X st' hd hq => ?_, fun l hl => ?_⟩
    · refine TR.eq (r := fun l => andR (rdN 1 l) fun n l => andR (rdBad 3 (decide (64 < n)) l) fun _ l => andR (rdExs n l) fun xs l => .ok ({ coreP p with xs := (coreP p).xs ++ xs }, l)) ?_ (fun l => rfl)
      refine TR.bind HK.out.1 ?_
      refine TR.bind (by rw [← HK.out.2]; exact r2) ?_
      refine TR.bind hd ?_
      rw [hq]
      exact TR.pure _ _
    · subst hl
      obtain ⟨l0, _, h0⟩ := r2.okay
      unfold rdBad at h0
      split at h0
      · cases h0
      · rename_i hnb
        rw [HK.out.2] at hnb
        simpa using hnb)
  clear h2 k2 r2 HB hb2 hb3 HK hw HS1
  go_wp2_with fail
  go_loopw [9] (fun i wr => ∃ (k : Nat) (Y X : List Exch) (ad : Option Addr) (cap : Nat) (stk : Except Int (List UInt8)), k ≤ n ∧ k ≤ 64 ∧ i = .int .i64 (k : Int) ∧ Hid (Y = p.xs ++ X ∧ X.length = k ∧ TR st2 (rdExs k) (X.map coreX) stk) ∧ Hid (FSt w T s (A + 1 + 276 * k) B N { p with xs := Y, xa := ad, xc := cap } wr stk)) (fun i _ => n - (intOf i).toNat)
  case atStart => exact ⟨0, p.xs, [], p.xa, p.xc, st2, by omega, by omega, rfl, ⟨by simp, rfl, TR.pure _ _⟩, HS2.out⟩
  case round =>
    obtain ⟨k, Y, X, ad, cap, stk, hk, hk6, rfl, HX, HF⟩ := hrel
    obtain ⟨pp, e, hat, hpA, hst⟩ := HF.out.t.ex
    have c2 : wr.cell? ⟨T, 2, none⟩ = some (.int .i64 e) := cell_of_row _ _ 2 _ _ _ hat
    by_cases hlt : k < n
    · have hbool : decide ((k : Int) < (n : Int)) = true := by rw [decide_eq_true_eq]; omega
      have hbool' : decide (k < n) = true := by rw [decide_eq_true_eq]; exact hlt
      have hki : (k : Int) < (n : Int) := by omega
      by_cases he : e = 0
      · subst he
        have hst0 := (hst.1 rfl).2
        have hk64 : n ≤ 64 := by
          obtain ⟨l0, h0, _⟩ := (show TR st2 (rdExs k) (X.map coreX) (.ok _) from hst0 ▸ HX.out.2.2).okay
          exact HR.out.2 l0 h0
        have HLT := Lib.hid (And.intro hlt hk64)
        have hY64 : Y.length ≤ 1064 := by rw [HX.out.1, List.length_append, HX.out.2.1]; have := HPX.out; omega
        obtain ⟨S, hS⟩ : ∃ S : World → Prop, S = fun w' => w'.cell? ⟨N, 21, none⟩ = some (.slice ad Y.length cap) := ⟨_, rfl⟩
        have hS0 : ∀ w' : World, w'.heap[N]? = some (.cells (pktA { p with xs := Y, xa := ad, xc := cap }) 35 (0, 0)) → S w' := fun w' h => by rw [hS]; exact cell_of_row _ _ 21 _ _ _ h
        have HS9 := Lib.hid hS0
        have HSc := Lib.hid (show ∀ w' : World, S w' → w'.cell? ⟨N, 21, none⟩ = some (.slice ad Y.length cap) from fun w' h => by rw [hS] at h; exact h)
        have hd := (br wr).drew
        have HD := Lib.hid (show FSt w T s (A + 1 + 276 * k) B N { p with xs := Y, xa := ad, xc := cap } wr.drew stk from HF.out.call (Kept.of_below hd) (HF.out.t.below hd))
        have HC := Lib.hid (tEx_any HD.out.t (by have := HA.out.1; omega))
        clear hlt hat hpA hst hst0 hk64 hS0 hS hd
        go_upto_region 35 with (fail)
        clear c2
        refine wp_region_mask S 7 5 [true, true, true, false, false, false, false, false] #[true, true, true, false, false, false, false, false] (by kernel_rfl) (by kernel_rfl) (by kernel_rfl) (HS9.out _ HD.out.n) ?_
        generalize wr.drew = v1 at *
        iterate 3
          refine wpMask_take _ (Or.inl ⟨by rfl, fun w' hS => by (have h0 := HSc.out _ hS); go_simp; try with_reducible rfl⟩) ?_
          simp only [Act.put, List.setIfInBounds_toArray, List.set_cons_zero, List.set_cons_succ]
        iterate 5 refine wpMask_skip ?_
        refine wpMask_nil ?_
        refine wpAnyS_ready (rs := [3]) (by kernel_rfl) (by simp) ?_
        refine AllReadyS.cons rfl (fun K hK => ?_) AllReadyS.nil
        go_simp
        refine HC.out.mono ?_
        rintro en v2 ⟨x, st4, rfl, o4, h4, k4, r4⟩
        have s4 := HD.out.call k4 h4
        have hsz : B ≤ v1.heap.size := by have h1 := HD.out.k.size; have h2 := HD.out.hB; omega
        have ho4 : OwnN B v2 x.ca x.cs x.cc := ownMore o4 hsz
        have hs : TR st2 (rdExs (k + 1)) ((X ++ [x]).map coreX) st4 := by
          rw [List.map_append, List.map_singleton]
          refine TR.eq (TR.bind HX.out.2.2 (r2 := fun xs l => andR (rdEx l) fun x l => .ok (xs ++ [x], l)) (TR.bind (r2 := fun x l => .ok (X.map coreX ++ [x], l)) r4 ?_)) (rdExs_next k)
          exact TR.pure _ _
        have HSN := Lib.hid (And.intro hs ho4)
        have H2 := Lib.hid s4
        refine hK.out _ _ (fun _ => HS9.out _ s4.n) ?_
        clear hK K o4 h4 k4 r4 s4 hsz ho4 hs HC
        simp only [Act.put, List.setIfInBounds_toArray, List.set_cons_zero, List.set_cons_succ]
        refine wpAnyS_ready (rs := [4]) (by kernel_rfl) (by simp) ?_
        refine AllReadyS.cons rfl (fun K hK => ?_) AllReadyS.nil
        refine step_buildSlice_row rfl 33 (.tmp 106) rfl 51 i2 _ Try.underlying33 hj hy0 (exA x) rfl hy1 (by show 0 < 6; omega) (by show 6 ≤ 16777216; omega) ?_
        have hb := ba (br v2) (.cells (exA x) 51)
        have H3 := Lib.hid (show FSt w T s (A + 1 + 276 * k + 276) B N { p with xs := Y, xa := ad, xc := cap } (v2.alloc (.cells (exA x) 51)) st4 from H2.out.call (Kept.of_below hb) (H2.out.t.below hb))
        have HO3 := Lib.hid (show OwnN B (v2.alloc (.cells (exA x) 51)) x.ca x.cs x.cc from HSN.out.2.below hb)
        have HNX := Lib.hid (new_ex v2 x)
        have hsz : B ≤ (v2.alloc (.cells (exA x) 51)).heap.size := by have h1 := H3.out.k.size; have h2 := H3.out.hB; omega
        refine hK.out _ _ (fun _ => HS9.out _ H3.out.n) ?_
        clear hK K hb
        simp only [Act.put, List.setIfInBounds_toArray, List.set_cons_zero, List.set_cons_succ]
        refine wpAnyS_ready (rs := [5]) (by kernel_rfl) (by simp) ?_
        refine AllReadyS.cons rfl (fun K hK => ?_) AllReadyS.nil
        have hox : (v2.alloc (.cells (exA x) 51)).ownsRow B 51 6 (.slice ad Y.length cap) Y.length (exsM Y) := H3.out.o.xs
        refine step_append_any _ rfl (.tmp 104) (.tmp 107) 33 rfl B 51 i2 _ 6 64 Try.underlying33 hj hy0 hy1 hy2 rfl (by decide) (.slice ad Y.length cap) Y.length (exsM Y) rfl hox (v2.heap.size + 1) (some ⟨v2.heap.size, 0, none⟩) 1 1 (exA x).toList rfl HNX.out (exA_one _) (by unfold maxLen; omega) (by omega) hsz ?_
        intro v7 w7 ho7 hg7 hu7
        obtain ⟨a7, q7, rfl⟩ := ownForm ho7
        have hblt := fun b hb => (hox.lt b hb).1
        have hblk := Lib.ownsRow_kind hox
        have hk7 : Kept (fun b => Value.ownBlock (.slice ad Y.length cap) = some b) (v2.alloc (.cells (exA x) 51)) w7 := ⟨hg7.os, hg7.tape, hg7.output, hg7.size, fun i hi hs => hg7.block i hi (fun e => hs e.symm)⟩
        have hNb : ∀ {cs : Array Value} {fz : Nat × Nat} {b : Nat}, (v2.alloc (.cells (exA x) 51)).heap[b]? = some (.cells cs 35 fz) → ¬ Value.ownBlock (.slice ad Y.length cap) = some b := fun h e => by
          obtain ⟨c, fz, hc⟩ := hblk _ e
          rw [h] at hc
          injection hc with hc
          injection hc with _ hc
          exact absurd hc (by decide)
        have hnum : ∀ {da : Option Addr} {ds : List Nat} {dc : Nat}, OwnN B (v2.alloc (.cells (exA x) 51)) da ds dc → OwnN B w7 da ds dc := fun h => h.kept hk7 (fun b cs fr hb _ e => by
          obtain ⟨c, fz, hc⟩ := hblk b e
          rw [hb] at hc
          injection hc with hc
          injection hc with _ hc
          exact absurd hc (by decide))
        have hTb : ¬ Value.ownBlock (.slice ad Y.length cap) = some T := fun e => by have := hblt T e; have := H3.out.hT; omega
        have hkw : Kept (fun b => b = T ∨ B ≤ b) w w7 := H3.out.k.trans (hk7.imp fun b hb => .inr (hblt b hb))
        have H4 := Lib.hid (And.intro (hk7.keep H3.out.n (hNb H3.out.n)) (And.intro (hk7.keep H3.out.z (hNb H3.out.z)) (And.intro (H3.out.t.kept hk7 hTb) (And.intro hkw (And.intro ho7 (And.intro (hnum H3.out.o.got) (And.intro (hnum H3.out.o.ds) (show ∀ z ∈ Y ++ [x], OwnN B w7 z.ca z.cs z.cc from fun z hz => by
          rcases List.mem_append.1 hz with hz | hz
          · exact hnum (H3.out.o.cs z hz)
          · rw [List.mem_singleton.1 hz]; exact hnum HO3.out))))))))
        refine hK.out _ _ (fun _ => HS9.out _ H4.out.1) ?_
        clear hK K ho7 hg7 hu7 hblt hblk hk7 hNb hnum hTb hkw hsz hox
        simp only [Act.put, List.setIfInBounds_toArray, List.set_cons_zero, List.set_cons_succ]
        refine wpAnyS_ready (rs := [6]) (by kernel_rfl) (by simp) ?_
        refine AllReadyS.cons rfl (fun K hK => ?_) AllReadyS.nil
        go_simp
        refine hK.out _ _ (fun _ => HS9.out _ H4.out.1) ?_
        clear hK K
        simp only [Act.put, List.setIfInBounds_toArray, List.set_cons_zero, List.set_cons_succ]
        have d21 : w7.cell? ⟨N, 21, none⟩ = some (.slice ad Y.length cap) := cell_of_row _ _ 21 _ _ _ H4.out.1
        have f21 : w7.frozen? ⟨N, 21, none⟩ = false := frozen_of_row _ _ _ _ _ H4.out.1
        refine wpAnyS_ready (rs := [7]) (by kernel_rfl) (by simp) ?_
        refine AllReadyS.cons rfl (fun K hK => ?_) AllReadyS.nil
        go_simp
        refine hK.out _ _ (fun h => absurd h (by decide)) ?_
        clear hK K d21 f21
        simp only [Act.put, List.setIfInBounds_toArray, List.set_cons_zero, List.set_cons_succ]
        obtain ⟨w8, hw8⟩ : ∃ w8, w8 = w7.setCell ⟨N, 21, none⟩ (.slice a7 (Y.length + 1) q7) := ⟨_, rfl⟩
        rw [← hw8]
        have hlen : (Y ++ [x]).length = Y.length + 1 := by simp
        have HE := Lib.hid (show Hid (Y ++ [x] = p.xs ++ (X ++ [x]) ∧ (X ++ [x]).length = k + 1 ∧ TR st2 (rdExs (k + 1)) ((X ++ [x]).map coreX) st4) ∧ Hid (FSt w T s (A + 1 + 276 * (k + 1)) B N { p with xs := Y ++ [x], xa := a7, xc := q7 } w8 st4) from by
          rw [hw8]
          refine ⟨⟨by rw [HX.out.1, List.append_assoc], by rw [List.length_append, HX.out.2.1]; rfl, HSN.out.1⟩, ?_⟩
          have hk8 := keptS w7 ⟨N, 21, none⟩ (.slice a7 (Y.length + 1) q7)
          have hT := H3.out.hT
          have hB := H3.out.hB
          have hN := H3.out.hN
          have hn := setCell_block H4.out.1 21 (.slice a7 (Y.length + 1) q7)
          have hown : OwnPk B w7 { p with xs := Y ++ [x], xa := a7, xc := q7 } := ⟨H4.out.2.2.2.2.2.1, H4.out.2.2.2.2.2.2.1, by
            have := H4.out.2.2.2.2.1
            show w7.ownsRow B 51 6 (.slice a7 (Y ++ [x]).length q7) (Y ++ [x]).length (exsM (Y ++ [x]))
            rw [hlen, exsM_snoc]
            exact this, H4.out.2.2.2.2.2.2.2⟩
          refine ⟨?_, hk8.keep H4.out.2.1 (by simp), (H4.out.2.2.1.kept hk8 (by simp; omega)).le (by omega), H4.out.2.2.2.1.trans (hk8.imp fun b hb => .inr (by simp at hb; omega)), hown.keptP hk8 (fun b hb => .inr (by simp at hb; subst hb; exact ⟨_, _, H4.out.1⟩)), hT, hB, hN⟩
          rw [← hlen] at hn ⊢
          exact hn)
        clear hw8 hlen
        refine wpAnyS_done (by kernel_rfl) ?_ _
        go_wp2_with fail
        exact ⟨⟨k + 1, Y ++ [x], X ++ [x], a7, q7, st4, HLT.out.1, by have := HLT.out; omega, by go_num, HE.out.1, HE.out.2⟩, measI HLT.out.1⟩
      · have he2 : (e == 0) = false := by simpa using he
        have he3 : decide (e = 0) = false := by simpa using he
        have hst0 := hst.2 he
        have HTR := Lib.hid (show TR st (rdFld 108 (coreP p)) (coreP { p with xs := Y, xa := ad, xc := cap }) stk from by
          refine HR.out.1 _ X stk ?_ (by unfold coreP; simp only [HX.out.1, List.map_append])
          subst hst0
          refine TR.stay HX.out.2.2 (fun l c hc => ?_)
          rw [show n = k + (n - k) by omega]
          exact rdExs_bad _ _ _ _ hc)
        have HLN := Lib.hid (show Y.length ≤ p.xs.length + 64 from by rw [HX.out.1, List.length_append, HX.out.2.1]; omega)
        have s10 := HF.out
        clear hat hpA hst hst0
        go_upto_region 36 with (fail)
        obtain ⟨C, hC⟩ : ∃ C, C = pktA { p with xs := Y, xa := ad, xc := cap } := ⟨_, rfl⟩
        have hm : wr.heap[N]? = some (.cells C 35 (0, 0)) := by rw [hC]; exact s10.n
        have HC := Lib.hid (And.intro (show C.size = 22 by rw [hC]; rfl) (show C.all (·.oneCell') = true by rw [hC]; exact oneCell_pktA _))
        have hst : (wr.setRow (N + 1) C).heap[N + 1]? = some (.cells C 35 (0, 0)) := setRow_heap _ _ _ _ _ _ s10.z
        have HX := Lib.hid (And.intro hm (And.intro s10.z hst))
        have HE := Lib.hid (show TFld T s A w B p 108 st (.returned (.agg C)) (wr.setRow (N + 1) C) from s10.fin (by omega) (by
          exact HTR.out) (by exact HLN.out) hC)
        clear hC hm hst s10
        go_wp2_with (first
          | (refine wpList_load_row rfl 35 (.tmp 5) rfl N rfl 35 C (0, 0) _ HX.out.1 Try.underlying35 rfl (by rw [HC.out.1]; kernel_rfl) ?_)
          | (refine wpList_store_row rfl 35 (.tmp 6) (.tmp 110) rfl (N + 1) C rfl rfl 35 _ HX.out.2.1 (by rw [HC.out.1]; kernel_rfl) (by rw [HC.out.1]; rfl) HC.out.2 ?_))
        refine bodyPost_ret (results_cell_row Try.results26 _ _ (N + 1) 35 C (0, 0) _ rfl HX.out.2.2 Try.underlying35 rfl (by rw [HC.out.1]; kernel_rfl)) rfl ?_
        exact HE.out
    · have hbool : decide ((k : Int) < (n : Int)) = false := by rw [decide_eq_false_iff_not]; omega
      have hbool' : decide (k < n) = false := by rw [decide_eq_false_iff_not]; exact hlt
      have hkn : k = n := by omega
      have HTR := Lib.hid (show TR st (rdFld 108 (coreP p)) (coreP { p with xs := Y, xa := ad, xc := cap }) stk from by
        refine HR.out.1 _ X stk ?_ (by unfold coreP; simp only [HX.out.1, List.map_append])
        have := HX.out.2.2
        rw [hkn] at this
        exact this)
      have HLN := Lib.hid (show Y.length ≤ p.xs.length + 64 from by rw [HX.out.1, List.length_append, HX.out.2.1]; omega)
      have s10 := HF.out
      clear hat hpA hst hkn hlt
      go_upto_region 36 with (fail)
      obtain ⟨C, hC⟩ : ∃ C, C = pktA { p with xs := Y, xa := ad, xc := cap } := ⟨_, rfl⟩
      have hm : wr.heap[N]? = some (.cells C 35 (0, 0)) := by rw [hC]; exact s10.n
      have HC := Lib.hid (And.intro (show C.size = 22 by rw [hC]; rfl) (show C.all (·.oneCell') = true by rw [hC]; exact oneCell_pktA _))
      have hst : (wr.setRow (N + 1) C).heap[N + 1]? = some (.cells C 35 (0, 0)) := setRow_heap _ _ _ _ _ _ s10.z
      have HX := Lib.hid (And.intro hm (And.intro s10.z hst))
      have HE := Lib.hid (show TFld T s A w B p 108 st (.returned (.agg C)) (wr.setRow (N + 1) C) from s10.fin (by omega) (by
        exact HTR.out) (by exact HLN.out) hC)
      clear hC hm hst s10
      go_wp2_with (first
        | (refine wpList_load_row rfl 35 (.tmp 5) rfl N rfl 35 C (0, 0) _ HX.out.1 Try.underlying35 rfl (by rw [HC.out.1]; kernel_rfl) ?_)
        | (refine wpList_store_row rfl 35 (.tmp 6) (.tmp 110) rfl (N + 1) C rfl rfl 35 _ HX.out.2.1 (by rw [HC.out.1]; kernel_rfl) (by rw [HC.out.1]; rfl) HC.out.2 ?_))
      refine bodyPost_ret (results_cell_row Try.results26 _ _ (N + 1) 35 C (0, 0) _ rfl HX.out.2.2 Try.underlying35 rfl (by rw [HC.out.1]; kernel_rfl)) rfl ?_
      exact HE.out
theorem tFld_any {w : World} {T : Nat} {s : ByteArray} {A : Nat} {st : Except Int (List UInt8)} (h : TkS w T s A st) (hA : A ≤ 7000000) (hA0 : 1000000 ≤ A) (p : Pkt) {B : Nat} (hB : T < B ∧ B ≤ w.heap.size) (ho : OwnPk B w p) (hpx : p.xs.length ≤ 1000) (f : Nat) (hf : f = 99 ∨ f = 109 ∨ f = 115 ∨ f = 110 ∨ f = 103 ∨ f = 104 ∨ f = 119 ∨ f = 113 ∨ f = 112 ∨ f = 101 ∨ f = 98 ∨ f = 120 ∨ f = 108) :
    Calls Try.prog 26 #[.pointer (some ⟨T, 0, none⟩), .int .u8 (f : Int), .agg (pktA p)] w fun en w' => TFld T s A w B p f st en w' := by
  rcases hf with rfl | rfl | rfl | rfl | rfl | rfl | rfl | rfl | rfl | rfl | rfl | rfl | rfl
  · exact tFld_c h hA hA0 p hB ho
  · exact tFld_m h hA hA0 p hB ho
  · exact tFld_s h hA hA0 p hB ho
  · exact tFld_n h hA hA0 p hB ho
  · exact tFld_g h hA hA0 p hB ho
  · exact tFld_h h hA hA0 p hB ho
  · exact tFld_w h hA hA0 p hB ho
  · exact tFld_q h hA hA0 p hB ho
  · exact tFld_p h hA hA0 p hB ho
  · exact tFld_e h hA hA0 p hB ho
  · exact tFld_b h hA hA0 p hB ho
  · exact tFld_x h hA hA0 p hB ho
  · exact tFld_l h hA hA0 p hB ho hpx
end Go.Proofs.Ytgpojbmloielmaa
namespace Go.Proofs.Ytgpojbmloielmaa
set_option linter.unusedVariables false
set_option linter.unusedSimpArgs false
open Go.RowKit
def rdFlds : List Nat → Pkt → List UInt8 → Except Int (Pkt × List UInt8)
  | [], z, l => .ok (z, l)
  | f :: fs, z, l => andR (rdFld f z l) fun z l => rdFlds fs z l
theorem andR_assoc {α β γ : Type} (r : Except Int (α × List UInt8)) (f : α → List UInt8 → Except Int (β × List UInt8)) (g : β → List UInt8 → Except Int (γ × List UInt8)) : andR (andR r f) g = andR r fun a l => andR (f a l) g := by cases r <;> rfl
theorem rdFlds_append : ∀ (a b : List Nat) (z : Pkt) (l : List UInt8), rdFlds (a ++ b) z l = andR (rdFlds a z l) fun z l => rdFlds b z l
  | [], b, z, l => rfl
  | f :: a, b, z, l => by
    show andR (rdFld f z l) (fun z l => rdFlds (a ++ b) z l) = andR (andR (rdFld f z l) fun z l => rdFlds a z l) _
    rw [andR_assoc]
    congr 1
    funext z l
    exact rdFlds_append a b z l
theorem rdFlds_succ {L : List Nat} {k : Nat} (hk : k < L.length) (z : Pkt) (l : List UInt8) : (andR (rdFlds (L.take k) z l) fun q l => rdFld L[k] q l) = rdFlds (L.take (k + 1)) z l := by
  rw [List.take_succ_eq_append_getElem hk, rdFlds_append]
  congr 1
  funext q l
  show rdFld L[k] q l = andR (rdFld L[k] q l) fun z l => .ok (z, l)
  rcases rdFld L[k] q l with c | ⟨x, l2⟩ <;> rfl
theorem rdFlds_bad {L : List Nat} {k : Nat} {z : Pkt} {l : List UInt8} {c : Int} (h : rdFlds (L.take k) z l = .error c) : rdFlds L z l = .error c := by
  have := rdFlds_append (L.take k) (L.drop k) z l
  rw [List.take_append_drop, h] at this
  exact this
theorem andR_bad {α : Type} (c d : Int) (b : Bool) (l : List UInt8) (f : Unit → List UInt8 → Except Int (α × List UInt8)) : andR (rdBad c b l) f = if b = true then .error c else f () l := by cases b <;> rfl
theorem rdFlds_body (k f t : Int) (hk : 1 ≤ k ∧ k ≤ 11) (l : List UInt8) : (andR (rdFlds (rowL k) { zeroP with kind := k, frm := f, dst := t } l) fun q l => finR q l) = rdBody k f t l := by
  rcases kind_cases hk with e | e | e | e | e | e | e | e | e | e | e <;> subst e
  all_goals
    unfold rdBody
    simp only [rowL, reduceIte, Int.reduceEq, rdFlds, andR_assoc, rdFld, Nat.reduceEqDiff, rdKind_1, rdKind_2, rdKind_3, rdKind_4, rdKind_5, rdKind_6, rdKind_7, rdKind_8, rdKind_9, rdKind_10, rdKind_11]
  · rfl
  · rfl
  · rfl
  · rfl
  · rfl
  · rfl
  · congr 1
    funext c l
    unfold rdK7
    show (andR (rdN 8 l) fun a l => andR (rdN 1 l) fun n l => andR (rdBad 3 (decide (64 < n)) l) fun _ l => andR (rdExs n l) fun xs l => finR { zeroP with kind := 7, frm := f, dst := t, ce := c.1, cr := (c.2 : Int), mem := a, xs := xs } l) = _
    simp only [rdBad_if]
  · rfl
  · rfl
  · rfl
  · rfl
theorem TR.error {α : Type} {l : List UInt8} {r : List UInt8 → Except Int (α × List UInt8)} {a : α} {c : Int} (h : TR (.ok l) r a (.error c)) : r l = .error c := by
  unfold TR at h
  simp only at h
  cases hr : r l with
  | error d => rw [hr] at h; injection h with h; rw [h]
  | ok x => obtain ⟨x, l2⟩ := x; rw [hr] at h; cases h.2
theorem coreP_idem (q : Pkt) : coreP (coreP q) = coreP q := by
  unfold coreP
  simp [coreX]
theorem parse_fin {s : ByteArray} (hz : parseE s = 0) {q : Pkt} {stk : Except Int (List UInt8)} {pp : Nat} {e : Int}
    (hr : TR (.ok (parseB s).data.toList) (rdFlds (rowL (parseN s 2)) { zeroP with kind := parseN s 2, frm := parseN s 3, dst := parseN s 4 }) (coreP q) stk) (hst : StR (parseB s) pp e stk) :
    (badE e 4 (decide (pp < (parseB s).size)) = 0 → pktPE s = 0 ∧ coreP q = coreP (pktPQ s)) ∧ (badE e 4 (decide (pp < (parseB s).size)) ≠ 0 → pktPE s = badE e 4 (decide (pp < (parseB s).size)) ∧ coreP zeroP = coreP (pktPQ s)) := by
  have hR : pktR s = andR (rdFlds (rowL (parseN s 2)) { zeroP with kind := parseN s 2, frm := parseN s 3, dst := parseN s 4 } (parseB s).data.toList) fun q l => finR q l := by
    unfold pktR
    rw [if_neg (by simpa using hz), rdFlds_body _ _ _ (parseE_kind hz)]
  unfold pktPE pktPQ
  by_cases he : e = 0
  · subst he
    obtain ⟨hp, rfl⟩ := hst.1 rfl
    obtain ⟨l0, h0, h1⟩ := hr.okay
    injection h0 with h0
    subst h0
    have hlen : ((parseB s).data.toList.drop pp).length = (parseB s).size - pp := by rw [List.length_drop]; rfl
    rw [hR, h1]
    by_cases hlt : pp < (parseB s).size
    · have hf : finR (coreP q) ((parseB s).data.toList.drop pp) = .error 4 := if_pos (by rw [hlen]; omega)
      have hb : badE 0 4 (decide (pp < (parseB s).size)) = 4 := by rw [decide_eq_true hlt]; rfl
      rw [hb]
      refine ⟨fun h => absurd h (by decide), fun _ => ?_⟩
      show (match finR (coreP q) ((parseB s).data.toList.drop pp) with | .ok _ => 0 | .error c => c) = 4 ∧ coreP zeroP = coreP (match finR (coreP q) ((parseB s).data.toList.drop pp) with | .ok x => x.1 | .error _ => zeroP)
      rw [hf]
      exact ⟨rfl, rfl⟩
    · have hf : finR (coreP q) ((parseB s).data.toList.drop pp) = .ok (coreP q, (parseB s).data.toList.drop pp) := if_neg (by rw [hlen]; omega)
      have hb : badE 0 4 (decide (pp < (parseB s).size)) = 0 := by rw [decide_eq_false hlt]; rfl
      rw [hb]
      refine ⟨fun _ => ?_, fun h => absurd rfl h⟩
      show (match finR (coreP q) ((parseB s).data.toList.drop pp) with | .ok _ => 0 | .error c => c) = 0 ∧ coreP q = coreP (match finR (coreP q) ((parseB s).data.toList.drop pp) with | .ok x => x.1 | .error _ => zeroP)
      rw [hf]
      exact ⟨rfl, (coreP_idem q).symm⟩
  · have h2 := hst.2 he
    subst h2
    have h3 := hr.error
    have hb : badE e 4 (decide (pp < (parseB s).size)) = e := if_neg (fun h => he h.2)
    rw [hR, h3, hb]
    exact ⟨fun h => absurd h he, fun _ => ⟨rfl, rfl⟩⟩
theorem resP {tmps : Array Value} {W : World} {C : Array Value} {z : Int} {N : Nat} (h : W.heap[N]? = some (.cells C 35 (0, 0))) (hC : C.size = 22) (ha : tmps.getD 2 undef = .pointer (some ⟨N, 0, none⟩)) (hb : tmps.getD 3 undef = .int .i64 z) :
    (results Try.f11 tmps).run Try.prog W = .ok (.tuple #[.agg C, .int .i64 z]) W := by
  simp only [Array.getD_eq_getD_getElem?] at ha hb
  have e1 := run_loadVar_row W N 35 35 C (0, 0) _ h Try.underlying35 rfl (by rw [hC]; kernel_rfl)
  simp [results, Try.results11, ha, hb, asAddr, e1]
theorem OwnPk.more {B B' : Nat} {w : World} {q : Pkt} (h : OwnPk B w q) (hb : B' ≤ B) : OwnPk B' w q := ⟨ownMore h.got hb, ownMore h.ds hb, ownMore h.xs hb, fun x hx => ownMore (h.cs x hx) hb⟩
/-- the state of Parse behind k fields -/
structure PkS (w : World) (N P T B : Nat) (z : Pkt) (b : ByteArray) (L : List Nat) (k : Nat) (W : World) (q : Pkt) (st : Except Int (List UInt8)) : Prop where
  n : W.heap[N]? = some (.cells (pktA zeroP) 35 (0, 0))
  p : W.heap[P]? = some (.cells (pktA q) 35 (0, 0))
  t : TkS W T b (1000000 + 20000 * k) st
  o : OwnPk B W q
  bel : Below w.heap.size w W
  r : TR (.ok b.data.toList) (rdFlds (L.take k) z) (coreP q) st
  x : q.xs.length ≤ 64 * k
theorem PkS.below {w : World} {N P T B : Nat} {z : Pkt} {b : ByteArray} {L : List Nat} {k : Nat} {W W' : World} {q : Pkt} {st : Except Int (List UInt8)} (h : PkS w N P T B z b L k W q st) (hb : Below W.heap.size W W') : PkS w N P T B z b L k W' q st :=
  ⟨(hb.block _ (Array.getElem?_eq_some_iff.1 h.n).1).trans h.n, (hb.block _ (Array.getElem?_eq_some_iff.1 h.p).1).trans h.p, h.t.below hb, h.o.below hb, bt h.bel hb, h.r, h.x⟩
theorem PkS.next {w : World} {N P T B : Nat} {z : Pkt} {b : ByteArray} {L : List Nat} {k : Nat} {W W' : World} {q q' : Pkt} {st st' : Except Int (List UInt8)} (h : PkS w N P T B z b L k W q st) {f : Nat} (hfk : L[k]? = some f) (hN : N < P) (hP : P < T) (hT : T < B) (hw : w.heap.size ≤ N)
    (ho : OwnPk B W' q') (ht : TkS W' T b (1000000 + 20000 * k + 20000) st') (hkept : Kept (fun b => b = T ∨ B ≤ b) W W') (hr : TR st (rdFld f (coreP q)) (coreP q') st') (hx : q'.xs.length ≤ q.xs.length + 64) {C : Array Value} (hC : C = pktA q') :
    W'.heap[P]? = some (.cells (pktA q) 35 (0, 0)) ∧ PkS w N P T B z b L (k + 1) (W'.setRow P C) q' st' := by
  subst hC
  have hp := hkept.keep h.p (by omega)
  have hk2 := kept_setRow' W' P (pktA q')
  have hsz := (Array.getElem?_eq_some_iff.1 h.n).1
  have hb := hkept.out h.bel (by omega) (fun k hk' e => by omega)
  refine ⟨hp, ⟨hk2.keep (hkept.keep h.n (by omega)) (by omega), setRow_heap _ _ _ _ _ _ hp, (ht.kept hk2 (by omega)).le (by omega), ho.keptP hk2 (fun b hb => .inl (by omega)), ?_, ?_, ?_⟩⟩
  · exact hk2.out hb (by have := hkept.size; omega) (fun k hk' e => by omega)
  · obtain ⟨hk, hfe⟩ := List.getElem?_eq_some_iff.1 hfk
    subst hfe
    exact TR.eq (TR.bind h.r (r2 := fun q l => rdFld L[k] q l) hr) (fun l => rdFlds_succ hk z l)
  · have := h.x
    omega
set_option maxRecDepth 100000 in
set_option maxHeartbeats 16000000 in
theorem refPkParse_any (s : ByteArray) (w : World) (hs : s.size ≤ 1000000) : Calls Try.prog 11 #[.string s] w fun e w' => ParseEnd s w e w' := by
  obtain ⟨N, hN⟩ : ∃ N, N = w.heap.size := ⟨_, rfl⟩
  obtain ⟨W, hW⟩ : ∃ W, W = w.alloc (.cells (pktA zeroP) 35) := ⟨_, rfl⟩
  have hbA := ba (br w) (.cells (pktA zeroP) 35)
  have hxA := heap_alloc_new w (.cells (pktA zeroP) 35)
  rw [← hW] at hxA hbA
  rw [← hN] at hxA
  have HX := Lib.hid (And.intro hxA (And.intro hbA hN))
  have hpa := refParse_any s W hs
  obtain ⟨kk, hkk⟩ : ∃ kk, kk = parseN s 2 := ⟨_, rfl⟩
  obtain ⟨ff, hff⟩ : ∃ ff, ff = parseN s 3 := ⟨_, rfl⟩
  obtain ⟨tt, htt⟩ : ∃ tt, tt = parseN s 4 := ⟨_, rfl⟩
  obtain ⟨bb, hbb⟩ : ∃ bb, bb = parseB s := ⟨_, rfl⟩
  obtain ⟨pe, hpe⟩ : ∃ pe, pe = parseE s := ⟨_, rfl⟩
  rw [← hkk, ← hff, ← htt, ← hbb, ← hpe] at hpa
  have HPA := Lib.hid hpa
  have HV := Lib.hid (And.intro hkk (And.intro hff (And.intro htt (And.intro hbb (And.intro hpe hs)))))
  have hmz : pktA zeroP = #[.int .i64 0, .int .i64 0, .int .i64 0, .int .u64 0, .int .i64 0, .int .i64 0, .int .u32 0, .int .u64 0, .int .i64 0, .slice none 0 0, .string ⟨#[]⟩, .int .u64 0, .int .u32 0, .slice none 0 0, .int .u64 0, .int .i64 0, .int .u32 0, .int .u64 0, .int .u64 0, .int .i64 0, .int .u64 0, .slice none 0 0] := rfl
  rw [hmz] at hW
  clear hxA hbA hpa hkk hff htt hbb hpe hs
  go_enter Try.func11, Try.ntmps11
  go_upto_region 1 with (fail)
  rw [← hW, ← hN]
  clear hW hN hmz
  go_wp2_with fail
  refine HPA.out.mono ?_
  rintro e w1 ⟨rfl, hb1⟩
  have HX1 := Lib.hid (And.intro ((hb1.block _ (Array.getElem?_eq_some_iff.1 HX.out.1).1).trans HX.out.1) (bt HX.out.2.1 hb1))
  clear hb1 HPA
  obtain ⟨Z, hZ⟩ : ∃ Z, Z = pktA zeroP := ⟨_, rfl⟩
  have hbz := bld0
  rw [← hZ] at hbz
  have HZ := Lib.hid (And.intro hbz (And.intro (show Z.size = 22 by rw [hZ]; rfl) (And.intro (show Z.all (·.oneCell') = true by rw [hZ]; exact oneCell_pktA _) hZ)))
  clear hbz hZ
  by_cases hz : pe = 0
  rotate_left
  · have hz2 : (pe != 0) = true := by simpa using hz
    have hR : pktR s = .error pe := by unfold pktR; rw [← HV.out.2.2.2.2.1, if_pos hz]
    have hst : (w1.setRow N Z).heap[N]? = some (.cells Z 35 (0, 0)) := setRow_heap _ _ _ _ _ _ HX1.out.1
    have HE := Lib.hid (show ParseEnd s w (.returned (.tuple #[.agg Z, .int .i64 pe])) (w1.setRow N Z) from by
      rw [HZ.out.2.2.2]
      refine ⟨⟨zeroP, ?_, ?_, own_zero _ _⟩, (kept_setRow' w1 N _).out HX1.out.2 HX1.out.2.size (fun k hk e => by have := HX.out.2.2; omega)⟩
      · unfold pktPE; rw [hR]
      · unfold pktPQ; rw [hR])
    have HS := Lib.hid hst
    clear hR hst hz
    go_wp2_with (first
      | (refine wpList_buildZ rfl 35 #[] rfl Z (by simp only [List.map_toArray, List.map_nil]; exact HZ.out.1) ?_)
      | (refine wpList_store_row rfl 35 (.tmp 2) (.tmp 23) rfl N Z rfl rfl 35 _ HX1.out.1 (by rw [HZ.out.2.1]; kernel_rfl) (by rw [HZ.out.2.1]; rfl) HZ.out.2.2.1 ?_))
    refine bodyPost_ret (resP HS.out HZ.out.2.1 rfl rfl) rfl ?_
    exact HE.out
  subst hz
  obtain ⟨Y, hY⟩ : ∃ Y, Y = pktA { zeroP with kind := kk, frm := ff, dst := tt } := ⟨_, rfl⟩
  have hby := bldQ kk ff tt
  rw [← hY] at hby
  have HY := Lib.hid (And.intro hby (And.intro (show Y.size = 22 by rw [hY]; rfl) (And.intro (show Y.all (·.oneCell') = true by rw [hY]; exact oneCell_pktA _) hY)))
  obtain ⟨P, hP⟩ : ∃ P, P = w1.heap.size := ⟨_, rfl⟩
  have hzz := heap_alloc_new w1 (.cells (pktA zeroP) 35)
  have hbz := ba (br w1) (.cells (pktA zeroP) 35)
  rw [show pktA zeroP = #[.int .i64 0, .int .i64 0, .int .i64 0, .int .u64 0, .int .i64 0, .int .i64 0, .int .u32 0, .int .u64 0, .int .i64 0, .slice none 0 0, .string ⟨#[]⟩, .int .u64 0, .int .u32 0, .slice none 0 0, .int .u64 0, .int .i64 0, .int .u32 0, .int .u64 0, .int .u64 0, .int .i64 0, .int .u64 0, .slice none 0 0] from rfl] at hzz hbz
  rw [← hP] at hzz
  obtain ⟨w2, hw2⟩ : ∃ w2, w2 = (w1.alloc (.cells #[.int .i64 0, .int .i64 0, .int .i64 0, .int .u64 0, .int .i64 0, .int .i64 0, .int .u32 0, .int .u64 0, .int .i64 0, .slice none 0 0, .string ⟨#[]⟩, .int .u64 0, .int .u32 0, .slice none 0 0, .int .u64 0, .int .i64 0, .int .u32 0, .int .u64 0, .int .u64 0, .int .i64 0, .int .u64 0, .slice none 0 0] 35)).setRow P Y := ⟨_, rfl⟩
  have hk2 := kept_setRow' (w1.alloc (.cells #[.int .i64 0, .int .i64 0, .int .i64 0, .int .u64 0, .int .i64 0, .int .i64 0, .int .u32 0, .int .u64 0, .int .i64 0, .slice none 0 0, .string ⟨#[]⟩, .int .u64 0, .int .u32 0, .slice none 0 0, .int .u64 0, .int .i64 0, .int .u32 0, .int .u64 0, .int .u64 0, .int .i64 0, .int .u64 0, .slice none 0 0] 35)) P Y
  have hb12 : Below w1.heap.size w1 w2 := by rw [hw2]; exact hk2.out hbz hbz.size (fun k hk' e => by omega)
  have HZ2 := Lib.hid (And.intro hzz hP)
  have hp2 : w2.heap[P]? = some (.cells Y 35 (0, 0)) := by rw [hw2]; exact setRow_heap _ _ _ _ _ _ hzz
  have hs2 : w2.heap.size = P + 1 := by rw [hw2, size_setRow, hP]; simp
  have HX2 := Lib.hid (And.intro ((hb12.block _ (Array.getElem?_eq_some_iff.1 HX1.out.1).1).trans HX1.out.1) (And.intro (bt HX1.out.2 hb12) (And.intro hp2 hs2)))
  have hk := parseE_kind (s := s) HV.out.2.2.2.2.1.symm
  rw [← HV.out.1] at hk
  have hbs : bb.size ≤ 1000000 := by rw [HV.out.2.2.2.1]; exact Nat.le_trans (parseB_size s) HV.out.2.2.2.2.2
  have HKB := Lib.hid (And.intro hk hbs)
  clear hzz hbz hk2 hb12 hp2 hs2 hk hbs hby hY hP
  go_upto_region 4 with (fail)
  refine wp_region_lit ?_
  iterate 3
    refine wpList_step (fun K hK => ?_)
    go_simp
    refine hK _ _ ?_
    clear hK K
    (try simp only [Act.put, List.setIfInBounds_toArray, List.set_cons_zero, List.set_cons_succ])
  refine wpList_buildZ rfl 35 #[(0, .tmp 25), (1, .tmp 26), (2, .tmp 27)] rfl Y (by simp only [List.map_toArray, List.map_cons, List.map_nil]; exact HY.out.1) ?_
  (try simp only [Act.put, List.setIfInBounds_toArray, List.set_cons_zero, List.set_cons_succ])
  refine wpList_step (fun K hK => ?_)
  go_simp
  refine hK _ _ ?_
  clear hK K
  (try simp only [Act.put, List.setIfInBounds_toArray, List.set_cons_zero, List.set_cons_succ])
  refine wpList_store_row rfl 35 (.tmp 9) (.tmp 28) rfl P Y (by rw [HZ2.out.2]; rfl) rfl 35 _ HZ2.out.1 (by rw [HY.out.2.1]; kernel_rfl) (by rw [HY.out.2.1]; rfl) HY.out.2.2.1 ?_
  (try simp only [Act.put, List.setIfInBounds_toArray, List.set_cons_zero, List.set_cons_succ])
  refine wpList_nil ?_
  rw [← hw2, ← HZ2.out.2]
  clear hw2
  obtain ⟨T, hT⟩ : ∃ T, T = w2.heap.size := ⟨_, rfl⟩
  obtain ⟨w3, hw3⟩ : ∃ w3, w3 = w2.alloc (.cells #[.string bb, .int .i64 0, .int .i64 0] 70) := ⟨_, rfl⟩
  have hb3 := ba (br w2) (.cells #[.string bb, .int .i64 0, .int .i64 0] 70)
  have hx3 := heap_alloc_new w2 (.cells #[.string bb, .int .i64 0, .int .i64 0] 70)
  rw [← hw3] at hb3 hx3
  rw [← hT] at hx3
  have hNP : N < P := by have h1 := (Array.getElem?_eq_some_iff.1 HX1.out.1).1; have h2 := HZ2.out.2; omega
  have hPT : P < T := by have := HX2.out.2.2.2; omega
  have HPK := Lib.hid (show PkS w N P T (T + 1) { zeroP with kind := kk, frm := ff, dst := tt } bb (rowL kk) 0 w3 { zeroP with kind := kk, frm := ff, dst := tt } (.ok bb.data.toList) from by
    refine ⟨(hb3.block _ (Array.getElem?_eq_some_iff.1 HX2.out.1).1).trans HX2.out.1, by rw [← HY.out.2.2.2]; exact (hb3.block _ (Array.getElem?_eq_some_iff.1 HX2.out.2.2.1).1).trans HX2.out.2.2.1, ⟨HKB.out.2, 0, 0, hx3, by omega, ⟨fun _ => ⟨by omega, by simp⟩, fun h => absurd rfl h⟩⟩, ?_, bt HX2.out.2.1 hb3, ⟨rfl, rfl⟩, by simp [zeroP]⟩
    have := own_zero (T + 1) w3
    exact ⟨this.got, this.ds, this.xs, this.cs⟩)
  have HNPT := Lib.hid (And.intro hNP (And.intro hPT (show w.heap.size ≤ N by have := HX.out.2.2; omega)))
  have c0 : w3.cell? ⟨P, 0, none⟩ = some (.int .i64 kk) := by rw [cell_of_row _ _ 0 _ _ _ HPK.out.p]; rfl
  have HRo := Lib.hid (refRow_any kk HKB.out.1 w3)
  clear hb3 hx3 hNP hPT
  go_upto_region 6 with (fail)
  rw [← hw3, ← hT]
  clear hw3 hT
  go_wp2_with fail
  refine HRo.out.mono ?_
  rintro e w4 ⟨rfl, hb4⟩
  obtain ⟨hrs, hr5, hrg⟩ := row_get HKB.out.1
  obtain ⟨r, hr⟩ : ∃ r, r = rowB kk := ⟨_, rfl⟩
  obtain ⟨L, hL⟩ : ∃ L, L = rowL kk := ⟨_, rfl⟩
  rw [← hr, ← hL] at hrg
  rw [← hr, ← hL] at hrs
  rw [← hL] at hr5
  rw [← hr]
  obtain ⟨n, hn⟩ : ∃ n, n = L.length := ⟨_, rfl⟩
  have hrn : r.size = n := by rw [hn]; exact hrs
  have hn5 : n ≤ 5 := by rw [hn]; exact hr5
  have HPK4 := Lib.hid (show PkS w N P T (T + 1) { zeroP with kind := kk, frm := ff, dst := tt } bb L 0 w4 { zeroP with kind := kk, frm := ff, dst := tt } (.ok bb.data.toList) from by rw [hL]; exact HPK.out.below hb4)
  have HL := Lib.hid (And.intro hrg (And.intro hn hL))
  clear hrs hr5 hrg hn hL hr hb4 c0 HRo HPK
  go_wp2_with fail
  go_loopw [12] (fun i wr => ∃ (k : Nat) (q : Pkt) (stk : Except Int (List UInt8)), k ≤ n ∧ i = .int .i64 (k : Int) ∧ Hid (PkS w N P T (T + 1) { zeroP with kind := kk, frm := ff, dst := tt } bb L k wr q stk)) (fun i _ => n - (intOf i).toNat)
  case atStart => exact ⟨0, _, _, by omega, rfl, HPK4.out⟩
  case round =>
    obtain ⟨k, q, stk, hk, rfl, HK⟩ := hrel
    obtain ⟨pp, e, hat, hpA, hst⟩ := HK.out.t.ex
    have c2 : wr.cell? ⟨T, 2, none⟩ = some (.int .i64 e) := cell_of_row _ _ 2 _ _ _ hat
    by_cases hlt : k < n
    · have hbool : decide ((k : Int) < (n : Int)) = true := by simpa using hlt
      have hki : (k : Int) < (n : Int) := by omega
      by_cases he : e = 0
      · subst he
        have hkd : k < L.length := by rw [← HL.out.2.1]; exact hlt
        obtain ⟨hidx, hf⟩ := HL.out.1 k hkd
        have hfk : L[k]? = some L[k] := List.getElem?_eq_getElem hkd
        generalize L[k] = f at *
        have HF := Lib.hid (And.intro hf (And.intro hfk hlt))
        obtain ⟨C0, hC0⟩ : ∃ C0, C0 = pktA q := ⟨_, rfl⟩
        have hp0 := HK.out.p
        rw [← hC0] at hp0
        have HC0 := Lib.hid (And.intro hC0 (And.intro (show C0.size = 22 by rw [hC0]; rfl) hp0))
        clear hat hpA hst hf hfk hkd hlt hC0 hp0
        go_upto_region 10 with (fail)
        clear c2
        refine wp_region_drew_tail 5 (by kernel_rfl) (by kernel_rfl) ?_
        simp only [List.take_succ_cons, List.take_zero, List.drop_succ_cons, List.drop_zero]
        repeat (first | (refine wpQuiet_load_mid rfl 35 (.tmp 9) rfl P 0 rfl C0.toList _ (fun w' hw' => by obtain ⟨x, rfl⟩ := hw'; exact range_of_block (fr := (0, 0)) (t := 35) ((bn (br wr) x).block _ (Array.getElem?_eq_some_iff.1 HC0.out.2.2).1 |>.trans HC0.out.2.2)) Try.underlying35 rfl (by rw [Array.length_toList, HC0.out.2.1]; kernel_rfl) ?_) | go_big_quiet_step ((fail)))
        refine wpQuiet_nil ?_
        intro w9 hw9
        obtain ⟨x, rfl⟩ := hw9
        have h9 := HK.out.below (bn (br wr) x)
        have H5 := Lib.hid (show Calls Try.prog 26 #[.pointer (some ⟨T, 0, none⟩), .int .u8 (f : Int), .agg C0] _ _ from by rw [HC0.out.1]; exact tFld_any h9.t (by omega) (by omega) q (B := T + 1) ⟨by omega, by have := h9.t.lt; omega⟩ h9.o (by have := h9.x; omega) f HF.out.1)
        have H9 := Lib.hid h9
        clear h9
        have hcc : C0.toList.toArray = C0 := by simp
        go_wp2_with fail
        refine H5.out.mono ?_
        rintro en w10 ⟨q', st', rfl, ho, ht, hkp, hr, hx⟩
        obtain ⟨C1, hC1⟩ : ∃ C1, C1 = pktA q' := ⟨_, rfl⟩
        obtain ⟨hp10, hnx⟩ := H9.out.next HF.out.2.1 HNPT.out.1 HNPT.out.2.1 (by omega) HNPT.out.2.2 ho ht hkp hr hx hC1
        have HC1 := Lib.hid (And.intro (show C1.size = 22 by rw [hC1]; rfl) (And.intro (show C1.all (·.oneCell') = true by rw [hC1]; exact oneCell_pktA _) hp10))
        rw [← hC1]
        have HNX := Lib.hid hnx
        clear hC1 hp10 hnx ho ht hkp hr hx H5 hcc hidx
        go_wp2_with (refine wpList_store_row rfl 35 (.tmp 9) (.tmp 52) rfl P C1 rfl rfl 35 _ HC1.out.2.2 (by rw [HC1.out.1]; kernel_rfl) (by rw [HC1.out.1]; rfl) HC1.out.2.1 ?_)
        exact ⟨⟨k + 1, q', st', HF.out.2.2, by go_num, HNX.out⟩, measI HF.out.2.2⟩
      · have he2 : (e == 0) = false := by simpa using he
        have he3 : decide (e = 0) = false := by simpa using he
        have HFN := Lib.hid (show TR (.ok bb.data.toList) (rdFlds L { zeroP with kind := kk, frm := ff, dst := tt }) (coreP q) stk from by
          have hr := HK.out.r
          have hst0 := hst.2 he
          subst hst0
          exact TR.stay hr (fun l c hc => rdFlds_bad hc))
        clear hlt
        obtain ⟨b, hb⟩ : ∃ b : Bool, b = decide (pp < bb.size) := ⟨_, rfl⟩
        have hb2 : decide ((pp : Int) < (bb.size : Int)) = b := by rw [hb, decide_eq_decide]; omega
        have hb3 := hb.symm
        have c1 : wr.cell? ⟨T, 1, none⟩ = some (.int .i64 (pp : Int)) := cell_of_row _ _ 1 _ _ _ hat
        have HBd := Lib.hid (tBad_at hat 4 b)
        obtain ⟨e5, he5⟩ : ∃ e5, e5 = badE e 4 b := ⟨_, rfl⟩
        have HFI := Lib.hid (show (e5 = 0 → pktPE s = 0 ∧ coreP q = coreP (pktPQ s)) ∧ (e5 ≠ 0 → pktPE s = e5 ∧ coreP zeroP = coreP (pktPQ s)) from by
          have hfn := HFN.out
          rw [HL.out.2.2, HV.out.1, HV.out.2.1, HV.out.2.2.1, HV.out.2.2.2.1] at hfn
          have hst2 := hst
          rw [HV.out.2.2.2.1] at hst2
          have := parse_fin HV.out.2.2.2.2.1.symm hfn hst2
          rw [he5, hb, HV.out.2.2.2.1]
          exact this)
        rw [← he5] at HBd
        clear hat hpA hst hb he5
        go_wp2_with fail
        refine HBd.out.mono ?_
        rintro en w10 ⟨rfl, hat, hkp⟩
        clear HBd hb2 hb3 c1 c2
        have n10 := hkp.keep HK.out.n (by have := HNPT.out; omega)
        have p10 := hkp.keep HK.out.p (by have := HNPT.out; omega)
        have bel10 := hkp.out HK.out.bel HK.out.bel.size (fun k hk' e => by have := HNPT.out; omega)
        have o10 : OwnPk (T + 1) w10 q := HK.out.o.keptP hkp (fun b hb => .inl (by omega))
        have c2 : w10.cell? ⟨T, 2, none⟩ = some (.int .i64 e5) := cell_of_row _ _ 2 _ _ _ hat
        have hTl := hat.lt
        by_cases hz5 : e5 = 0
        · subst hz5
          obtain ⟨C, hC⟩ : ∃ C, C = pktA q := ⟨_, rfl⟩
          rw [← hC] at p10
          have hst : (w10.setRow N C).heap[N]? = some (.cells C 35 (0, 0)) := setRow_heap _ _ _ _ _ _ n10
          have HCC := Lib.hid (And.intro (show C.size = 22 by rw [hC]; rfl) (And.intro (show C.all (·.oneCell') = true by rw [hC]; exact oneCell_pktA _) (And.intro p10 (And.intro n10 hst))))
          have HE := Lib.hid (show ParseEnd s w (.returned (.tuple #[.agg C, .int .i64 0])) (w10.setRow N C) from by
            have hk := kept_setRow' w10 N C
            obtain ⟨g1, g2⟩ := HFI.out.1 rfl
            refine ⟨⟨q, by rw [hC, g1], g2, ?_⟩, hk.out bel10 bel10.size (fun k hk' e => by have := HNPT.out; omega)⟩
            exact OwnPk.more (o10.keptP hk (fun b hb => .inl (by have := HNPT.out; omega))) (by have := HNPT.out; omega))
          clear hC hst p10 n10 bel10 o10 hat hkp hTl
          go_wp2_with (first
            | (refine wpList_load_row rfl 35 (.tmp 9) rfl P rfl 35 C (0, 0) _ HCC.out.2.2.1 Try.underlying35 rfl (by rw [HCC.out.1]; kernel_rfl) ?_)
            | (refine wpList_store_row rfl 35 (.tmp 2) (.tmp 72) rfl N C rfl rfl 35 _ HCC.out.2.2.2.1 (by rw [HCC.out.1]; kernel_rfl) (by rw [HCC.out.1]; rfl) HCC.out.2.1 ?_))
          refine bodyPost_ret (resP HCC.out.2.2.2.2 HCC.out.1 rfl rfl) rfl ?_
          exact HE.out
        · have hz6 : (e5 != 0) = true := by simpa using hz5
          rw [← HZ.out.2.2.2] at n10
          have hd := (br w10).drew
          have hnd := (hd.block _ (Array.getElem?_eq_some_iff.1 n10).1).trans n10
          have hatd : TkAt w10.drew T bb pp e5 := hat.below hd
          have hk := kept_setRow' w10.drew N Z
          have hst : (w10.drew.setRow N Z).heap[N]? = some (.cells Z 35 (0, 0)) := setRow_heap _ _ _ _ _ _ hnd
          have hat2 : TkAt (w10.drew.setRow N Z) T bb pp e5 := hk.keep hatd (by have := HNPT.out; omega)
          have HE := Lib.hid (show ParseEnd s w (.returned (.tuple #[.agg Z, .int .i64 e5])) (w10.drew.setRow N Z) from by
            obtain ⟨g1, g2⟩ := HFI.out.2 hz5
            refine ⟨⟨zeroP, by rw [HZ.out.2.2.2, g1], g2, own_zero _ _⟩, hk.out (bt bel10 hd) (bt bel10 hd).size (fun k hk' e => by have := HNPT.out; omega)⟩)
          have HS := Lib.hid (And.intro hnd (And.intro hst (And.intro (show w10.drew.cell? ⟨T, 2, none⟩ = some (.int .i64 e5) from cell_of_row _ _ 2 _ _ _ hatd) (show (w10.drew.setRow N Z).cell? ⟨T, 2, none⟩ = some (.int .i64 e5) from cell_of_row _ _ 2 _ _ _ hat2))))
          clear hst p10 n10 bel10 o10 hat hkp hTl hd hnd hatd hk hat2
          go_upto_region 13 with (fail)
          clear c2
          refine wp_region_mask (fun w' => w'.cell? ⟨T, 2, none⟩ = some (.int .i64 e5)) 6 2 [true, true, true, true, true, false, false] #[true, true, true, true, true, false, false] (by kernel_rfl) (by kernel_rfl) (by kernel_rfl) HS.out.2.2.1 ?_
          generalize w10.drew = w11 at *
          refine wpMask_take _ (yieldsIf_build (by rfl) 35 #[] rfl Z (by simp only [List.map_toArray, List.map_nil]; exact HZ.out.1)) ?_
          simp only [Act.put, List.setIfInBounds_toArray, List.set_cons_zero, List.set_cons_succ]
          iterate 4
            refine wpMask_take _ (Or.inl ⟨by rfl, fun w' hS => by (try dsimp only at hS); go_simp; try with_reducible rfl⟩) ?_
            simp only [Act.put, List.setIfInBounds_toArray, List.set_cons_zero, List.set_cons_succ]
          refine wpMask_skip (wpMask_skip (wpMask_nil ?_))
          refine wpAnyS_ready (rs := [5]) (by kernel_rfl) (by simp) ?_
          refine AllReadyS.cons rfl (fun K hK => ?_) AllReadyS.nil
          rw [if_pos (by rfl)]
          refine wp_store_row 35 (.tmp 2) (.tmp 67) rfl N Z rfl rfl 35 _ HS.out.1 (by rw [HZ.out.2.1]; kernel_rfl) rfl HZ.out.2.2.1 ?_
          refine hK.out _ _ (fun _ => HS.out.2.2.2) ?_
          clear hK K
          simp only [Act.put, List.setIfInBounds_toArray, List.set_cons_zero, List.set_cons_succ]
          refine wpAnyS_ready (rs := [6]) (by kernel_rfl) (by simp) ?_
          refine AllReadyS.cons rfl (fun K hK => ?_) AllReadyS.nil
          go_simp
          refine hK.out _ _ (fun h => absurd h (by decide)) ?_
          clear hK K
          simp only [Act.put, List.setIfInBounds_toArray, List.set_cons_zero, List.set_cons_succ]
          refine wpAnyS_done (by kernel_rfl) ?_ _
          go_wp2_with fail
          refine bodyPost_ret (resP HS.out.2.1 HZ.out.2.1 rfl rfl) rfl ?_
          exact HE.out
    · have hbool : decide ((k : Int) < (n : Int)) = false := by simpa using hlt
      have HFN := Lib.hid (show TR (.ok bb.data.toList) (rdFlds L { zeroP with kind := kk, frm := ff, dst := tt }) (coreP q) stk from by
        have hr := HK.out.r
        rw [List.take_of_length_le (by rw [← HL.out.2.1]; omega)] at hr
        exact hr)
      have hbool' : decide (k < n) = false := by simpa using hlt
      obtain ⟨b, hb⟩ : ∃ b : Bool, b = decide (pp < bb.size) := ⟨_, rfl⟩
      have hb2 : decide ((pp : Int) < (bb.size : Int)) = b := by rw [hb, decide_eq_decide]; omega
      have hb3 := hb.symm
      have c1 : wr.cell? ⟨T, 1, none⟩ = some (.int .i64 (pp : Int)) := cell_of_row _ _ 1 _ _ _ hat
      have HBd := Lib.hid (tBad_at hat 4 b)
      obtain ⟨e5, he5⟩ : ∃ e5, e5 = badE e 4 b := ⟨_, rfl⟩
      have HFI := Lib.hid (show (e5 = 0 → pktPE s = 0 ∧ coreP q = coreP (pktPQ s)) ∧ (e5 ≠ 0 → pktPE s = e5 ∧ coreP zeroP = coreP (pktPQ s)) from by
        have hfn := HFN.out
        rw [HL.out.2.2, HV.out.1, HV.out.2.1, HV.out.2.2.1, HV.out.2.2.2.1] at hfn
        have hst2 := hst
        rw [HV.out.2.2.2.1] at hst2
        have := parse_fin HV.out.2.2.2.2.1.symm hfn hst2
        rw [he5, hb, HV.out.2.2.2.1]
        exact this)
      rw [← he5] at HBd
      clear hat hpA hst hb he5
      go_wp2_with fail
      refine HBd.out.mono ?_
      rintro en w10 ⟨rfl, hat, hkp⟩
      clear HBd hb2 hb3 c1 c2
      have n10 := hkp.keep HK.out.n (by have := HNPT.out; omega)
      have p10 := hkp.keep HK.out.p (by have := HNPT.out; omega)
      have bel10 := hkp.out HK.out.bel HK.out.bel.size (fun k hk' e => by have := HNPT.out; omega)
      have o10 : OwnPk (T + 1) w10 q := HK.out.o.keptP hkp (fun b hb => .inl (by omega))
      have c2 : w10.cell? ⟨T, 2, none⟩ = some (.int .i64 e5) := cell_of_row _ _ 2 _ _ _ hat
      have hTl := hat.lt
      by_cases hz5 : e5 = 0
      · subst hz5
        obtain ⟨C, hC⟩ : ∃ C, C = pktA q := ⟨_, rfl⟩
        rw [← hC] at p10
        have hst : (w10.setRow N C).heap[N]? = some (.cells C 35 (0, 0)) := setRow_heap _ _ _ _ _ _ n10
        have HCC := Lib.hid (And.intro (show C.size = 22 by rw [hC]; rfl) (And.intro (show C.all (·.oneCell') = true by rw [hC]; exact oneCell_pktA _) (And.intro p10 (And.intro n10 hst))))
        have HE := Lib.hid (show ParseEnd s w (.returned (.tuple #[.agg C, .int .i64 0])) (w10.setRow N C) from by
          have hk := kept_setRow' w10 N C
          obtain ⟨g1, g2⟩ := HFI.out.1 rfl
          refine ⟨⟨q, by rw [hC, g1], g2, ?_⟩, hk.out bel10 bel10.size (fun k hk' e => by have := HNPT.out; omega)⟩
          exact OwnPk.more (o10.keptP hk (fun b hb => .inl (by have := HNPT.out; omega))) (by have := HNPT.out; omega))
        clear hC hst p10 n10 bel10 o10 hat hkp hTl
        go_wp2_with (first
          | (refine wpList_load_row rfl 35 (.tmp 9) rfl P rfl 35 C (0, 0) _ HCC.out.2.2.1 Try.underlying35 rfl (by rw [HCC.out.1]; kernel_rfl) ?_)
          | (refine wpList_store_row rfl 35 (.tmp 2) (.tmp 72) rfl N C rfl rfl 35 _ HCC.out.2.2.2.1 (by rw [HCC.out.1]; kernel_rfl) (by rw [HCC.out.1]; rfl) HCC.out.2.1 ?_))
        refine bodyPost_ret (resP HCC.out.2.2.2.2 HCC.out.1 rfl rfl) rfl ?_
        exact HE.out
      · have hz6 : (e5 != 0) = true := by simpa using hz5
        rw [← HZ.out.2.2.2] at n10
        have hd := (br w10).drew
        have hnd := (hd.block _ (Array.getElem?_eq_some_iff.1 n10).1).trans n10
        have hatd : TkAt w10.drew T bb pp e5 := hat.below hd
        have hk := kept_setRow' w10.drew N Z
        have hst : (w10.drew.setRow N Z).heap[N]? = some (.cells Z 35 (0, 0)) := setRow_heap _ _ _ _ _ _ hnd
        have hat2 : TkAt (w10.drew.setRow N Z) T bb pp e5 := hk.keep hatd (by have := HNPT.out; omega)
        have HE := Lib.hid (show ParseEnd s w (.returned (.tuple #[.agg Z, .int .i64 e5])) (w10.drew.setRow N Z) from by
          obtain ⟨g1, g2⟩ := HFI.out.2 hz5
          refine ⟨⟨zeroP, by rw [HZ.out.2.2.2, g1], g2, own_zero _ _⟩, hk.out (bt bel10 hd) (bt bel10 hd).size (fun k hk' e => by have := HNPT.out; omega)⟩)
        have HS := Lib.hid (And.intro hnd (And.intro hst (And.intro (show w10.drew.cell? ⟨T, 2, none⟩ = some (.int .i64 e5) from cell_of_row _ _ 2 _ _ _ hatd) (show (w10.drew.setRow N Z).cell? ⟨T, 2, none⟩ = some (.int .i64 e5) from cell_of_row _ _ 2 _ _ _ hat2))))
        clear hst p10 n10 bel10 o10 hat hkp hTl hd hnd hatd hk hat2
        go_upto_region 13 with (fail)
        clear c2
        refine wp_region_mask (fun w' => w'.cell? ⟨T, 2, none⟩ = some (.int .i64 e5)) 6 2 [true, true, true, true, true, false, false] #[true, true, true, true, true, false, false] (by kernel_rfl) (by kernel_rfl) (by kernel_rfl) HS.out.2.2.1 ?_
        generalize w10.drew = w11 at *
        refine wpMask_take _ (yieldsIf_build (by rfl) 35 #[] rfl Z (by simp only [List.map_toArray, List.map_nil]; exact HZ.out.1)) ?_
        simp only [Act.put, List.setIfInBounds_toArray, List.set_cons_zero, List.set_cons_succ]
        iterate 4
          refine wpMask_take _ (Or.inl ⟨by rfl, fun w' hS => by (try dsimp only at hS); go_simp; try with_reducible rfl⟩) ?_
          simp only [Act.put, List.setIfInBounds_toArray, List.set_cons_zero, List.set_cons_succ]
        refine wpMask_skip (wpMask_skip (wpMask_nil ?_))
        refine wpAnyS_ready (rs := [5]) (by kernel_rfl) (by simp) ?_
        refine AllReadyS.cons rfl (fun K hK => ?_) AllReadyS.nil
        rw [if_pos (by rfl)]
        refine wp_store_row 35 (.tmp 2) (.tmp 67) rfl N Z rfl rfl 35 _ HS.out.1 (by rw [HZ.out.2.1]; kernel_rfl) rfl HZ.out.2.2.1 ?_
        refine hK.out _ _ (fun _ => HS.out.2.2.2) ?_
        clear hK K
        simp only [Act.put, List.setIfInBounds_toArray, List.set_cons_zero, List.set_cons_succ]
        refine wpAnyS_ready (rs := [6]) (by kernel_rfl) (by simp) ?_
        refine AllReadyS.cons rfl (fun K hK => ?_) AllReadyS.nil
        go_simp
        refine hK.out _ _ (fun h => absurd h (by decide)) ?_
        clear hK K
        simp only [Act.put, List.setIfInBounds_toArray, List.set_cons_zero, List.set_cons_succ]
        refine wpAnyS_done (by kernel_rfl) ?_ _
        go_wp2_with fail
        refine bodyPost_ret (resP HS.out.2.1 HZ.out.2.1 rfl rfl) rfl ?_
        exact HE.out
end Go.Proofs.Ytgpojbmloielmaa
