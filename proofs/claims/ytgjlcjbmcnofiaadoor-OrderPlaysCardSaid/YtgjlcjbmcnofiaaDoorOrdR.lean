/-
  An order's Rest; bounds in plain; an order that a law holds; awake.
  Conditions: those that each theorem names.
-/
import Derived.Test.YtgjlcjbmcnofiaaDoorOrdE
import Derived.Test.YtgjlcjbmcnofiaaDoorHoldKS
namespace Go.Proofs.YtgjlcjbmcnofiaaDoor
set_option linter.unusedVariables false
set_option linter.unusedSimpArgs false
open Go.RowKit
theorem own_base {w : World} {b b' : Nat} {e : TypeId} {sz n : Nat} {v : Value} {xs : List Value} (h : w.ownsRow b e sz v n xs) (hb : ∀ k, v.ownBlock = some k → b' ≤ k) : w.ownsRow b' e sz v n xs := by
  refine ⟨h.1, ?_⟩
  rcases h.2 with h2 | ⟨g, cap, cur, h1, h2, h3⟩
  · exact .inl h2
  · exact .inr ⟨g, cap, cur, h1, hb g (by rw [h1]; rfl), h3⟩
theorem map_filter_core {p : Msg → Bool} (hp : ∀ a b, core a = core b → p a = p b) : ∀ {l l' : List Msg}, l'.map core = l.map core → (l'.filter p).map core = (l.filter p).map core
  | [], [], _ => rfl
  | [], b :: l', h => by simp at h
  | a :: l, [], h => by simp at h
  | a :: l, b :: l', h => by
    simp only [List.map_cons, List.cons.injEq] at h
    have ih := map_filter_core hp h.2
    have e := hp b a h.1
    rw [List.filter_cons, List.filter_cons, e]
    split
    · simp [h.1, ih]
    · exact ih
/-- was a message delivered? -/
def doneB (O : PO) (m : Msg) : Bool := decide (m.seq ≤ O.dn m.frm.toNat)
def PO.rest (O : PO) : List Msg := (sortM (aboveN O.R 0 (-1) 64)).filter fun m => !doneB O m
theorem doneB_core (O : PO) (a b : Msg) (h : core a = core b) : doneB O a = doneB O b := by
  have e := core_iff.1 h
  unfold doneB
  rw [e.1, e.2.1]
set_option maxRecDepth 100000 in
set_option maxHeartbeats 4000000 in
theorem restF_any (B D Z bx : Nat) (O : PO) (x : Msg) (w : World) (hb : w.heap[B]? = some (.cells (orC O D Z) 60 (0, 0))) (hbx : w.heap[bx]? = some (.cells #[.pointer (some ⟨B, 0, none⟩)] 46 (0, 0))) (hf : x.frm = (x.frm.toNat : Int)) (hf2 : x.frm.toNat < 64) :
    Calls Tryd.prog 54 #[.agg (msgA x), .pointer (some ⟨bx, 0, none⟩)] w fun e w' => e = .returned (.bool (doneB O x)) ∧ Below w.heap.size w w' := by
  obtain ⟨w1, hw1⟩ : ∃ w1, w1 = w.alloc (.cells (msgA x) 42) := ⟨_, rfl⟩
  have hb1 : Below w.heap.size w w1 := by rw [hw1]; exact ba (br w) _
  have hx1 : w1.heap[w.heap.size]? = some (.cells (msgA x) 42 (0, 0)) := by rw [hw1]; exact heap_alloc_new w _
  obtain ⟨X, hX⟩ : ∃ X, X = w.heap.size := ⟨_, rfl⟩
  rw [← hX] at hx1
  have hB1 := (hb1.block _ (Array.getElem?_eq_some_iff.1 hb).1).trans hb
  have hbx1 := (hb1.block _ (Array.getElem?_eq_some_iff.1 hbx).1).trans hbx
  obtain ⟨q, hq⟩ : ∃ q, q = x.frm.toNat := ⟨_, rfl⟩
  rw [← hq] at hf hf2
  have x0 : ∀ y : Bel w1, y.val.cell? ⟨X, 0, none⟩ = some (.int .i64 (q : Int)) := Bel.cell (by rw [cell_of_row _ _ 0 _ _ _ hx1, ← hf]; rfl) (Array.getElem?_eq_some_iff.1 hx1).1
  have x1 : ∀ y : Bel w1, y.val.cell? ⟨X, 1, none⟩ = some (.int .u32 (x.seq : Int)) := Bel.cell (cell_of_row _ _ 1 _ _ _ hx1) (Array.getElem?_eq_some_iff.1 hx1).1
  have b0 : ∀ y : Bel w1, y.val.cell? ⟨bx, 0, none⟩ = some (.pointer (some ⟨B, 0, none⟩)) := Bel.cell (cell_of_row _ _ 0 _ _ _ hbx1) (Array.getElem?_eq_some_iff.1 hbx1).1
  have d0 : ∀ y : Bel w1, y.val.cell? ⟨B, 4 + q, none⟩ = some (.int .u32 (O.dn q : Int)) := Bel.cell (by rw [cell_of_row _ _ (4 + q) _ _ _ hB1, orC_get O D Z (by omega), orF_dn O D Z hf2]) (Array.getElem?_eq_some_iff.1 hB1).1
  have HD := Lib.hid (show doneB O x = decide (x.seq ≤ O.dn q) from by rw [hq]; rfl)
  have hq64 : (q : Int) < 64 := by omega
  obtain ⟨cx, hcx⟩ : ∃ cx, cx = msgA x := ⟨_, rfl⟩
  rw [← hcx] at hw1 ⊢
  have HW := Lib.hid (And.intro hw1 (And.intro hX hb1))
  rw [HD.out]
  obtain ⟨sq, hsq⟩ : ∃ s, s = x.seq := ⟨_, rfl⟩
  obtain ⟨d1, hd1⟩ : ∃ s, s = O.dn q := ⟨_, rfl⟩
  rw [← hsq] at x1 ⊢
  rw [← hd1] at d0 ⊢
  clear hb hbx hf hf2 hw1 hb1 hx1 hX hB1 hbx1 hq hcx hsq hd1 HD
  go_enter Tryd.func54, Tryd.ntmps54
  go_upto_region 1 with (fail)
  rw [← HW.out.1, ← HW.out.2.1]
  refine wp_region_bel (by kernel_rfl) (by kernel_rfl) ?_
  repeat (go_big_quiet_step ((fail)))
  refine wpQuiet_nil ?_
  intro w2 hw2
  have HE := Lib.hid (bt HW.out.2.2 (bel_out hw2))
  clear hw2 x0 x1 b0 d0
  go_wp2_with fail
  go_ret
  refine ⟨?_, HE.out⟩
  simp
theorem fresh_out {B B' : Nat} {w : World} {m : Msg} (h : FreshM B w m) (hB : B' ≤ B) : MsgOk w m ∧ VecT w m ∧ ∀ ad, m.da = some ad → 0 < m.ds.length → B' ≤ ad.block := by
  refine ⟨h.1, fun ad h1 h2 => ?_, fun ad h1 h2 => ?_⟩
  · obtain ⟨c, fz, hk⟩ := Lib.ownsRow_kind h.2 ad.block (by rw [h1]; rfl)
    exact ⟨c, fz, hk⟩
  · exact Nat.le_trans hB (h.2.lt ad.block (by rw [h1]; rfl)).1
/-- what Rest answers -/
def RestEnd (w : World) (O : PO) (e : Ending) (w' : World) : Prop :=
  ∃ v L, e = .returned v ∧ w'.ownsRow w.heap.size 42 6 v L.length (rowsM L) ∧ L.map core = O.rest.map core ∧ Outs w.heap.size w' L ∧ Below w.heap.size w w'
theorem mem_map_core {L L' : List Msg} (h : L.map core = L'.map core) {m : Msg} (hm : m ∈ L) : ∃ x ∈ L', core m = core x := by
  have : core m ∈ L'.map core := by rw [← h]; exact List.mem_map_of_mem hm
  obtain ⟨x, hx, e⟩ := List.mem_map.1 this
  exact ⟨x, hx, e.symm⟩
set_option maxRecDepth 100000 in
set_option maxHeartbeats 8000000 in
theorem orRest_any {w : World} {B D Z : Nat} {O : PO} {V VH : Nat → Value} (h : OrAt w B D Z O V VH) (hk : OrOk O) :
    Calls Tryd.prog 23 #[.pointer (some ⟨B, 0, none⟩)] w (RestEnd w O) := by
  obtain ⟨w1, hw1⟩ : ∃ w1, w1 = w.alloc (.cells #[.pointer (some ⟨B, 0, none⟩)] 46) := ⟨_, rfl⟩
  have hb1 : Below w.heap.size w w1 := by rw [hw1]; exact ba (br w) _
  have hx1 : w1.heap[w.heap.size]? = some (.cells #[.pointer (some ⟨B, 0, none⟩)] 46 (0, 0)) := by rw [hw1]; exact heap_alloc_new w _
  obtain ⟨X, hX⟩ : ∃ X, X = w.heap.size := ⟨_, rfl⟩
  rw [← hX] at hx1
  have h1 := h.below hb1
  have b0 : w1.cell? ⟨X, 0, none⟩ = some (.pointer (some ⟨B, 0, none⟩)) := cell_of_row _ _ 0 _ _ _ hx1
  have d0 := h1.cD
  have HA := Lib.hid (hAbove_any D O.lo O.R V 0 (-1) w1 h1.hold hk.bd hk.all hk.ds)
  have HH := Lib.hid (And.intro hb1 (And.intro hX (And.intro hx1 (And.intro h1 hk))))
  have HW := Lib.hid (And.intro hw1 hX)
  clear hw1 hb1 hx1 hX h1 h hk
  go_enter Tryd.func23, Tryd.ntmps23
  go_upto_region 1 with (fail)
  rw [← HW.out.1, ← HW.out.2]
  go_wp2_with fail
  refine HA.out.mono ?_
  rintro e w2 ⟨⟨v, L, rfl, hrow, hcor, hfr⟩, hb2⟩
  obtain ⟨g1, g2, g3, g4, g5⟩ := HH.out
  have hbx := (hb2.block _ (Array.getElem?_eq_some_iff.1 g3).1).trans g3
  have hB2 := (hb2.block _ (Array.getElem?_eq_some_iff.1 g4.blk).1).trans g4.blk
  obtain ⟨ad, cap, rfl⟩ := ownForm hrow
  have hll : L.length ≤ 1000 := by
    have e1 := congrArg List.length hcor
    rw [List.length_map, List.length_map, sortM_len] at e1
    have e2 : (aboveN O.R 0 (-1) 64).length ≤ (allN O.R 64).length := List.length_filter_le _ _
    have := g5.all
    omega
  have hfm : ∀ m ∈ L, ∃ p : Nat, p < 64 ∧ m.frm = (p : Int) := fun m hm => by
    obtain ⟨x, hx, e⟩ := mem_map_core hcor hm
    obtain ⟨p, hp, hR, _⟩ := aboveN_mem ((sortM_same _).1.mem_iff.2 hx)
    exact ⟨p, hp, by rw [(core_iff.1 e).1]; exact g5.frm p hp x hR⟩
  have hX2 : X < w2.heap.size := (Array.getElem?_eq_some_iff.1 hbx).1
  have hBw : B < w1.heap.size := g4.lt
  have hXw : X < w1.heap.size := (Array.getElem?_eq_some_iff.1 g3).1
  have HD := Lib.hid (delM_any L ad cap (doneB O) (fun _ w' => w'.heap[B]? = some (.cells (orC O D Z) 60 (0, 0)) ∧ w'.heap[X]? = some (.cells #[.pointer (some ⟨B, 0, none⟩)] 46 (0, 0))) (fun _ => False) X w2 (by omega) (own_base hrow (fun k hk => Nat.zero_le k)) (fun b hb => hb.elim) (fun b _ hb => hb.elim) ⟨hB2, hbx⟩
    (fun i wa wb hi hk => ⟨hk.keep hi.1 (fun e => by have := (hrow.lt B e).1; omega), hk.keep hi.2 (fun e => by have := (hrow.lt X e).1; omega)⟩)
    (fun i hi wa hia hka => by
      obtain ⟨p, hp, hpf⟩ := hfm L[i] (List.getElem_mem hi)
      have hpn : (L[i]).frm.toNat = p := by rw [hpf]; simp
      refine (restF_any B D Z X O L[i] wa hia.1 hia.2 (by rw [hpn]; exact hpf) (by rw [hpn]; exact hp)).mono ?_
      rintro e wc ⟨rfl, hbc⟩
      exact ⟨rfl, ⟨(hbc.block _ (Array.getElem?_eq_some_iff.1 hia.1).1).trans hia.1, (hbc.block _ (Array.getElem?_eq_some_iff.1 hia.2).1).trans hia.2⟩, Kept.of_below hbc⟩))
  have HQ := Lib.hid (show ∀ w3, Kept (fun b => (Value.slice ad L.length cap).ownBlock = some b) w2 w3 → w3.ownsRow 0 42 6 (.slice ad (L.filter fun x => !doneB O x).length cap) (L.filter fun x => !doneB O x).length (enL msgA (L.filter fun x => !doneB O x)) → RestEnd w O (.returned (.slice ad (L.filter fun x => !doneB O x).length cap)) w3 from fun w3 hk3 hr3 => by
    refine ⟨_, L.filter fun x => !doneB O x, rfl, own_base hr3 (fun k hk => ?_), ?_, fun m hm => ?_, ?_⟩
    · have hkk : (Value.slice ad L.length cap).ownBlock = some k := by cases ad <;> exact hk
      have := (hrow.lt k hkk).1
      have := g1.size
      omega
    · exact map_filter_core (fun a b e => by rw [doneB_core O a b e]) hcor
    · have hm' := (List.mem_filter.1 hm).1
      have := fresh_out (hfr m hm') g1.size
      have hc := calm_row hrow
      exact ⟨this.1.kept hk3 (this.2.1.out hc), this.2.1.kept hk3 (this.2.1.out hc), this.2.2⟩
    · refine hk3.out (bt g1 hb2) (Nat.le_trans g1.size hb2.size) (fun k hk e => ?_)
      have := (hrow.lt k e).1
      have := g1.size
      omega)
  obtain ⟨n, hn⟩ : ∃ n, n = L.length := ⟨_, rfl⟩
  rw [← hn] at HD ⊢
  clear g1 g2 g3 g4 g5 hbx hB2 hll hfm hX2 hBw hXw hrow hcor hfr hb2 HA HH HW b0 d0 hn
  go_wp2_with fail
  refine HD.out.mono ?_
  rintro e w3 ⟨rfl, hr3, hi3, hk3⟩
  have HE := Lib.hid (HQ.out w3 (hk3.more fun _ _ h => h.elim (fun h => h.elim) id) hr3)
  clear hr3 hi3 hk3 HQ HD
  go_wp2_with fail
  go_ret
  exact HE.out
end Go.Proofs.YtgjlcjbmcnofiaaDoor
namespace Go.Proofs.YtgjlcjbmcnofiaaDoor
set_option linter.unusedVariables false
set_option linter.unusedSimpArgs false
open Go.RowKit
theorem askL_o : ∀ (l : List (Nat × Nat)) (H : HZ) (p : Nat), (askL H p l).o = H.o ∧ (askL H p l).c = H.c ∧ (askL H p l).rc = H.rc
  | [], H, p => ⟨rfl, rfl, rfl⟩
  | x :: l, H, p => by
    have h1 := askL_o l (askH H p x) p
    have h2 : (askH H p x).o = H.o ∧ (askH H p x).c = H.c ∧ (askH H p x).rc = H.rc := by
      unfold askH
      split <;> exact ⟨rfl, rfl, rfl⟩
    exact ⟨h1.1.trans h2.1, h1.2.1.trans h2.2.1, h1.2.2.trans h2.2.2⟩
/-- a horizon behind k acts -/
structure InvZ (k : Nat) (H : HZ) : Prop where
  o : H.o < 18446744073709551616
  wt : ∀ p, p < 64 → (H.wt p).length ≤ k
theorem InvZ.more {k : Nat} {H : HZ} (h : InvZ k H) : InvZ (k + 1) H := ⟨h.o, fun p hp => Nat.le_succ_of_le (h.wt p hp)⟩
theorem InvZ.ok {k : Nat} {H : HZ} (h : InvZ k H) (hk : k ≤ 1000) : HzOk H := ⟨h.o, fun p hp => by have := h.wt p hp; omega⟩
theorem InvZ.count {k : Nat} {H : HZ} (h : InvZ k H) (p : Nat) : InvZ k (H.count p) := by
  unfold HZ.count
  refine ⟨?_, fun q hq => ?_⟩
  · show (askL H p (H.wt p)).o < _
    rw [(askL_o _ _ _).1]
    exact h.o
  · show (upd (askL H p (H.wt p)).wt p _ q).length ≤ k
    by_cases e : q = p
    · subst e
      rw [upd_same]
      exact Nat.le_trans (List.length_filter_le _ _) (h.wt q hq)
    · rw [upd_ne _ _ e, (askL_cm _ _ _).2]
      exact h.wt q hq
theorem InvZ.setC {k : Nat} {H : HZ} (h : InvZ k H) (x : Nat) : InvZ k (H.setC x) := ⟨h.o, h.wt⟩
theorem InvZ.came {k : Nat} {H : HZ} (h : InvZ k H) (p : Int) (q s : Nat) : InvZ k (H.came p q s) := by
  unfold HZ.came
  split
  · exact InvZ.count (H := ((H.setC (max H.c s)).setCm p.toNat q).setHd p.toNat (max (H.hd p.toNat) s)) ⟨h.o, h.wt⟩ _
  · exact h
theorem InvZ.reached {k : Nat} {H : HZ} (h : InvZ k H) (p : Int) (s : Nat) : InvZ k (H.reached p s) := by
  unfold HZ.reached
  split
  · exact ⟨h.o, h.wt⟩
  · exact h
theorem InvZ.promise {k : Nat} {H : HZ} (h : InvZ k H) (p : Int) (s n : Nat) : InvZ (k + 1) (H.promise p s n) := by
  unfold HZ.promise
  split
  · refine InvZ.count (H := (H.setC (max H.c s)).setWt p.toNat (H.wt p.toNat ++ [(s, n)])) ⟨h.o, fun q hq => ?_⟩ _
    show (upd H.wt p.toNat (H.wt p.toNat ++ [(s, n)]) q).length ≤ k + 1
    by_cases e : q = p.toNat
    · rw [e, upd_same, List.length_append, List.length_singleton]
      have := h.wt p.toNat (by omega)
      omega
    · rw [upd_ne _ _ e]
      have := h.wt q hq
      omega
  · exact h.more
/-- an order behind k acts -/
structure InvO (k : Nat) (O : PO) : Prop where
  mb : O.mb < 18446744073709551616
  hz : InvZ k O.H
  hold : InvH k O.lo O.R
  dn : ∀ p, p < 64 → O.dn p ≤ O.lo p + (O.R p).length
theorem InvO.frm {k : Nat} {O : PO} (h : InvO k O) : ∀ p, p < 64 → ∀ m ∈ O.R p, m.frm = (p : Int) := fun p hp m hm => by
  obtain ⟨j, hj, rfl⟩ := List.mem_iff_getElem.1 hm
  exact (h.hold.numb p hp j hj).1
theorem InvO.ok {k : Nat} {O : PO} (h : InvO k O) (hk : k ≤ 1000) : OrOk O :=
  ⟨h.mb, h.hz.ok hk, h.hold.bd hk, Nat.le_trans h.hold.tot hk, h.hold.ds6, h.dn, h.frm⟩
theorem InvO.more {k : Nat} {O : PO} (h : InvO k O) : InvO (k + 1) O := ⟨h.mb, h.hz.more, h.hold.more, h.dn⟩
theorem InvO.new (me : Int) (m : Nat) (hm : m < 18446744073709551616) : InvO 0 (po0 me m) :=
  ⟨withS_lt hm me, ⟨butS_lt hm _, fun p hp => by simp [po0, hz0]⟩, InvH.zero, fun p hp => Nat.zero_le _⟩
theorem InvO.take {k : Nat} {O : PO} {m m' : Msg} (h : InvO k O) (hz : takeZ O m = 0) (hc : core m' = core m) (hd : m.ds.length ≤ 20000) : InvO (k + 1) (O.take m m') := by
  unfold takeZ at hz
  split at hz
  · next hh =>
    obtain ⟨hp1, hp2⟩ := hasS_nat hh
    have hs : m.seq = O.lo m.frm.toNat + (O.R m.frm.toNat).length + 1 := by
      unfold putK at hz
      split at hz
      · exact absurd hz (by decide)
      · split at hz
        · assumption
        · exact absurd hz (by decide)
    refine ⟨h.mb, ?_, h.hold.put hp2 hp1 hs hd hc, fun q hq => ?_⟩
    · unfold PO.take
      show InvZ (k + 1) (if m.frm = O.me then O.H.setC (max O.H.c m.stamp) else O.H.came m.frm m.seq m.stamp)
      split
      · exact (h.hz.setC _).more
      · exact (h.hz.came _ _ _).more
    · have := h.dn q hq
      show O.dn q ≤ O.lo q + (upd O.R m.frm.toNat (O.R m.frm.toNat ++ [m']) q).length
      by_cases e : q = m.frm.toNat
      · subst e; rw [upd_same, List.length_append]; omega
      · rw [upd_ne _ _ e]; exact this
  · exact absurd hz (by decide)
theorem InvO.setH {k : Nat} {O : PO} {H : HZ} (h : InvO k O) (hz : InvZ k H) : InvO k { O with H := H } := ⟨h.mb, hz, h.hold, h.dn⟩
theorem drop_sum (lo : Nat → Nat) (R : Nat → List Msg) (p : Int) (u q : Nat) : dropLo lo R p u q + (dropR lo R p u q).length = lo q + (R q).length := by
  unfold dropLo dropR
  by_cases hc : dropC lo R p u = true
  · rw [if_pos hc, if_pos hc]
    unfold dropC at hc
    simp only [Bool.and_eq_true, decide_eq_true_eq] at hc
    by_cases e : q = p.toNat
    · subst e; rw [upd_same, upd_same, List.length_drop]; omega
    · rw [upd_ne _ _ e, upd_ne _ _ e]
  · rw [if_neg hc, if_neg hc]
theorem InvO.trim {k : Nat} {O : PO} (h : InvO k O) (p : Int) (u : Nat) : InvO (k + 1) (O.trim p u) := by
  refine ⟨h.mb, h.hz.more, h.hold.drop p _, fun q hq => ?_⟩
  show O.dn q ≤ dropLo O.lo O.R p (min u (doneZ O p)) q + (dropR O.lo O.R p (min u (doneZ O p)) q).length
  rw [drop_sum]
  exact h.dn q hq
theorem InvO.took {k : Nat} {O : PO} {m : Msg} (h : InvO k O) (hm : O.ripe = some m) : InvO k (O.took m) := by
  obtain ⟨p, hp, hn⟩ := head_next (ripe_head hm)
  obtain ⟨h1, h2, h3, h4⟩ := getZ_mem hn
  have hf := h.frm p h1 m h2
  have e : m.frm.toNat = p := by rw [hf]; simp
  refine ⟨h.mb, h.hz, h.hold, fun q hq => ?_⟩
  show upd O.dn m.frm.toNat (O.dn m.frm.toNat + 1) q ≤ _
  by_cases hqp : q = m.frm.toNat
  · rw [hqp, upd_same, e]; exact h4
  · rw [upd_ne _ _ hqp]; exact h.dn q hq
theorem InvO.drn {k : Nat} {O O1 : PO} {L : List Msg} (h : InvO k O) (hd : Drn O L O1) : InvO k O1 := by
  induction hd with
  | nil => exact h
  | snoc _ hr ih => exact ih.took hr
/-- what of an order the deliveries alone change -/
theorem Drn.same {O O1 : PO} {L : List Msg} (hd : Drn O L O1) : O1.me = O.me ∧ O1.mb = O.mb ∧ O1.lo = O.lo ∧ O1.R = O.R ∧ O1.H = O.H := by
  induction hd with
  | nil => exact ⟨rfl, rfl, rfl, rfl, rfl⟩
  | snoc _ _ ih => exact ih
end Go.Proofs.YtgjlcjbmcnofiaaDoor
namespace Go.Proofs.YtgjlcjbmcnofiaaDoor
set_option linter.unusedVariables false
set_option linter.unusedSimpArgs false
open Go.RowKit
/-- an order above w0 -/
structure OrH (w0 w : World) (B D Z : Nat) (O : PO) (V VH : Nat → Value) : Prop where
  at_ : OrAt w B D Z O V VH
  frm : ∀ b, orS B D Z V VH b → w0.heap.size ≤ b
  bel : Below w0.heap.size w0 w
/-- behind a step -/
def OrG (w0 w : World) (B D Z : Nat) (V VH : Nat → Value) (O' : PO) (w' : World) : Prop := ∃ V' VH', OrH w0 w' B D Z O' V' VH' ∧ Kept (orS B D Z V VH) w w' ∧ newV w V V' ∧ newV w VH VH'
section
variable {w0 w w' : World} {B D Z : Nat} {O O' : PO} {V VH : Nat → Value}
theorem OrH.tab (h : OrH w0 w B D Z O V VH) (hT : Tab w0) : TabO w B D Z V VH := ⟨hT.below h.bel hT.lt, fun e => by
  have := h.frm _ e
  have := hT.lt
  omega⟩
theorem OrH.below (h : OrH w0 w B D Z O V VH) (hb : Below w.heap.size w w') : OrH w0 w' B D Z O V VH := ⟨h.at_.below hb, h.frm, bt h.bel hb⟩
theorem OrH.go (h : OrH w0 w B D Z O V VH) (t : OrTo w B D Z V VH O' w') : OrG w0 w B D Z V VH O' w' := by
  obtain ⟨hk, V', VH', h1, n1, n2⟩ := t
  refine ⟨V', VH', ⟨h1, fun b hb => ?_, hk.out h.bel h.bel.size (fun b hb e => by have := h.frm b e; omega)⟩, hk, n1, n2⟩
  rcases orS_new n1 n2 hb with e | e
  · exact h.frm b e
  · exact Nat.le_trans h.bel.size e
theorem OrH.kept {S : Nat → Prop} (h : OrH w0 w B D Z O V VH) (hk : Kept S w w') (hs : ∀ b, orS B D Z V VH b → ¬ S b) (hc : Calm w S) (hS : ∀ b, S b → w0.heap.size ≤ b) : OrH w0 w' B D Z O V VH :=
  ⟨h.at_.kept hk hs hc, h.frm, hk.out h.bel h.bel.size (fun b hb e => by have := hS b e; omega)⟩
theorem orh_new {e : Ending} (hb : Below w0.heap.size w0 w) (h : NewOr w O e w') : ∃ B D Z, e = .returned (.pointer (some ⟨B, 0, none⟩)) ∧ OrH w0 w' B D Z O nilV nilV ∧ (∀ b, orS B D Z nilV nilV b → w.heap.size ≤ b) ∧ Below w.heap.size w w' := by
  obtain ⟨B, D, Z, he, hf, h1, h2⟩ := h
  exact ⟨B, D, Z, he, ⟨h1, fun b hb' => Nat.le_trans hb.size (hf b hb'), bt hb h2⟩, hf, h2⟩
def TakeG (w0 w : World) (B D Z : Nat) (V VH : Nat → Value) (O : PO) (m : Msg) (e : Ending) (w' : World) : Prop :=
  e = .returned (.int .i64 (takeZ O m)) ∧ ((takeZ O m ≠ 0 ∧ OrG w0 w B D Z V VH O w') ∨ (takeZ O m = 0 ∧ ∃ m', core m' = core m ∧ OrG w0 w B D Z V VH (O.take m m') w'))
theorem orhTake (h : OrH w0 w B D Z O V VH) (hk : OrOk O) (m : Msg) (hok : MsgOk w m) (hds : m.ds.length ≤ 1000000) :
    Calls Tryd.prog 17 #[.pointer (some ⟨B, 0, none⟩), .agg (msgA m)] w (TakeG w0 w B D Z V VH O m) := by
  refine (orTake_any m h.at_ hk hok hds).mono ?_
  rintro e w' ⟨he, ⟨h1, h2⟩ | ⟨h1, m', h2, h3⟩⟩
  · exact ⟨he, .inl ⟨h1, h.go h2⟩⟩
  · exact ⟨he, .inr ⟨h1, m', h2, h.go h3⟩⟩
theorem orhNext (h : OrH w0 w B D Z O V VH) (hk : OrOk O) (hT : Tab w0) :
    Calls Tryd.prog 34 #[.pointer (some ⟨B, 0, none⟩)] w fun e w' => GetEnd3 w.heap.size O.ripe e w' ∧ OrG w0 w B D Z V VH O.next w' :=
  (orNext_any h.at_ hk (h.tab hT).1).mono fun e w' ⟨h1, h2⟩ => ⟨h1, h.go h2⟩
def DrainG (w0 w : World) (B D Z : Nat) (V VH : Nat → Value) (O : PO) (e : Ending) (w' : World) : Prop :=
  ∃ L L' O' v, Drn O L O' ∧ O'.ripe = none ∧ e = .returned v ∧ w'.ownsRow w.heap.size 42 6 v L'.length (rowsM L') ∧ L'.map core = L.map core ∧ Outs w.heap.size w' L' ∧ (∃ V' VH', OrH w0 w' B D Z O' V' VH' ∧ Kept (orS B D Z V VH) w w' ∧ newV w V V' ∧ newV w VH VH' ∧ ∀ b, v.ownBlock = some b → ¬ orS B D Z V' VH' b)
theorem orhDrain (h : OrH w0 w B D Z O V VH) (hk : OrOk O) (hT : Tab w0) :
    Calls Tryd.prog 20 #[.pointer (some ⟨B, 0, none⟩)] w (DrainG w0 w B D Z V VH O) := by
  refine (orDrain_any h.at_ hk (h.tab hT)).mono ?_
  rintro e w' ⟨L, L', O', v, V1, VH1, h1, h2, h3, h4, h5, h6, h7, h8⟩
  refine ⟨L, L', O', v, h1, h2, h3, h4, h5, h6, V1, VH1, ⟨h7.at_, fun b hb => ?_, h7.kept.out h.bel h.bel.size (fun b hb e => by have := h.frm b e; omega)⟩, h7.kept, h7.n1, h7.n2, h8⟩
  rcases orS_new h7.n1 h7.n2 hb with e | e
  · exact h.frm b e
  · exact Nat.le_trans h.bel.size e
theorem orhReached (h : OrH w0 w B D Z O V VH) (hk : OrOk O) (p : Int) (s : Nat) :
    Calls Tryd.prog 19 #[.pointer (some ⟨Z, 0, none⟩), .int .i64 p, .int .u64 (s : Int)] w fun e w' => e = .returned (.tuple #[]) ∧ OrG w0 w B D Z V VH { O with H := O.H.reached p s } w' :=
  (hzReached_any Z O.H VH p s w h.at_.hz hk.hz.o).mono fun e w' h1 => ⟨h1.1, h.go (h.at_.stepHzEnd h1)⟩
theorem orhPromise (h : OrH w0 w B D Z O V VH) (hk : OrOk O) (p : Int) (s n : Nat) :
    Calls Tryd.prog 18 #[.pointer (some ⟨Z, 0, none⟩), .int .i64 p, .int .u64 (s : Int), .int .u32 (n : Int)] w fun e w' => e = .returned (.tuple #[]) ∧ OrG w0 w B D Z V VH { O with H := O.H.promise p s n } w' :=
  (hzPromise_any Z O.H VH p s n w h.at_.hz hk.hz).mono fun e w' h1 => ⟨h1.1, h.go (h.at_.stepHzEnd h1)⟩
theorem orhTrim (h : OrH w0 w B D Z O V VH) (hk : OrOk O) (p : Int) (u : Nat) (hu : u < 4294967296) :
    Calls Tryd.prog 21 #[.pointer (some ⟨B, 0, none⟩), .int .i64 p, .int .u32 (u : Int)] w fun e w' => e = .returned (.tuple #[]) ∧ OrG w0 w B D Z V VH (O.trim p u) w' :=
  (orTrim_any p u h.at_ hk hu).mono fun e w' ⟨h1, h2⟩ => ⟨h1, h.go h2⟩
theorem OrH.cZ (h : OrH w0 w B D Z O V VH) : w.cell? ⟨B, 1, none⟩ = some (.pointer (some ⟨Z, 0, none⟩)) := h.at_.cell (i := 1) (by decide)
end
end Go.Proofs.YtgjlcjbmcnofiaaDoor
namespace Go.Proofs.YtgjlcjbmcnofiaaDoor
set_option linter.unusedVariables false
set_option linter.unusedSimpArgs false
open Go.RowKit
def aw1 : Msg := ⟨1, 1, 4, 0, [], ⟨#[]⟩, none, 0⟩
def aw2 : Msg := ⟨0, 1, 4, 2, [], ⟨#[]⟩, none, 0⟩
def aw3 : Msg := ⟨2, 1, 0, 0, [], ⟨#[]⟩, none, 0⟩
def awO0 : PO := po0 0 3
theorem core_of {m : Msg} {f : Int} {q s : Nat} {v : Int} {d : List Nat} {p : ByteArray} {a : Option Addr} {c : Nat} (h : core m = core ⟨f, q, s, v, d, p, a, c⟩) : ∃ a c, m = ⟨f, q, s, v, d, p, a, c⟩ := by
  obtain ⟨h1, h2, h3, h4, h5, h6⟩ := core_iff.1 h
  obtain ⟨_, _, _, _, _, _, a', c'⟩ := m
  simp only at h1 h2 h3 h4 h5 h6
  subst h1; subst h2; subst h3; subst h4; subst h5; subst h6
  exact ⟨a', c', rfl⟩
theorem aw_t1 : takeZ awO0 aw1 = 0 := by kernel_rfl
theorem aw_t2 (a1 : Option Addr) (c1 : Nat) : takeZ (awO0.take aw1 ⟨1, 1, 4, 0, [], ⟨#[]⟩, a1, c1⟩) aw2 = 0 := by kernel_rfl
def awO2 (a1 : Option Addr) (c1 : Nat) (a2 : Option Addr) (c2 : Nat) : PO := (awO0.take aw1 ⟨1, 1, 4, 0, [], ⟨#[]⟩, a1, c1⟩).take aw2 ⟨0, 1, 4, 2, [], ⟨#[]⟩, a2, c2⟩
theorem aw_t3 (a1 : Option Addr) (c1 : Nat) (a2 : Option Addr) (c2 : Nat) : takeZ (awO2 a1 c1 a2 c2) aw3 = 5 := by kernel_rfl
theorem aw_n (a1 : Option Addr) (c1 : Nat) (a2 : Option Addr) (c2 : Nat) : (awO2 a1 c1 a2 c2).ripe = none := by kernel_rfl
def awO3 (a1 : Option Addr) (c1 : Nat) (a2 : Option Addr) (c2 : Nat) : PO := { awO2 a1 c1 a2 c2 with H := (awO2 a1 c1 a2 c2).H.reached 1 4 }
theorem aw_r1 (a1 : Option Addr) (c1 : Nat) (a2 : Option Addr) (c2 : Nat) : (awO3 a1 c1 a2 c2).ripe = some ⟨0, 1, 4, 2, [], ⟨#[]⟩, a2, c2⟩ := by kernel_rfl
def awO4 (a1 : Option Addr) (c1 : Nat) (a2 : Option Addr) (c2 : Nat) : PO := (awO3 a1 c1 a2 c2).took ⟨0, 1, 4, 2, [], ⟨#[]⟩, a2, c2⟩
theorem aw_r2 (a1 : Option Addr) (c1 : Nat) (a2 : Option Addr) (c2 : Nat) : (awO4 a1 c1 a2 c2).ripe = some ⟨1, 1, 4, 0, [], ⟨#[]⟩, a1, c1⟩ := by kernel_rfl
def awO5 (a1 : Option Addr) (c1 : Nat) (a2 : Option Addr) (c2 : Nat) : PO := (awO4 a1 c1 a2 c2).took ⟨1, 1, 4, 0, [], ⟨#[]⟩, a1, c1⟩
theorem aw_r3 (a1 : Option Addr) (c1 : Nat) (a2 : Option Addr) (c2 : Nat) : (awO5 a1 c1 a2 c2).ripe = none := by kernel_rfl
theorem aw_rest (a1 : Option Addr) (c1 : Nat) (a2 : Option Addr) (c2 : Nat) : (awO5 a1 c1 a2 c2).rest = [] := by kernel_rfl
theorem aw_d (a1 : Option Addr) (c1 : Nat) (a2 : Option Addr) (c2 : Nat) : doneZ (awO5 a1 c1 a2 c2) 1 = 1 ∧ (awO5 a1 c1 a2 c2).ls = 4 ∧ (awO5 a1 c1 a2 c2).lf = 1 := ⟨by kernel_rfl, by kernel_rfl, by kernel_rfl⟩
theorem aw_set : withAll 0 [0, 1] = 3 := by kernel_rfl
set_option maxRecDepth 100000 in
set_option maxHeartbeats 8000000 in
theorem awake14_any (w : World) (hT : Tab w) : Calls Tryd.prog 8 #[] w fun e w' => e = .returned (.bool true) ∧ Below w.heap.size w w' := by
  have hz1 : ∀ W : World, (Instr.build 42 #[(0, .int .i64 1), (1, .int .u32 1), (2, .int .u64 4)]).run Tryd.prog W = .ok (.agg (msgA aw1)) W := fun W => by kernel_rfl
  have hz2 : ∀ W : World, (Instr.build 42 #[(0, .int .i64 0), (1, .int .u32 1), (2, .int .u64 4), (3, .int .i64 2)]).run Tryd.prog W = .ok (.agg (msgA aw2)) W := fun W => by kernel_rfl
  have hz3 : ∀ W : World, (Instr.build 42 #[(0, .int .i64 2), (1, .int .u32 1)]).run Tryd.prog W = .ok (.agg (msgA aw3)) W := fun W => by kernel_rfl
  have HT := Lib.hid hT
  have HOf := Lib.hid (show Calls Tryd.prog 33 #[.slice (some ⟨w.heap.size, 0, none⟩) 2 2] (w.alloc (.cells #[.int .i64 0, .int .i64 1] 3)) fun e w' => e = .returned (.int .u64 3) ∧ w.alloc (.cells #[.int .i64 0, .int .i64 1] 3) = w' from by
    have := setOf_any [0, 1] (some ⟨w.heap.size, 0, none⟩) 2 (w.alloc (.cells #[.int .i64 0, .int .i64 1] 3)) (by simp) ⟨rfl, fun _ => ⟨_, rfl, by simp, fun j u hu => new_cells w [.int .i64 0, .int .i64 1] 3 j u hu⟩⟩
    rw [aw_set] at this
    exact this)
  clear hT
  go_enter Tryd.func8, Tryd.ntmps8
  go_wp2_with fail
  refine HOf.out.mono ?_
  rintro e w1 ⟨rfl, hw1⟩
  have hb1 : Below w.heap.size w w1 := by rw [← hw1]; exact ba (br w) _
  have HB1 := Lib.hid hb1
  clear hw1 hb1 HOf
  go_wp2_with fail
  refine (orNew_any 0 3 w1 (by decide)).mono ?_
  rintro e w2 hn
  obtain ⟨B, D, Z, rfl, h2, _, _⟩ := orh_new HB1.out hn
  have hO : po0 0 3 = awO0 := rfl
  rw [hO] at h2
  have i2 : InvO 0 awO0 := InvO.new 0 3 (by decide)
  have HC1 := Lib.hid (orhTake h2 (i2.ok (by decide)) aw1 ⟨by decide, by decide, by decide, by decide, fun i hi => absurd hi (by simp [aw1])⟩ (by decide))
  have I2 := Lib.hid i2
  clear h2 i2 hn hO HB1
  go_wp2_with fail
  refine HC1.out.mono ?_
  rintro e w3 ⟨rfl, ⟨hne, _⟩ | ⟨_, m1, hc1, V1, VH1, h3, _⟩⟩
  · exact absurd aw_t1 hne
  rw [aw_t1]
  obtain ⟨a1, c1, rfl⟩ := core_of hc1
  have i3 := I2.out.take aw_t1 hc1 (by decide)
  have HC2 := Lib.hid (orhTake h3 (i3.ok (by decide)) aw2 ⟨by decide, by decide, by decide, by decide, fun i hi => absurd hi (by simp [aw2])⟩ (by decide))
  have I3 := Lib.hid i3
  clear h3 i3 hc1 HC1 I2
  go_wp2_with fail
  refine HC2.out.mono ?_
  rintro e w4 ⟨rfl, ⟨hne, _⟩ | ⟨_, m2, hc2, V2, VH2, h4, _⟩⟩
  · exact absurd (aw_t2 a1 c1) hne
  rw [aw_t2]
  obtain ⟨a2, c2, rfl⟩ := core_of hc2
  have i4 : InvO 2 (awO2 a1 c1 a2 c2) := I3.out.take (aw_t2 a1 c1) hc2 (by decide)
  have HC3 := Lib.hid (orhTake (O := awO2 a1 c1 a2 c2) h4 (i4.ok (by decide)) aw3 ⟨by decide, by decide, by decide, by decide, fun i hi => absurd hi (by simp [aw3])⟩ (by decide))
  have I4 := Lib.hid i4
  clear h4 i4 hc2 HC2 I3
  go_wp2_with fail
  refine HC3.out.mono ?_
  rintro e w5 ⟨rfl, hor⟩
  have hg5 : OrG w w4 B D Z V2 VH2 (awO2 a1 c1 a2 c2) w5 := hor.elim (fun h => h.2) (fun h => absurd ((aw_t3 a1 c1 a2 c2).symm.trans h.1) (by decide))
  obtain ⟨V3, VH3, h5, _⟩ := hg5
  clear hor
  rw [aw_t3]
  have HC4 := Lib.hid (orhNext h5 (I4.out.ok (by decide)) HT.out)
  rw [aw_n, show (awO2 a1 c1 a2 c2).next = awO2 a1 c1 a2 c2 from by unfold PO.next; rw [aw_n]] at HC4
  clear h5 HC3
  go_wp2_with fail
  refine HC4.out.mono ?_
  rintro e w6 ⟨rfl, V4, VH4, h6, _⟩
  obtain ⟨w7, hw7⟩ : ∃ w7, w7 = w6.alloc (.cells (msgA zeroM) 42) := ⟨_, rfl⟩
  have hb7 : Below w6.heap.size w6 w7 := by rw [hw7]; exact ba (br w6) _
  have h7 := h6.below hb7
  have cz := h7.cZ
  have HC5 := Lib.hid (orhReached h7 (I4.out.ok (by decide)) 1 4)
  have hmz : msgA zeroM = #[.int .i64 0, .int .u32 0, .int .u64 0, .int .i64 0, .slice none 0 0, .string ⟨#[]⟩] := rfl
  rw [hmz] at hw7 ⊢
  have HW7 := Lib.hid hw7
  clear h6 h7 hb7 hw7 hmz HC4
  go_upto_region 8 with (fail)
  rw [← HW7.out]
  go_wp2_with fail
  refine HC5.out.mono ?_
  rintro e w8 ⟨rfl, V5, VH5, h8, _⟩
  have i8 : InvO 2 (awO3 a1 c1 a2 c2) := I4.out.setH (I4.out.hz.reached 1 4)
  have HC6 := Lib.hid (orhDrain (O := awO3 a1 c1 a2 c2) h8 (i8.ok (by decide)) HT.out)
  have I8 := Lib.hid i8
  clear h8 HC5 HW7 cz i8 I4
  go_wp2_with fail
  refine HC6.out.mono ?_
  rintro e w9 ⟨L, L', O', v, hd, hnr, rfl, how, hcor, _, V6, VH6, h9, _⟩
  obtain ⟨rfl, rfl⟩ := (Drn.snoc (Drn.snoc (Drn.nil _) (aw_r1 a1 c1 a2 c2)) (aw_r2 a1 c1 a2 c2)).uniq (aw_r3 a1 c1 a2 c2) hd hnr
  have hlen : L'.length = 2 := by
    have := congrArg List.length hcor
    rw [List.length_map] at this
    exact this
  obtain ⟨x, y, rfl⟩ : ∃ x y, L' = [x, y] := by
    match L', hlen with
    | [x, y], _ => exact ⟨x, y, rfl⟩
  have hx0 : x.frm = 0 := by
    have := (List.cons.inj hcor).1
    exact (core_iff.1 this).1
  obtain ⟨g, cap, rfl, _, hg⟩ := how.form (by simp)
  have hcell : w9.cell? ⟨g, 0, none⟩ = some (.int .i64 0) := by
    have := how.cells (g := g) rfl 0 (.int .i64 x.frm) rfl
    rw [hx0] at this
    exact this
  have e9 : (((awO3 a1 c1 a2 c2).took ⟨0, 1, 4, 2, [], ⟨#[]⟩, a2, c2⟩).took ⟨1, 1, 4, 0, [], ⟨#[]⟩, a1, c1⟩) = awO5 a1 c1 a2 c2 := rfl
  rw [e9] at h9 hd
  have i9 : InvO 2 (awO5 a1 c1 a2 c2) := I8.out.drn hd
  obtain ⟨d1, d2, d3⟩ := aw_d a1 c1 a2 c2
  have HLa := Lib.hid (orLast_any h9.at_)
  rw [d2, d3] at HLa
  have HDo := Lib.hid (fun (W : World) (hb : Below w9.heap.size w9 W) => orDone_any 1 (h9.at_.below hb))
  have HRe := Lib.hid (fun (W : World) (hb : Below w9.heap.size w9 W) => orRest_any (h9.at_.below hb) (i9.ok (by decide)))
  have HD1 := Lib.hid d1
  have HB9 := Lib.hid h9.bel
  have HH := Lib.hid h9
  clear h9 i9 e9 d1 d2 d3 hd hnr hcor how hlen hx0 I8 HC6
  rw [show [x, y].length = 2 from rfl]
  go_wp2_with fail
  refine HLa.out.mono ?_
  rintro e w10 ⟨rfl, hb10⟩
  have HB10 := Lib.hid hb10
  clear hb10 HLa
  go_wp2_with fail
  refine (HDo.out _ HB10.out).mono ?_
  rintro e w11 ⟨rfl, rfl⟩
  rw [HD1.out]
  clear HDo
  go_wp2_with fail
  refine (HRe.out _ HB10.out).mono ?_
  rintro e w12 ⟨v12, L12, rfl, how, hcor, _, hb12⟩
  rw [aw_rest] at hcor
  obtain rfl : L12 = [] := List.map_eq_nil_iff.1 hcor
  obtain ⟨a12, c12, rfl⟩ := ownForm how
  have HE := Lib.hid (bt HB9.out (bt HB10.out hb12))
  clear how hcor hb12 HRe
  go_wp2_with fail
  go_ret
  exact ⟨rfl, HE.out⟩
end Go.Proofs.YtgjlcjbmcnofiaaDoor
