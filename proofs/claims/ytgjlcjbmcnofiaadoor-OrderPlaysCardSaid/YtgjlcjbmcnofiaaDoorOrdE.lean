/-
  An order's Drain: all that are ripe.
  Conditions: those that each theorem names.
-/
import Derived.Test.YtgjlcjbmcnofiaaDoorOrdD
namespace Go.Proofs.YtgjlcjbmcnofiaaDoor
set_option linter.unusedVariables false
set_option linter.unusedSimpArgs false
open Go.RowKit
theorem sum_le {f g : Nat → Nat} (h : ∀ q, g q ≤ f q) : ∀ n, ((List.range n).map g).sum ≤ ((List.range n).map f).sum
  | 0 => by simp
  | n + 1 => by
    have := sum_le h n
    have := h n
    simp [List.range_succ]
    omega
theorem sum_dec {f g : Nat → Nat} {p : Nat} (h : ∀ q, g q ≤ f q) (hlt : g p < f p) : ∀ n, p < n → ((List.range n).map g).sum < ((List.range n).map f).sum
  | 0, hp => absurd hp (by omega)
  | n + 1, hp => by
    have hn := h n
    simp only [List.range_succ, List.map_append, List.map_cons, List.map_nil, List.sum_append, List.sum_cons, List.sum_nil, Nat.add_zero]
    by_cases hpn : p = n
    · subst hpn
      have := sum_le h p
      omega
    · have := sum_dec h hlt n (by omega)
      omega
/-- how many may still be delivered -/
def PO.room (O : PO) : Nat := ((List.range 64).map fun p => O.lo p + (O.R p).length - O.dn p).sum
theorem ripe_head {O : PO} {m : Msg} (h : O.ripe = some m) : O.head = some m := by
  unfold PO.ripe at h
  cases hh : O.head with
  | none => rw [hh] at h; cases h
  | some x =>
    rw [hh] at h
    simp only at h
    split at h
    · cases h
    · exact h
theorem room_took {O : PO} {m : Msg} (hk : OrOk O) (h : O.ripe = some m) : (O.took m).room < O.room := by
  obtain ⟨p, hp, hn⟩ := head_next (ripe_head h)
  obtain ⟨h1, h2, h3, h4⟩ := getZ_mem hn
  have hf := hk.frm p h1 m h2
  have e : m.frm.toNat = p := by rw [hf]; simp
  unfold PO.room
  refine sum_dec (p := p) (fun q => ?_) ?_ 64 h1
  · show O.lo q + (O.R q).length - upd O.dn m.frm.toNat (O.dn m.frm.toNat + 1) q ≤ _
    by_cases hq : q = m.frm.toNat
    · rw [hq, upd_same]; omega
    · rw [upd_ne _ _ hq]; exact Nat.le_refl _
  · show O.lo p + (O.R p).length - upd O.dn m.frm.toNat (O.dn m.frm.toNat + 1) p < _
    rw [e, upd_same]
    omega
theorem took_ok {O : PO} {m : Msg} (hk : OrOk O) (h : O.ripe = some m) : OrOk (O.took m) := by
  obtain ⟨p, hp, hn⟩ := head_next (ripe_head h)
  obtain ⟨h1, h2, h3, h4⟩ := getZ_mem hn
  have hf := hk.frm p h1 m h2
  have e : m.frm.toNat = p := by rw [hf]; simp
  refine ⟨hk.mb, hk.hz, hk.bd, hk.all, hk.ds, fun q hq => ?_, hk.frm⟩
  show upd O.dn m.frm.toNat (O.dn m.frm.toNat + 1) q ≤ _
  by_cases hqp : q = m.frm.toNat
  · rw [hqp, upd_same, e]; exact h4
  · rw [upd_ne _ _ hqp]; exact hk.dn q hq
theorem next_ok {O : PO} (hk : OrOk O) : OrOk O.next := by
  unfold PO.next
  cases h : O.ripe with
  | none => exact hk
  | some m => exact took_ok hk h
/-- some are delivered, one by one -/
inductive Drn : PO → List Msg → PO → Prop
  | nil (O : PO) : Drn O [] O
  | snoc {O O1 : PO} {L : List Msg} {m : Msg} : Drn O L O1 → O1.ripe = some m → Drn O (L ++ [m]) (O1.took m)
theorem Drn.ok {O O1 : PO} {L : List Msg} (h : Drn O L O1) (hk : OrOk O) : OrOk O1 ∧ L.length + O1.room ≤ O.room := by
  induction h with
  | nil => exact ⟨hk, by simp⟩
  | snoc h hr ih =>
    obtain ⟨i1, i2⟩ := ih
    have := room_took i1 hr
    exact ⟨took_ok i1 hr, by rw [List.length_append, List.length_singleton]; omega⟩
theorem Drn.cons {O O1 : PO} {m : Msg} {L : List Msg} (hm : O.ripe = some m) (h : Drn (O.took m) L O1) : Drn O (m :: L) O1 := by
  generalize hX : O.took m = X at h
  induction h with
  | nil =>
    rw [← hX]
    exact Drn.snoc (L := []) (Drn.nil O) hm
  | snoc h hr ih => exact Drn.snoc ih hr
theorem Drn.uncons {O O1 : PO} {L : List Msg} (h : Drn O L O1) : (L = [] ∧ O1 = O) ∨ ∃ m L', L = m :: L' ∧ O.ripe = some m ∧ Drn (O.took m) L' O1 := by
  induction h with
  | nil => exact .inl ⟨rfl, rfl⟩
  | snoc h hr ih =>
    rcases ih with ⟨rfl, rfl⟩ | ⟨m, L', rfl, h1, h2⟩
    · exact .inr ⟨_, [], rfl, hr, Drn.nil _⟩
    · exact .inr ⟨m, _, rfl, h1, Drn.snoc h2 hr⟩
/-- what is delivered is told by the order -/
theorem Drn.uniq {O O1 : PO} {L : List Msg} (h : Drn O L O1) (hr : O1.ripe = none) : ∀ {L2 : List Msg} {O2 : PO}, Drn O L2 O2 → O2.ripe = none → L2 = L ∧ O2 = O1 := by
  induction L generalizing O with
  | nil =>
    intro L2 O2 h2 hr2
    rcases h.uncons with ⟨_, rfl⟩ | ⟨m, L', e, _, _⟩
    · rcases h2.uncons with ⟨rfl, rfl⟩ | ⟨m, L', rfl, e, _⟩
      · exact ⟨rfl, rfl⟩
      · rw [hr] at e; cases e
    · cases e
  | cons m L ih =>
    intro L2 O2 h2 hr2
    rcases h.uncons with ⟨e, _⟩ | ⟨m', L', e, h3, h4⟩
    · cases e
    · injection e with e1 e2
      subst e1; subst e2
      rcases h2.uncons with ⟨rfl, rfl⟩ | ⟨m2, L3, rfl, h5, h6⟩
      · rw [h3] at hr2; cases hr2
      · rw [h3] at h5
        injection h5 with h5
        subst h5
        obtain ⟨i1, i2⟩ := ih h4 h6 hr2
        exact ⟨by rw [i1], i2⟩
/-- the table of math/bits lies apart -/
def TabO (w : World) (B D Z : Nat) (V VH : Nat → Value) : Prop := Tab w ∧ ¬ orS B D Z V VH 0
structure OrSt (w : World) (B D Z : Nat) (V VH : Nat → Value) (O : PO) (wr : World) (V1 VH1 : Nat → Value) : Prop where
  at_ : OrAt wr B D Z O V1 VH1
  kept : Kept (orS B D Z V VH) w wr
  n1 : newV w V V1
  n2 : newV w VH VH1
theorem OrSt.tab {w wr : World} {B D Z : Nat} {V VH V1 VH1 : Nat → Value} {O : PO} (h : OrSt w B D Z V VH O wr V1 VH1) (hT : TabO w B D Z V VH) : TabO wr B D Z V1 VH1 := by
  refine ⟨hT.1.kept h.kept hT.2, fun e => ?_⟩
  rcases orS_new h.n1 h.n2 e with e | e
  · exact hT.2 e
  · have := hT.1.lt
    omega
theorem OrSt.below {w wr w' : World} {B D Z : Nat} {V VH V1 VH1 : Nat → Value} {O : PO} (h : OrSt w B D Z V VH O wr V1 VH1) (hb : Below wr.heap.size wr w') : OrSt w B D Z V VH O w' V1 VH1 := ⟨h.at_.below hb, h.kept.trans (Kept.of_below hb), h.n1, h.n2⟩
/-- what is new, and apart from the order, may be written -/
theorem OrSt.aside {w wr w' : World} {B D Z : Nat} {V VH V1 VH1 : Nat → Value} {O : PO} {S : Nat → Prop} (h : OrSt w B D Z V VH O wr V1 VH1) (hk : Kept S wr w') (hS : ∀ b, S b → w.heap.size ≤ b ∧ ¬ orS B D Z V1 VH1 b) (hc : Calm wr S) : OrSt w B D Z V VH O w' V1 VH1 := by
  refine ⟨h.at_.kept hk (fun b hb e => (hS b e).2 hb) hc, ⟨hk.os.trans h.kept.os, hk.tape.trans h.kept.tape, hk.output.trans h.kept.output, Nat.le_trans h.kept.size hk.size, fun i hi hs => (hk.block i (Nat.lt_of_lt_of_le hi h.kept.size) (fun e => ?_)).trans (h.kept.block i hi hs)⟩, h.n1, h.n2⟩
  have := (hS i e).1
  omega
theorem OrSt.next {w wr w' : World} {B D Z : Nat} {V VH V1 VH1 : Nat → Value} {O O' : PO} (h : OrSt w B D Z V VH O wr V1 VH1) (ht : OrTo wr B D Z V1 VH1 O' w') : ∃ V2 VH2, OrSt w B D Z V VH O' w' V2 VH2 ∧ (∀ b, b < wr.heap.size → ¬ orS B D Z V1 VH1 b → ¬ orS B D Z V2 VH2 b) := by
  obtain ⟨hk, V2, VH2, h2, n1, n2⟩ := ht
  have hh := OrTo.trans (V := V) (VH := VH) h.kept h.n1 h.n2 ⟨hk, V2, VH2, h2, n1, n2⟩
  refine ⟨V2, VH2, ⟨h2, hh.1, newV_trans h.n1 n1 h.kept.size, newV_trans h.n2 n2 h.kept.size⟩, fun b hb hn e => ?_⟩
  rcases orS_new n1 n2 e with e | e
  · exact hn e
  · omega
/-- messages that were handed out: each vector is new, and lies apart -/
def Outs (b0 : Nat) (w : World) (L : List Msg) : Prop := ∀ m ∈ L, MsgOk w m ∧ VecT w m ∧ ∀ ad, m.da = some ad → 0 < m.ds.length → b0 ≤ ad.block
theorem Outs.keptC {b0 : Nat} {w w' : World} {L : List Msg} {S : Nat → Prop} (h : Outs b0 w L) (hk : Kept S w w') (hc : Calm w S) : Outs b0 w' L := fun m hm => by
  obtain ⟨h1, h2, h3⟩ := h m hm
  exact ⟨h1.kept hk (h2.out hc), h2.kept hk (h2.out hc), h3⟩
theorem calm_row {w : World} {base n sz : Nat} {v : Value} {xs : List Value} (h : w.ownsRow base 42 sz v n xs) : Calm w (fun b => v.ownBlock = some b) := fun b hb cs fr hc => by
  obtain ⟨c, fz, hk⟩ := Lib.ownsRow_kind h b hb
  rw [hk] at hc
  injection hc with hc
  injection hc with _ hc _
  exact absurd hc (by decide)
theorem calm_msg {w : World} {b : Nat} {cs : Array Value} {fr : Nat × Nat} (h : w.heap[b]? = some (.cells cs 42 fr)) : Calm w (fun k => k = b) := fun k hk cs' fr' hc => by
  subst hk
  rw [h] at hc
  injection hc with hc
  injection hc with _ hc _
  exact absurd hc (by decide)
theorem wpList_buildSlice_row {P : Program} {ops : Array Oper} {rest : List Oper} {o : Oper} {a : Act} {w : World} {Q : Exit → Act → World → Prop} (hgd : o.guard = none) (t : TypeId) (x : Operand) (ho : o.op = .buildSlice t 1 #[(0, x)])
    (e : TypeId) (i : TypeInfo) (z : Value) (ht : P.underlying t = some (.slice e)) (hi : P.info? e = some i) (hz : i.zero = some z) (cs : Array Value) (hx : a.eval x = .agg cs) (hsize : i.size = cs.size) (h0 : 0 < cs.size) (hc : cs.size ≤ 16777216)
    (h : wpList P ops Q rest (a.put o.dst (.slice (some ⟨w.heap.size, 0, none⟩) 1 1)) (w.alloc (.cells cs e))) : wpList P ops Q (o :: rest) a w :=
  wpList_plain hgd fun _ hK => wp_buildSlice_row t x ho e i z ht hi hz cs hx hsize h0 hc (hK _ _ h)
def rowLen : Value → Nat
  | .slice _ n _ => n
  | _ => 0
theorem sum_bd {f : Nat → Nat} {c : Nat} : ∀ n, (∀ q, q < n → f q ≤ c) → ((List.range n).map f).sum ≤ n * c
  | 0, _ => by simp
  | n + 1, h => by
    have := sum_bd n (fun q hq => h q (by omega))
    have := h n (by omega)
    simp only [List.range_succ, List.map_append, List.map_cons, List.map_nil, List.sum_append, List.sum_cons, List.sum_nil, Nat.add_zero, Nat.succ_mul]
    omega
theorem room_le {O : PO} (hk : OrOk O) : O.room ≤ 6464000 := by
  have := sum_bd (f := fun p => O.lo p + (O.R p).length - O.dn p) (c := 101000) 64 (fun q hq => by
    have := hk.bd q hq
    show O.lo q + (O.R q).length - O.dn q ≤ 101000
    omega)
  unfold PO.room
  omega
/-- what Drain leaves -/
def DrainEnd (w : World) (B D Z : Nat) (V VH : Nat → Value) (O : PO) (e : Ending) (w' : World) : Prop :=
  ∃ L L' O' v V1 VH1, Drn O L O' ∧ O'.ripe = none ∧ e = .returned v ∧ w'.ownsRow w.heap.size 42 6 v L'.length (rowsM L') ∧ L'.map core = L.map core ∧ Outs w.heap.size w' L' ∧ OrSt w B D Z V VH O' w' V1 VH1 ∧ ∀ b, v.ownBlock = some b → ¬ orS B D Z V1 VH1 b
/-- at the loop's head: Next has answered -/
structure DrSt (w : World) (B D Z : Nat) (V VH : Nat → Value) (O : PO) (out : Value) (MB : Nat) (n : Nat) (ok : Bool) (wr : World) : Prop where
  ex : ∃ L L' O1 V1 VH1 mv, Drn O L O1 ∧ OrSt w B D Z V VH O1.next wr V1 VH1 ∧ wr.ownsRow w.heap.size 42 6 out L'.length (rowsM L') ∧ L'.map core = L.map core ∧ L'.length = n ∧ Outs w.heap.size wr L' ∧
    (∀ b, out.ownBlock = some b → ¬ orS B D Z V1 VH1 b) ∧ out.ownBlock ≠ some MB ∧ wr.heap[MB]? = some (.cells (msgA mv) 42 (0, 0)) ∧ w.heap.size ≤ MB ∧ ¬ orS B D Z V1 VH1 MB ∧ Got w.heap.size wr O1.ripe mv ∧ ok = O1.ripe.isSome
set_option maxRecDepth 100000 in
set_option maxHeartbeats 16000000 in
theorem orDrain_any {w : World} {B D Z : Nat} {O : PO} {V VH : Nat → Value} (h : OrAt w B D Z O V VH) (hk : OrOk O) (hT : TabO w B D Z V VH) :
    Calls Tryd.prog 20 #[.pointer (some ⟨B, 0, none⟩)] w (DrainEnd w B D Z V VH O) := by
  obtain ⟨zc, hzc⟩ : ∃ z, z = msgA zeroM := ⟨_, rfl⟩
  have hz : ∀ W : World, (zeroValue 42).run Tryd.prog W = .ok (.agg zc) W := fun W => by rw [hzc]; kernel_rfl
  have HNX := Lib.hid (orNext_any h hk hT.1)
  have H0 := Lib.hid (And.intro h (And.intro hk hT))
  have HZC := Lib.hid hzc
  clear h hk hT hzc
  go_enter Tryd.func20, Tryd.ntmps20
  go_wp2_with fail
  refine HNX.out.mono ?_
  rintro e w1 ⟨hg1, ht1⟩
  obtain ⟨mv, rfl, hgot⟩ := got_of hg1
  obtain ⟨V1, VH1, hst, hap⟩ := OrSt.next ⟨H0.out.1, Kept.refl _ _, newV_refl w V, newV_refl w VH⟩ ht1
  obtain ⟨cx, hcx⟩ : ∃ cx, cx = msgA mv := ⟨_, rfl⟩
  obtain ⟨ok, hok⟩ : ∃ ok, ok = O.ripe.isSome := ⟨_, rfl⟩
  rw [← hcx, ← hok]
  have HCX := Lib.hid (show cx = msgA mv ∧ (Tryd.prog.info? 42).map (·.size) = some cx.size ∧ zc.size = cx.size ∧ cx.all (·.oneCell') = true from by rw [hcx, HZC.out]; exact ⟨rfl, szM, rfl, enM_all mv⟩)
  obtain ⟨MB, hMB⟩ : ∃ x, x = w1.heap.size := ⟨_, rfl⟩
  obtain ⟨w2, hw2⟩ : ∃ w2, w2 = (w1.alloc (.cells zc 42)).setRow MB cx := ⟨_, rfl⟩
  have hz1 := heap_alloc_new w1 (.cells zc 42)
  rw [← hMB] at hz1
  have hb2 : Below w1.heap.size w1 w2 := by rw [hw2]; exact (kept_setRowT (w1.alloc (.cells zc 42)) MB cx).out (ba (br w1) _) (ba (br w1) _).size (fun k hk' e => by omega)
  have hm2 : w2.heap[MB]? = some (.cells cx 42 (0, 0)) := by rw [hw2]; exact setRow_heap _ _ _ _ _ _ hz1
  have HN := Lib.hid (And.intro hz1 hMB)
  have HW2 := Lib.hid hw2
  have HI := Lib.hid (show DrSt w B D Z V VH O (.slice none 0 0) MB 0 ok w2 from by
    refine ⟨[], [], O, V1, VH1, mv, Drn.nil O, hst.below hb2, ⟨rfl, .inl ⟨rfl, rfl⟩⟩, rfl, rfl, fun m hm => (by cases hm), fun b hb => (by cases hb), fun e => (by cases e), by rw [← hcx]; exact hm2, by rw [hMB]; exact hst.kept.size, fun e => ?_, hgot.below hb2, hok⟩
    have := hst.at_.sz e
    omega)
  clear hg1 ht1 hgot hst hap hcx hok hMB hw2 hz1 hb2 hm2 HNX
  go_upto_block 0 with (first
    | (refine wpList_store_row rfl 42 (.tmp 4) (.tmp 9) rfl MB cx (by rw [HN.out.2]; rfl) rfl 42 _ HN.out.1 HCX.out.2.1 HCX.out.2.2.1 HCX.out.2.2.2 ?_)
    | fail)
  try simp only [Act.put, List.getElem_toArray, List.getElem_cons_succ, List.getElem_cons_zero, List.setIfInBounds_toArray, List.set_cons_zero, List.set_cons_succ]
  rw [← HN.out.2, ← HW2.out]
  clear hz HW2
  go_wp2_with fail
  go_loopw [3, 4, 5] (fun out m f wr => ∃ (n MB : Nat) (b : Bool), m = .pointer (some ⟨MB, 0, none⟩) ∧ f = .bool b ∧ rowLen out = n ∧ Hid (DrSt w B D Z V VH O out MB n b wr)) (fun out _ _ _ => O.room + 1 - rowLen out)
  case atStart => exact ⟨0, MB, ok, rfl, rfl, rfl, HI⟩
  case round =>
    obtain ⟨n, MB', b, rfl, rfl, hn, HD⟩ := hrel
    obtain ⟨L, L', O1, V2, VH2, mv2, hdr, hst, hown, hcor, hln, houts, hoap, hone, hmb, hmw, hmap, hgot, hb⟩ := HD.out.ex
    cases b
    · have hnone : O1.ripe = none := by
        cases hr : O1.ripe with
        | none => rfl
        | some x => rw [hr] at hb; cases hb
      have HE := Lib.hid (show DrainEnd w B D Z V VH O (.returned u3) wr from by
        have e : O1.next = O1 := by unfold PO.next; rw [hnone]
        rw [e] at hst
        exact ⟨L, L', O1, u3, V2, VH2, hdr, hnone, rfl, hown, hcor, houts, hst, hoap⟩)
      clear hdr hst hown hcor hln houts hoap hone hmb hmw hmap hgot hb HD HI hn
      go_wp2_with fail
      go_ret
      exact HE.out
    · obtain ⟨m, hm⟩ : ∃ m, O1.ripe = some m := by
        cases hr : O1.ripe with
        | none => rw [hr] at hb; cases hb
        | some x => exact ⟨x, rfl⟩
      have hnx : O1.next = O1.took m := by unfold PO.next; rw [hm]
      have hdr2 : Drn O (L ++ [m]) (O1.took m) := Drn.snoc hdr hm
      obtain ⟨hk2, hrm⟩ := hdr2.ok H0.out.2.1
      have hll : L'.length = L.length := by have := congrArg List.length hcor; simpa using this
      rw [List.length_append, List.length_singleton] at hrm
      obtain ⟨O2, hO2⟩ : ∃ O2, O2 = O1.took m := ⟨_, rfl⟩
      rw [hnx, ← hO2] at hst
      rw [← hO2] at hdr2 hk2
      rw [hm] at hgot
      have hcm : core mv2 = core m := hgot.2.1 m rfl
      obtain ⟨a3, c3, rfl⟩ := ownForm hown
      have hn' : L'.length = n := hln
      rw [hn'] at hown hoap hone ⊢
      have hnb : n + 1 ≤ O.room := by omega
      have hn9 : n ≤ 6464000 := by have := room_le H0.out.2.1; omega
      obtain ⟨cy, hcy⟩ : ∃ cy, cy = msgA mv2 := ⟨_, rfl⟩
      obtain ⟨i0, hi, hz0, hz1, hz2⟩ := info_parts info42
      have HCY := Lib.hid (show (Tryd.prog.info? 42).map (·.size) = some cy.size ∧ cy.size = 6 ∧ cy.all (·.oneCell') = true ∧ zc.size = cy.size ∧ (∀ u ∈ cy.toList, u.oneCell' = true) from by rw [hcy, HZC.out]; exact ⟨szM, rfl, enM_all mv2, rfl, msgA_one mv2⟩)
      have hmb' := hmb
      rw [← hcy] at hmb'
      have HMB := Lib.hid hmb'
      have HOW := Lib.hid (hown.alloc (.cells cy 42))
      have HR := Lib.hid (show Reads (wr.alloc (.cells cy 42)) (wr.heap.size + 1) 6 (some ⟨wr.heap.size, 0, none⟩) 1 cy.toList from by
        have := reads_new wr mv2
        rw [hcy]
        exact this)
      have HS := Lib.hid (And.intro hdr2 (And.intro hst (And.intro hcor (And.intro houts (And.intro hoap (And.intro hone (And.intro hmw (And.intro hmap (And.intro hgot (And.intro hcm (And.intro hk2 (And.intro hown (And.intro hnb (And.intro hcy hll))))))))))))))
      have HBASE := Lib.hid (show w.heap.size ≤ wr.heap.size from hst.kept.size)
      have HLN := Lib.hid hn'
      clear hdr hdr2 hst hcor hln houts hoap hone hmb hmb' hmw hmap hgot hb hm hnx hcm hk2 hrm hll hn' hcy hO2 HI HD hnb hn hown
      go_wp2_with (first
        | (with_reducible refine wpList_load_row rfl 42 (.tmp 4) rfl MB' rfl 42 cy (0, 0) _ HMB.out Tryd.underlying42 rfl HCY.out.1 ?_)
        | (refine wpList_buildSlice_row rfl 27 (.tmp 18) rfl 42 i0 _ Tryd.underlying27 hi hz0 cy rfl (by rw [HCY.out.2.1]; exact hz1) (by rw [HCY.out.2.1]; decide) (by rw [HCY.out.2.1]; decide) ?_)
        | (at_builtin; refine wpList_append_any _ rfl (.tmp 17) (.tmp 19) 27 rfl w.heap.size 42 i0 _ 6 72 Tryd.underlying27 hi hz0 hz1 hz2 rfl (by decide) _ n _ rfl HOW.out _ _ 1 _ cy.toList rfl HR.out HCY.out.2.2.2.2 (by unfold maxLen; omega) (by omega) (by have := HBASE.out; simp; omega) ?_)
        | fail)
      intro v' wg ho2 hg hu
      obtain ⟨a4, c4, rfl⟩ := ownForm ho2
      have hKg : Kept (fun b => (Value.slice a3 n c3).ownBlock = some b) wr wg := ((Kept.refl _ _).alloc _).trans ((Kept.of_grown' hg).more fun k _ e => by
        obtain ⟨b, hb, rfl⟩ := e
        exact hb)
      obtain ⟨s1, s2, s3, s4, s5, s6, s7, s8, s9, s10, s11, s12, s13, s14, s15⟩ := HS.out
      have hstg : OrSt w B D Z V VH O2 wg V2 VH2 := s2.aside hKg (fun b hb => ⟨(s12.lt b hb).1, s5 b hb⟩) (calm_row s12)
      have hmg : wg.heap[MB']? = some (.cells cy 42 (0, 0)) := hKg.keep HMB.out s6
      have hog : Outs w.heap.size wg L' := s4.keptC hKg (calm_row s12)
      have hgg : Got w.heap.size wg (some m) mv2 := s9.keptC hKg (calm_row s12)
      have hapg : ∀ b, (Value.slice a4 (n + 1) c4).ownBlock = some b → ¬ orS B D Z V2 VH2 b := fun b hb e => by
        rcases hu with h | h
        · exact s5 b (by rw [← h]; exact hb) e
        · rw [h] at hb
          injection hb with hb
          have := s2.at_.sz e
          omega
      have hrow : wg.ownsRow w.heap.size 42 6 (.slice a4 (n + 1) c4) (n + 1) (rowsM (L' ++ [mv2])) := by
        rw [rowsM_snoc, ← s14]
        exact ho2
      have hz : ∀ W : World, (zeroValue 42).run Tryd.prog W = .ok (.agg zc) W := fun W => by rw [HZC.out]; kernel_rfl
      obtain ⟨N, hN⟩ : ∃ N, N = wg.heap.size := ⟨_, rfl⟩
      have hzn := heap_alloc_new wg (.cells zc 42)
      rw [← hN] at hzn
      obtain ⟨w3, hw3⟩ : ∃ w3, w3 = (wg.alloc (.cells zc 42)).setRow N cy := ⟨_, rfl⟩
      have hb3 : Below wg.heap.size wg w3 := by rw [hw3]; exact (kept_setRowT (wg.alloc (.cells zc 42)) N cy).out (ba (br wg) _) (ba (br wg) _).size (fun k hk' e => by omega)
      have hn3 : w3.heap[N]? = some (.cells cy 42 (0, 0)) := by rw [hw3]; exact setRow_heap _ _ _ _ _ _ hzn
      have hst3 := hstg.below hb3
      have hT3 := hst3.tab H0.out.2.2
      have HNX := Lib.hid (orNext_any hst3.at_ s11 hT3.1)
      have HG := Lib.hid (And.intro hst3 (And.intro (hog.keptC (Kept.of_below hb3 (S := fun _ => False)) (fun _ h => h.elim)) (And.intro (hgg.below hb3) (And.intro hapg (And.intro (own_keptS hrow (Kept.of_below hb3 (S := fun _ => False)) (fun _ _ h => h)) (And.intro hn3 (show ¬ orS B D Z V2 VH2 N from fun e => by have := hstg.at_.sz e; omega)))))))
      have HNN := Lib.hid (And.intro hN (And.intro (show w.heap.size ≤ N from by rw [hN]; exact hstg.kept.size) (And.intro (show (Value.slice a4 (n + 1) c4).ownBlock ≠ some N from fun e => by have := (hrow.lt N e).2; omega) hzn)))
      have HMG := Lib.hid hmg
      have HW3 := Lib.hid hw3
      clear hKg s1 s2 s3 s4 s5 s6 s7 s8 s9 s10 s11 s12 s13 s14 s15 hstg hmg hog hgg hapg hrow hN hzn hw3 hb3 hn3 hst3 hT3 ho2 hg hu HOW HR
      go_upto_region 4 with (first
        | (with_reducible refine wpList_load_row rfl 42 (.tmp 4) rfl MB' rfl 42 cy (0, 0) _ HMG.out Tryd.underlying42 rfl HCY.out.1 ?_)
        | (refine wpList_store_row rfl 42 (.tmp 4) (.tmp 21) rfl N cy (by rw [HNN.out.1]; rfl) rfl 42 _ HNN.out.2.2.2 HCY.out.1 HCY.out.2.2.2.1 HCY.out.2.2.1 ?_)
        | fail)
      rw [← HNN.out.1, ← HW3.out]
      clear hz HW3
      go_wp2_with fail
      refine HNX.out.mono ?_
      rintro e w4 ⟨hg4, ht4⟩
      obtain ⟨mv3, rfl, hgot3⟩ := got_of hg4
      obtain ⟨g1, g2, g3, g4, g5, g6, g7⟩ := HG.out
      obtain ⟨V3, VH3, hst4, hap4⟩ := OrSt.next g1 ht4
      obtain ⟨cw, hcw⟩ : ∃ cw, cw = msgA mv3 := ⟨_, rfl⟩
      obtain ⟨ok2, hok2⟩ : ∃ ok, ok = O2.ripe.isSome := ⟨_, rfl⟩
      rw [← hcw, ← hok2]
      have hk4 := ht4.1
      have hN3 : N < w3.heap.size := (Array.getElem?_eq_some_iff.1 g6).1
      have hn4 : w4.heap[N]? = some (.cells cy 42 (0, 0)) := hk4.keep g6 g7
      have hapN := hap4 N hN3 g7
      obtain ⟨w5, hw5⟩ : ∃ w5, w5 = w4.setRow N cw := ⟨_, rfl⟩
      have hk5 : Kept (fun b => b = N) w4 w5 := by rw [hw5]; exact kept_setRowT _ _ _
      have hc4 := calm_msg hn4
      have HE := Lib.hid (show DrSt w B D Z V VH O (.slice a4 (n + 1) c4) N (n + 1) ok2 w5 from by
        obtain ⟨s1, s2, s3, s4, s5, s6, s7, s8, s9, s10, s11, s12, s13, s14, s15⟩ := HS.out
        have hl1 : (L' ++ [mv2]).length = n + 1 := by rw [List.length_append, HLN.out]; rfl
        refine ⟨L ++ [m], L' ++ [mv2], O2, V3, VH3, mv3, s1, hst4.aside hk5 (fun b e => ⟨by rw [e]; exact HNN.out.2.1, by rw [e]; exact hapN⟩) hc4, ?_, by rw [List.map_append, List.map_append, s3]; simp [s10], hl1, ?_, fun b hb => hap4 b (g5.lt b hb).2 (g4 b hb), HNN.out.2.2.1, by rw [hw5, ← hcw]; exact setRow_heap _ _ _ _ _ _ hn4, HNN.out.2.1, hapN, (hgot3.keptC hk5 hc4).more g1.kept.size, hok2⟩
        · rw [hl1]
          exact own_keptS (own_keptS g5 hk4 (fun b hb => g4 b hb)) hk5 (fun b hb e => HNN.out.2.2.1 (by rw [← e]; exact hb))
        · intro x hx
          rcases List.mem_append.1 hx with hx | hx
          · exact ((g2.keptC hk4 g1.at_.calm).keptC hk5 hc4) x hx
          · rw [List.mem_singleton.1 hx]
            have := ((g3.keptC hk4 g1.at_.calm).keptC hk5 hc4)
            exact ⟨this.2.2.1, this.2.2.2.2, this.2.2.2.1⟩)
      have HCW := Lib.hid (show (Tryd.prog.info? 42).map (·.size) = some cw.size ∧ cy.size = cw.size ∧ cw.all (·.oneCell') = true from by rw [hcw]; exact ⟨szM, HCY.out.2.1, enM_all mv3⟩)
      have HN4 := Lib.hid hn4
      have HW5 := Lib.hid hw5
      have HRM := Lib.hid HS.out.2.2.2.2.2.2.2.2.2.2.2.2.1
      clear hg4 ht4 hgot3 g1 g2 g3 g4 g5 g6 g7 hst4 hap4 hcw hok2 hk4 hN3 hn4 hapN hw5 hk5 hc4 HG HS HNX HMB HMG
      go_wp2_with (first
        | (with_reducible refine wpList_store_row rfl 42 (.tmp 4) (.tmp 15) rfl N cw rfl rfl 42 _ HN4.out HCW.out.1 HCW.out.2.1 HCW.out.2.2 ?_)
        | fail)
      rw [← HW5.out]
      exact ⟨⟨n + 1, N, ok2, rfl, rfl, rfl, HE⟩, by have := HRM.out; simp [rowLen]; omega⟩
end Go.Proofs.YtgjlcjbmcnofiaaDoor
