/-
  A horizon's Copy.
  Conditions: those that each theorem names.
-/
import Derived.Test.YtgjlcjbmcnofiaaDoorHz
import Derived.Test.YtgjlcjbmcnofiaaDoorHoldN
namespace Go.Proofs.YtgjlcjbmcnofiaaDoor
set_option linter.unusedVariables false
set_option linter.unusedSimpArgs false
open Go.RowKit
def OwnEndP (w : World) (l : List (Nat × Nat)) (e : Ending) (w' : World) : Prop := ∃ v, e = .returned v ∧ w'.ownsRow w.heap.size 111 2 v l.length (enL enP l)
set_option maxRecDepth 100000 in
set_option maxHeartbeats 4000000 in
theorem pClone_any (l : List (Nat × Nat)) (p : Addr) (cap : Nat) (w : World) (h : Reads w w.heap.size 2 (some p) l.length (enL enP l)) (hl : l.length ≤ 1000000) : Calls Tryd.prog 88 #[.slice (some p) l.length cap] w fun e w' => OwnEndP w l e w' ∧ Below w.heap.size w w' := by
  obtain ⟨i0, hi, hz0, hz1, hz2⟩ := info_parts infoP
  have hb := ba (br w) (.cells #[] 111)
  have own1 := ownNil w w.heap.size 111 2 (Nat.le_refl _)
  have HR := Lib.hid (h.below hb)
  have H1 := Lib.hid (And.intro own1 hb)
  have hone := enL_one enP_one l
  have hnil : ∀ W : World, (Go.binOp .eql 103 (.slice (some p) l.length cap) (.slice none 0 0)).run Tryd.prog W = .ok (.bool false) W := fun W => Lib.run_eql_slice_nil W 103 111 (some p) l.length cap 0 0 Tryd.underlying103
  clear h own1 hb
  go_enter Tryd.func88, Tryd.ntmps88
  go_wp2_with (at_builtin; refine wpList_append_any _ rfl (.tmp 5) (.tmp 6) 103 rfl w.heap.size 111 i0 _ 2 16 Tryd.underlying103 hi hz0 hz1 hz2 rfl (by decide) _ 0 [] rfl H1.out.1 w.heap.size _ l.length _ (enL enP l) rfl HR.out hone ?c3 ?c4 ?c5 ?_)
  case c3 => unfold maxLen; omega
  case c4 => omega
  case c5 => simp
  intro v6 w6 ho6 hg6 hu6
  have hb6 := grownB H1.out.2 H1.out.2.size hg6 (fun b hb => (H1.out.1.lt b hb).1)
  have HE := Lib.hid (show OwnEndP w l (.returned v6) w6 ∧ Below w.heap.size w w6 from ⟨⟨v6, rfl, by simpa using ho6⟩, hb6⟩)
  clear ho6 hg6 hu6 hb6
  go_wp2
  go_ret
  exact HE.out
set_option maxRecDepth 100000 in
set_option maxHeartbeats 2000000 in
theorem pClone_gen (v : Value) (l : List (Nat × Nat)) (w : World) (h : w.ownsRow 0 111 2 v l.length (enL enP l)) (hl : l.length ≤ 1000000) : Calls Tryd.prog 88 #[v] w fun e w' => OwnEndP w l e w' ∧ Below w.heap.size w w' := by
  rcases h.2 with ⟨rfl, h0⟩ | ⟨g, cap, cur, rfl, _, _, h1, h2, _⟩
  · have : l = [] := List.eq_nil_of_length_eq_zero h0
    subst this
    have hnil : ∀ W : World, (Go.binOp .eql 103 (.slice none 0 0) (.slice none 0 0)).run Tryd.prog W = .ok (.bool true) W := fun W => Lib.run_eql_slice_nil W 103 111 none 0 0 0 0 Tryd.underlying103
    have HO := Lib.hid (show OwnEndP w [] (.returned (.slice none 0 0)) w from ⟨_, rfl, rfl, .inl ⟨rfl, rfl⟩⟩)
    clear h0 hl h
    go_enter Tryd.func88, Tryd.ntmps88
    go_wp2
    go_ret
    exact ⟨HO.out, br _⟩
  · exact pClone_any l ⟨g, 0, none⟩ cap w (Reads.of_own h) hl
theorem run_index_row {P : Program} (w : World) (t e : TypeId) (n K : Nat) (cs : Array Value) (k : IntKind) (i : Nat) (j : TypeInfo) (d : TypeDesc) (ht : P.underlying t = some (.array n e)) (he : P.underlying e = some d) (hd : (match d with | .struct _ | .array _ _ => true | _ => false) = true) (hj : P.info? e = some j) (hs : j.size = K) (hi : i < n) :
    (Instr.index t (.agg cs) (.int k (i : Int))).run P w = .ok (.agg (cs.extract (i * K) (i * K + K))) w := by
  have h1 : 0 ≤ (i : Int) ∧ (i : Int) < (n : Int) := by omega
  subst hs
  cases d <;> first | (simp [Instr.index, run_underlying ht, asIntOf, sizeOf, typeInfo, hj, part, isAgg, run_underlying he, h1, hi]; done) | (simp at hd; done)
def hzL (H : HZ) (V : Nat → Value) : List Value := (List.range 258).map (hzF H V)
theorem hzL_len (H : HZ) (V : Nat → Value) : (hzL H V).length = 258 := by simp [hzL]
theorem hzL_one {w : World} {Z : Nat} {H : HZ} {V : Nat → Value} (h : HzAt w Z H V) : ∀ v ∈ hzL H V, v.oneCell' = true := by
  intro v hv
  obtain ⟨i, hi, rfl⟩ := List.mem_map.1 hv
  have hi' : i < 258 := by simpa using hi
  unfold hzF
  split
  · rfl
  · split
    · rfl
    · split
      · rfl
      · split
        · rfl
        · split
          · rfl
          · obtain ⟨a, c, e⟩ := h.form (p := (i - 2) / 4) (by omega)
            rw [e]
            rfl
theorem hz_mark (H : HZ) (V : Nat → Value) {t : Nat} (ht : t < 64) : ((hzL H V).drop 2).toArray.extract (t * 4) (t * 4 + 4) = #[.int .u64 (H.hd t : Int), .int .u64 (H.rc t : Int), .int .u32 (H.cm t : Int), V t] := by
  have hg : ∀ i, i < 258 → (hzL H V)[i]? = some (hzF H V i) := fun i hi => by unfold hzL; simp [List.getElem?_range hi]
  apply Array.ext_getElem?
  intro i
  have hl := hzL_len H V
  by_cases hi : i < 4
  · rw [Array.getElem?_extract]
    rw [if_pos (by simp; omega)]
    rw [List.getElem?_toArray, List.getElem?_drop, hg _ (by omega)]
    rcases (by omega : i = 0 ∨ i = 1 ∨ i = 2 ∨ i = 3) with rfl | rfl | rfl | rfl
    · rw [show 2 + (t * 4 + 0) = 2 + t * 4 by omega, hzF_hd]; rfl
    · rw [show 2 + (t * 4 + 1) = 2 + t * 4 + 1 by omega, hzF_rc]; rfl
    · rw [show 2 + (t * 4 + 2) = 2 + t * 4 + 2 by omega, hzF_cm]; rfl
    · rw [show 2 + (t * 4 + 3) = 2 + t * 4 + 3 by omega, hzF_wt]; rfl
  · rw [Array.getElem?_eq_none (by simp; omega), Array.getElem?_eq_none (by simp; omega)]
/-- the copy of a horizon, with the promises of the first processes copied -/
def CopyZ (w wr : World) (H : HZ) (V : Nat → Value) (t : Nat) (Vt : Nat → Value) : Prop :=
  wr.heap[w.heap.size]? = some (.cells (hzC H Vt) 108 (0, 0)) ∧ (∀ q, t ≤ q → Vt q = V q) ∧ (∀ q, q < t → wr.ownsRow (w.heap.size + 1) 111 2 (Vt q) (H.wt q).length (enL enP (H.wt q))) ∧
  (∀ p q b, p < t → q < t → p ≠ q → (Vt p).ownBlock = some b → (Vt q).ownBlock ≠ some b) ∧ Below w.heap.size w wr
theorem CopyZ.step {w wr w8 : World} {H : HZ} {V Vt : Nat → Value} {t : Nat} {v8 : Value} (h : CopyZ w wr H V t Vt) (ht : t < 64) (hb : Below wr.heap.size wr w8)
    (ho8 : w8.ownsRow wr.heap.size 111 2 v8 (H.wt t).length (enL enP (H.wt t))) : CopyZ w (w8.setCell ⟨w.heap.size, 2 + t * 4 + 3, none⟩ v8) H V (t + 1) (upd Vt t v8) := by
  obtain ⟨h1, h2, h3, h4, h5⟩ := h
  have hN : w.heap.size < wr.heap.size := (Array.getElem?_eq_some_iff.1 h1).1
  have e1 := (hb.block _ hN).trans h1
  have hk := kept_set w8 w.heap.size (2 + t * 4 + 3) v8
  have hlt : ∀ q, q < t → ∀ b, (Vt q).ownBlock = some b → b < wr.heap.size := fun q hq b hb => ((h3 q hq).lt b hb).2
  refine ⟨?_, fun q hq => ?_, fun q hq => ?_, fun q r b hq hr hne hb1 hb2 => ?_, bs (bt h5 hb) (Nat.le_refl _) _⟩
  · have := setCell_block e1 (2 + t * 4 + 3) v8
    rw [hzC_wt H Vt t (H.wt t) v8] at this
    have e : H.setWt t (H.wt t) = H := by
      unfold HZ.setWt
      have : upd H.wt t (H.wt t) = H.wt := funext fun q => by
        by_cases e : q = t
        · subst e; rw [upd_same]
        · rw [upd_ne _ _ e]
      rw [this]
    rw [e] at this
    exact this
  · rw [upd_ne _ _ (by omega)]
    exact h2 q (by omega)
  · by_cases hqt : q = t
    · subst hqt
      rw [upd_same]
      exact own_keptS (ownMore ho8 (by omega)) hk (fun b hb hc => by have := (ho8.lt b hb).1; omega)
    · rw [upd_ne _ _ hqt]
      have ho := h3 q (by omega)
      exact own_keptS (own_keptS ho (Kept.of_below (S := fun _ => False) hb) (fun _ _ h => h)) hk (fun b hb hc => by have := (ho.lt b hb).1; omega)
  · by_cases hqp : q = t
    · subst hqp
      rw [upd_same] at hb1
      rw [upd_ne _ _ (Ne.symm hne)] at hb2
      have := (ho8.lt b hb1).1
      have := hlt r (by omega) b hb2
      omega
    · rw [upd_ne _ _ hqp] at hb1
      by_cases hrp : r = t
      · subst hrp
        rw [upd_same] at hb2
        have := (ho8.lt b hb2).1
        have := hlt q (by omega) b hb1
        omega
      · rw [upd_ne _ _ hrp] at hb2
        exact h4 q r b (by omega) (by omega) hne hb1 hb2
theorem CopyZ.last {w wr : World} {H : HZ} {V Vt : Nat → Value} (h : CopyZ w wr H V 64 Vt) : HzAt wr w.heap.size H Vt ∧ (∀ b, hzS w.heap.size Vt b → w.heap.size ≤ b) ∧ Below w.heap.size w wr := by
  obtain ⟨h1, h2, h3, h4, h5⟩ := h
  refine ⟨⟨h1, fun q hq => ownMore (h3 q hq) (Nat.zero_le _), h4⟩, fun b hb => ?_, h5⟩
  rcases hb with rfl | ⟨p, hp, hb⟩
  · exact Nat.le_refl _
  · have := ((h3 p hp).lt b hb).1
    omega
theorem CopyZ.begin {w W1 : World} {Z : Nat} {H : HZ} {V : Nat → Value} {C : Array Value} (hC : C.size = 258) (hW : W1 = (w.alloc (.cells C 108)).setCells w.heap.size 0 (hzL H V)) : CopyZ w W1 H V 0 V := by
  refine ⟨?_, fun _ _ => rfl, fun q hq => absurd hq (by omega), fun p q b hp => absurd hp (by omega), by rw [hW]; exact bsl (Nat.le_refl _) _ _ _ (ba (br w) _)⟩
  obtain ⟨cs, h1, h2, h3⟩ := setCells_row (hzL H V) 0 _ _ (heap_alloc_new w (.cells C 108))
  rw [hW, h1]
  have : cs = hzC H V := by
    apply Array.ext_getElem?
    intro j
    rw [h3, hC, hzL_len]
    by_cases hj : j < 258
    · rw [if_pos ⟨by omega, by omega, hj⟩]; unfold hzC hzL; simp
    · rw [if_neg (by omega), Array.getElem?_eq_none (by omega), Array.getElem?_eq_none (by rw [hzC_size]; omega)]
  rw [this]
set_option maxRecDepth 100000 in
set_option maxHeartbeats 4000000 in
theorem hzCopy_any (Z : Nat) (H : HZ) (V : Nat → Value) (w : World) (h : HzAt w Z H V) (hb : HzOk H) :
    Calls Tryd.prog 64 #[.pointer (some ⟨Z, 0, none⟩)] w fun e w' => ∃ E V', e = .returned (.pointer (some ⟨E, 0, none⟩)) ∧ HzAt w' E H V' ∧ (∀ b, hzS E V' b → w.heap.size ≤ b) ∧ Below w.heap.size w w' := by
  obtain ⟨Y, hY⟩ : ∃ Y, Y = hzC (hz0 0) nilV := ⟨_, rfl⟩
  have hz : ∀ W : World, (zeroValue 108).run Tryd.prog W = .ok (.agg Y) W := fun W => by rw [hY]; kernel_rfl
  have hx := heap_alloc_new w (.cells Y 108)
  have hth := there_row hx
  have hYs : Y.size = 258 := by rw [hY, hzC_size]
  rw [hYs] at hth
  have hall : w.rangeAt Z 0 (hzL H V) := fun j u hu => by
    rw [Nat.zero_add]
    exact (cell_of_row _ _ j _ _ _ h.blk).trans (by unfold hzC hzL at *; simpa using hu)
  have hrow : w.rangeAt Z 2 ((hzL H V).drop 2) := fun j u hu => by
    rw [List.getElem?_drop] at hu
    have := hall (2 + j) u hu
    rwa [Nat.zero_add] at this
  have hone : (hzL H V).toArray.all (·.oneCell') = true := all_oneCell_toArray (hzL_one h)
  have hl := hzL_len H V
  have hmk := fun t (ht : t < 64) => hz_mark H V ht
  obtain ⟨L, hL⟩ : ∃ L, L = hzL H V := ⟨_, rfl⟩
  obtain ⟨C, hC⟩ : ∃ C, C = (hzL H V).drop 2 := ⟨_, rfl⟩
  rw [← hC] at hrow hmk
  have hCl : C.length = 256 := by rw [hC, List.length_drop, hl]
  have hB := fun W1 => CopyZ.begin (w := w) (W1 := W1) (Z := Z) (H := H) (V := V) hYs
  rw [← hL] at hone hall hl hB
  have hLs : L.toArray.size = 258 := by simpa using hl
  have hsz : (Tryd.prog.info? 108).map (·.size) = some L.toArray.size := by rw [hLs]; kernel_rfl
  have hth2 : (w.alloc (.cells Y 108)).there w.heap.size 0 L.toArray.size := by rw [hLs]; exact hth
  have hidx : ∀ (W' : World) (t : Nat), t < 64 → (Instr.index 106 (.agg C.toArray) (.int .i64 (t : Int))).run Tryd.prog W' = .ok (.agg #[.int .u64 (H.hd t : Int), .int .u64 (H.rc t : Int), .int .u32 (H.cm t : Int), V t]) W' := fun W' t ht => by
    obtain ⟨j, hj⟩ : ∃ j, Tryd.prog.info? 105 = some j := Option.isSome_iff_exists.1 (by kernel_rfl)
    have hs : (Tryd.prog.info? 105).map (·.size) = some 4 := by kernel_rfl
    rw [hj] at hs
    rw [← hmk t ht]
    exact run_index_row W' _ 105 64 4 _ _ t j _ Tryd.underlying106 Tryd.underlying105 rfl hj (by simpa using hs) ht
  have HB := Lib.hid hB
  have HR := Lib.hid hrow
  have HA := Lib.hid (And.intro h hb)
  have HL := Lib.hid hall
  have HT := Lib.hid hth2
  have HO := Lib.hid hone
  have HS := Lib.hid hsz
  have HI := Lib.hid hidx
  clear h hb hall hrow hx hth hth2 hone hsz hidx hC hL hY hYs hLs hB hmk
  go_enter Tryd.func64, Tryd.ntmps64
  go_upto_region 2 with (first
    | (with_reducible refine wpList_load_mid rfl 108 (.tmp 7) rfl Z 0 rfl L _ HL.out Tryd.underlying108 rfl (by rw [hl]; kernel_rfl) ?_)
    | (with_reducible refine wpList_store_mid rfl 108 (.tmp 3) (.tmp 8) rfl w.heap.size 0 L.toArray rfl rfl HT.out HS.out HO.out ?_)
    | fail)
  have hB := HB.out _ rfl
  clear HT HO HS HL HB
  have e0 : L.toArray.toList = L := by simp
  try rw [e0]
  generalize (w.alloc (.cells Y 108)).setCells w.heap.size 0 L = W1 at *
  have hR1 : W1.rangeAt Z 2 C := fun j u hu => by
    have hD := HA.out.1.lt
    exact (World.cell?_of_block (a := ⟨Z, 2 + j, none⟩) (hB.2.2.2.2.block Z hD)).trans (HR.out j u hu)
  have HR1 := Lib.hid hR1
  have HB := Lib.hid hB
  clear hR1 hB e0
  go_wp2_with (with_reducible refine wpList_load_mid rfl 106 (.tmp 11) rfl Z 2 rfl C _ HR1.out Tryd.underlying106 rfl (by rw [hCl]; kernel_rfl) ?_)
  go_loopw [4, 5, 13] (fun u v i wr => ∃ t : Nat, t ≤ 64 ∧ i = .int .i64 (t : Int) ∧ ∃ Vt, Hid (CopyZ w wr H V t Vt)) (fun _ _ i _ => 64 - (intOf i).toNat)
  case atStart => exact ⟨0, by omega, rfl, V, HB⟩
  case round =>
    obtain ⟨t, ht, rfl, Vt, hc⟩ := hrel
    by_cases hlt : t < 64
    · have hbool : decide (t < 64) = true := by simpa using hlt
      have hbool' : decide ((t : Int) < 64) = true := by simp; omega
      have ht64 : (t : Int) < 64 := by omega
      obtain ⟨adt, capt, hvt⟩ := HA.out.1.form hlt
      obtain ⟨md, hmd⟩ : ∃ x, x = H.hd t := ⟨_, rfl⟩
      obtain ⟨mr, hmr⟩ : ∃ x, x = H.rc t := ⟨_, rfl⟩
      obtain ⟨mc, hmc⟩ : ∃ x, x = H.cm t := ⟨_, rfl⟩
      have hix : ∀ W' : World, (Instr.index 106 (.agg C.toArray) (.int .i64 (t : Int))).run Tryd.prog W' = .ok (.agg #[.int .u64 (md : Int), .int .u64 (mr : Int), .int .u32 (mc : Int), .slice adt (H.wt t).length capt]) W' := fun W' => by rw [HI.out W' t hlt, hvt, hmd, hmr, hmc]
      obtain ⟨w7, hw7⟩ : ∃ w7, w7 = wr.alloc (.cells #[.int .u64 (md : Int), .int .u64 (mr : Int), .int .u32 (mc : Int), .slice adt (H.wt t).length capt] 105) := ⟨_, rfl⟩
      have hb7 : Below wr.heap.size wr w7 := by rw [hw7]; exact ba (br wr) _
      have hown := ((HA.out.1.below hc.out.2.2.2.2).below hb7).own t hlt
      rw [hvt] at hown
      have HCl := Lib.hid (pClone_gen _ (H.wt t) w7 hown (by have := HA.out.2.wt t hlt; omega))
      have HK := Lib.hid (And.intro hc.out (And.intro hlt hb7))
      have HW7 := Lib.hid hw7
      have c7 : w7.cell? ⟨wr.heap.size, 3, none⟩ = some (.slice adt (H.wt t).length capt) := by rw [hw7]; exact cell_of_row _ _ 3 _ _ _ (heap_alloc_new wr _)
      clear hc hvt hlt hmd hmr hmc hw7 hb7 hown
      go_upto_region 5 with (fail)
      rw [← HW7.out]
      go_wp2_with fail
      refine HCl.out.mono ?_
      rintro e w8 ⟨⟨v8, rfl, ho8⟩, hb8⟩
      have hb78 := bt HK.out.2.2 hb8
      have hstep := HK.out.1.step HK.out.2.1 hb78 (ownMore ho8 HK.out.2.2.size)
      have hblk := (hb78.block _ (Array.getElem?_eq_some_iff.1 HK.out.1.1).1).trans HK.out.1.1
      have c0 : w8.cell? ⟨w.heap.size, 2 + t * 4 + 3, none⟩ = some (Vt t) := (cell_of_row _ _ (2 + t * 4 + 3) _ _ _ hblk).trans ((hzC_get _ _ (by have := HK.out.2.1; omega)).trans (congrArg some (hzF_wt _ _ _)))
      have c1 : w8.frozen? ⟨w.heap.size, 2 + t * 4 + 3, none⟩ = false := frozen_of_row _ _ _ _ _ hblk
      obtain ⟨a8, c8, rfl⟩ := ownForm ho8
      have HS := Lib.hid hstep
      have HLT := Lib.hid HK.out.2.1
      clear hstep hblk ho8 hb8 hb78 HK HCl HW7
      go_wp2_with fail
      exact ⟨⟨t + 1, HLT.out, by go_num, _, HS⟩, by have := HLT.out; simp [intOf]; omega⟩
    · have hbool : decide (t < 64) = false := by simpa using hlt
      have hbool' : decide ((t : Int) < 64) = false := by simp; omega
      obtain rfl : t = 64 := by omega
      have HE := Lib.hid hc.out.last
      clear hc
      go_wp2_with fail
      go_ret
      exact ⟨_, Vt, rfl, HE.out⟩
end Go.Proofs.YtgjlcjbmcnofiaaDoor
