/-
  What hold's Copy returns.
  Conditions: none.
-/
import Derived.Test.YtgjlcjbmcnofiaaDoorHoldFH
namespace Go.Proofs.YtgjlcjbmcnofiaaDoor
set_option linter.unusedVariables false
set_option linter.unusedSimpArgs false
open Go.RowKit
theorem HoldAt.all {w : World} {D : Nat} {lo : Nat → Nat} {R : Nat → List Msg} {V : Nat → Value} (h : HoldAt w D lo R V) : w.rangeAt D 0 (holdL lo V) := fun j u hu => by
  rw [Nat.zero_add]
  exact (cell_of_row _ _ j _ _ _ h.blk).trans (by unfold holdC; simpa using hu)
theorem setCells_row {g : Nat} {t : TypeId} : ∀ (vs : List Value) (o : Nat) (w : World) (cs : Array Value), w.heap[g]? = some (.cells cs t (0, 0)) → ∃ cs', (w.setCells g o vs).heap[g]? = some (.cells cs' t (0, 0)) ∧ cs'.size = cs.size ∧ ∀ j, cs'[j]? = if o ≤ j ∧ j < o + vs.length ∧ j < cs.size then vs[j - o]? else cs[j]?
  | [], o, w, cs, h => ⟨cs, h, rfl, fun j => by rw [if_neg (by simp; omega)]⟩
  | v :: r, o, w, cs, h => by
    obtain ⟨cs', h1, h2, h3⟩ := setCells_row r (o + 1) (w.setCell ⟨g, o, none⟩ v) _ (setCell_block h o v)
    refine ⟨cs', h1, by rw [h2]; simp, fun j => ?_⟩
    rw [h3]
    simp only [Array.size_setIfInBounds, List.length_cons]
    by_cases hj : j = o
    · subst hj
      rw [if_neg (by omega)]
      by_cases hs : j < cs.size
      · rw [if_pos ⟨by omega, by omega, hs⟩, Nat.sub_self, Array.getElem?_setIfInBounds_self_of_lt hs]; rfl
      · rw [if_neg (by omega), Array.getElem?_eq_none (by simp; omega), Array.getElem?_eq_none (by omega)]
    · by_cases hc : o + 1 ≤ j ∧ j < o + 1 + r.length ∧ j < cs.size
      · rw [if_pos hc, if_pos ⟨by omega, by omega, hc.2.2⟩, show j - o = (j - (o + 1)) + 1 by omega]; rfl
      · rw [if_neg hc, if_neg (by omega), Array.getElem?_setIfInBounds_ne (by omega)]
theorem bsl {a : World} {g : Nat} (hg : a.heap.size ≤ g) : ∀ (vs : List Value) (o : Nat) (b : World), Below a.heap.size a b → Below a.heap.size a (b.setCells g o vs)
  | [], _, _, h => h
  | v :: r, o, b, h => bsl hg r (o + 1) _ (bs h (p := ⟨g, o, none⟩) hg v)
theorem holdC_size (lo : Nat → Nat) (V : Nat → Value) : (holdC lo V).size = 128 := by
  unfold holdC
  rw [List.size_toArray]
  exact holdL_len lo V
/-- the copy of a hold, with the messages of the first processes copied -/
def CopyTo (w wr : World) (lo : Nat → Nat) (R : Nat → List Msg) (V : Nat → Value) (t : Nat) (Vt : Nat → Value) : Prop :=
  wr.heap[w.heap.size]? = some (.cells (holdC lo Vt) 133 (0, 0)) ∧ (∀ q, t ≤ q → Vt q = V q) ∧ (∀ q, q < t → wr.ownsRow (w.heap.size + 1) 42 6 (Vt q) (R q).length (rowsM (R q))) ∧
  (∀ p q b, p < t → q < t → p ≠ q → (Vt p).ownBlock = some b → (Vt q).ownBlock ≠ some b) ∧ Below w.heap.size w wr
theorem CopyTo.begin {w : World} {D : Nat} {lo : Nat → Nat} {R : Nat → List Msg} {V : Nat → Value} :
    CopyTo w ((w.alloc (.cells (holdC (fun _ => 0) (fun _ => .slice none 0 0)) 133)).setCells w.heap.size 0 (holdC lo V).toList) lo R V 0 V := by
  refine ⟨?_, fun _ _ => rfl, fun q hq => absurd hq (by omega), fun p q b hp => absurd hp (by omega), bsl (Nat.le_refl _) _ _ _ (ba (br w) _)⟩
  obtain ⟨cs, h1, h2, h3⟩ := setCells_row (holdC lo V).toList 0 _ _ (heap_alloc_new w (.cells (holdC (fun _ => 0) (fun _ => .slice none 0 0)) 133))
  rw [h1]
  have : cs = holdC lo V := by
    apply Array.ext_getElem?
    intro j
    rw [h3]
    rw [holdC_size]
    have hs : (holdC lo V).toList.length = 128 := by rw [Array.length_toList, holdC_size]
    by_cases hj : j < 128
    · rw [if_pos ⟨by omega, by omega, hj⟩]; simp
    · rw [if_neg (by omega), Array.getElem?_eq_none (by rw [holdC_size]; omega), Array.getElem?_eq_none (by rw [holdC_size]; omega)]
  rw [this]
theorem CopyTo.step {w wr w8 : World} {lo : Nat → Nat} {R : Nat → List Msg} {V Vt : Nat → Value} {t : Nat} {v8 : Value} (h : CopyTo w wr lo R V t Vt) (ht : t < 64) (hb : Below wr.heap.size wr w8)
    (ho8 : w8.ownsRow wr.heap.size 42 6 v8 (R t).length (rowsM (R t))) : CopyTo w (w8.setCell ⟨w.heap.size, 64 + t, none⟩ v8) lo R V (t + 1) (upd Vt t v8) := by
  obtain ⟨h1, h2, h3, h4, h5⟩ := h
  have hN : w.heap.size < wr.heap.size := (Array.getElem?_eq_some_iff.1 h1).1
  have e1 := (hb.block _ hN).trans h1
  have hk : Kept (fun b => b = w.heap.size) w8 (w8.setCell ⟨w.heap.size, 64 + t, none⟩ v8) := (show Kept (fun b => b = w.heap.size) w8 w8 from .refl _ _).setCell (p := ⟨w.heap.size, 64 + t, none⟩) rfl _
  have hlt : ∀ q, q < t → ∀ b, (Vt q).ownBlock = some b → b < wr.heap.size := fun q hq b hb => ((h3 q hq).lt b hb).2
  refine ⟨?_, fun q hq => ?_, fun q hq => ?_, fun q r b hq hr hne hb1 hb2 => ?_, bs (bt h5 hb) (Nat.le_refl _) _⟩
  · rw [← holdC_setv lo Vt ht]
    exact setCell_block e1 (64 + t) v8
  · rw [upd_ne _ _ (by omega)]
    exact h2 q (by omega)
  · by_cases hqt : q = t
    · subst hqt
      rw [upd_same]
      exact own_keptS (ownMore ho8 (by omega)) hk (fun b hb hc => by have := (ho8.lt b hb).1; omega)
    · rw [upd_ne _ _ hqt]
      have ho := h3 q (by omega)
      exact own_keptS (own_keptS ho (Kept.of_below (S := fun _ => False) hb) (fun _ _ h => h)) hk (fun b hb hc => by have := (ho.lt b hb).1; omega)
  · by_cases hqp : q = t
    · subst hqp
      rw [upd_same] at hb1
      rw [upd_ne _ _ (Ne.symm hne)] at hb2
      have := (ho8.lt b hb1).1
      have := hlt r (by omega) b hb2
      omega
    · rw [upd_ne _ _ hqp] at hb1
      by_cases hrp : r = t
      · subst hrp
        rw [upd_same] at hb2
        have := (ho8.lt b hb2).1
        have := hlt q (by omega) b hb1
        omega
      · rw [upd_ne _ _ hrp] at hb2
        exact h4 q r b (by omega) (by omega) hne hb1 hb2
theorem CopyTo.last {w wr : World} {D : Nat} {lo : Nat → Nat} {R : Nat → List Msg} {V Vt : Nat → Value} (h : CopyTo w wr lo R V 64 Vt) (hh : HoldAt w D lo R V) : HoldAt wr w.heap.size lo R Vt ∧ (∀ b, holdS w.heap.size Vt b → w.heap.size ≤ b) ∧ Below w.heap.size w wr := by
  obtain ⟨h1, h2, h3, h4, h5⟩ := h
  refine ⟨⟨h1, fun q hq => ownMore (h3 q hq) (Nat.zero_le _), h4, (hh.below h5).ok⟩, fun b hb => ?_, h5⟩
  rcases hb with rfl | ⟨p, hp, hb⟩
  · exact Nat.le_refl _
  · have := ((h3 p hp).lt b hb).1
    omega
theorem there_row {w : World} {b : Nat} {cs : Array Value} {t : TypeId} (h : w.heap[b]? = some (.cells cs t (0, 0))) : w.there b 0 cs.size := fun j hj => by
  rw [Nat.zero_add]
  exact ⟨by rw [cell_of_row _ _ j _ _ _ h, Array.getElem?_eq_getElem hj]; rfl, frozen_of_row _ _ _ _ _ h⟩
theorem holdL_one {w : World} {D : Nat} {lo : Nat → Nat} {R : Nat → List Msg} {V : Nat → Value} (h : HoldAt w D lo R V) : ∀ v ∈ holdL lo V, v.oneCell' = true := by
  intro v hv
  rcases List.mem_append.1 hv with h1 | h1
  · obtain ⟨p, _, rfl⟩ := List.mem_map.1 h1
    rfl
  · obtain ⟨p, hp, rfl⟩ := List.mem_map.1 h1
    obtain ⟨a, c, e⟩ := h.form (p := p) (by simpa using hp)
    rw [e]
    rfl
set_option maxRecDepth 100000 in
set_option maxHeartbeats 4000000 in
theorem hCopy_any (D : Nat) (lo : Nat → Nat) (R : Nat → List Msg) (V : Nat → Value) (w : World) (h : HoldAt w D lo R V) (hb : HoldBd lo R) :
    Calls Tryd.prog 63 #[.pointer (some ⟨D, 0, none⟩)] w fun e w' => ∃ E V', e = .returned (.pointer (some ⟨E, 0, none⟩)) ∧ HoldAt w' E lo R V' ∧ (∀ b, holdS E V' b → w.heap.size ≤ b) ∧ Below w.heap.size w w' := by
  obtain ⟨Z, hZ⟩ : ∃ Z, Z = holdC (fun _ => 0) (fun _ => .slice none 0 0) := ⟨_, rfl⟩
  have hz : ∀ W : World, (zeroValue 133).run Tryd.prog W = .ok (.agg Z) W := fun W => by rw [hZ]; kernel_rfl
  have hx := heap_alloc_new w (.cells Z 133)
  have hth := there_row hx
  have hB := CopyTo.begin (w := w) (D := D) (lo := lo) (R := R) (V := V)
  have hone : (holdL lo V).toArray.all (·.oneCell') = true := all_oneCell_toArray (holdL_one h)
  have hall := h.all
  have hl := holdL_len lo V
  rw [← hZ] at hB
  rw [show (holdC lo V).toList = holdL lo V from rfl] at hB
  obtain ⟨L, hL⟩ : ∃ L, L = holdL lo V := ⟨_, rfl⟩
  rw [← hL] at hone hall hl hB
  have hZs : Z.size = 128 := by rw [hZ, holdC_size]
  rw [hZs] at hth
  have hLs : L.toArray.size = 128 := by simpa using hl
  have hsz : (Tryd.prog.info? 133).map (·.size) = some L.toArray.size := by rw [hLs]; kernel_rfl
  have hth2 : (w.alloc (.cells Z 133)).there w.heap.size 0 L.toArray.size := by rw [hLs]; exact hth
  have hr := h.vlist
  obtain ⟨C, hC⟩ : ∃ C, C = (List.range 64).map V := ⟨_, rfl⟩
  have hCl : C.length = 64 := by rw [hC]; simp
  have hidx : ∀ (W' : World) (t : Nat), t < 64 → (Instr.index 131 (.agg C.toArray) (.int .i64 (t : Int))).run Tryd.prog W' = .ok (V t) W' := fun W' t ht => by
    obtain ⟨j, hj⟩ : ∃ j, Tryd.prog.info? 27 = some j := Option.isSome_iff_exists.1 (by kernel_rfl)
    have hs : (Tryd.prog.info? 27).map (·.size) = some 1 := by kernel_rfl
    rw [hj] at hs
    exact run_index_cell W' _ 27 42 64 _ _ t _ j Tryd.underlying131 Tryd.underlying27 hj (by simpa using hs) ht (by rw [hC]; simp [List.getElem?_range ht])
  rw [← hC] at hr
  have HB := Lib.hid hB
  have HR := Lib.hid hr
  have HA := Lib.hid (And.intro h hb)
  have HL := Lib.hid hall
  have HT := Lib.hid hth2
  have HO := Lib.hid hone
  have HZ := Lib.hid hsz
  have HI := Lib.hid hidx
  clear h hb hall hx hth hth2 hone hsz hidx hC hr hL hZ hZs hLs hB
  go_enter Tryd.func63, Tryd.ntmps63
  go_upto_region 2 with (first
    | (with_reducible refine wpList_load_mid rfl 133 (.tmp 7) rfl D 0 rfl L _ HL.out Tryd.underlying133 rfl (by rw [hl]; kernel_rfl) ?_)
    | (with_reducible refine wpList_store_mid rfl 133 (.tmp 3) (.tmp 8) rfl w.heap.size 0 L.toArray rfl rfl HT.out HZ.out HO.out ?_)
    | fail)
  have hB := HB.out
  clear HT HO HZ HL HB
  generalize (w.alloc (.cells Z 133)).setCells w.heap.size 0 L = W1 at *
  have hR1 : W1.rangeAt D 64 C := fun j u hu => by
    have hD := HA.out.1.lt
    exact (World.cell?_of_block (a := ⟨D, 64 + j, none⟩) (hB.2.2.2.2.block D hD)).trans (HR.out j u hu)
  have HR1 := Lib.hid hR1
  have HB := Lib.hid hB
  clear hR1 hB
  go_wp2_with (with_reducible refine wpList_load_mid rfl 131 (.tmp 11) rfl D 64 rfl C _ HR1.out Tryd.underlying131 rfl (by rw [hCl]; kernel_rfl) ?_)
  go_loopw [4, 5, 13] (fun u v i wr => ∃ t : Nat, t ≤ 64 ∧ i = .int .i64 (t : Int) ∧ ∃ Vt, CopyTo w wr lo R V t Vt) (fun _ _ i _ => 64 - (intOf i).toNat)
  case atStart => exact ⟨0, by omega, rfl, V, HB.out⟩
  case round =>
    obtain ⟨t, ht, rfl, Vt, hc⟩ := hrel
    by_cases hlt : t < 64
    · have hbool : decide (t < 64) = true := by simpa using hlt
      have hbool' : decide ((t : Int) < 64) = true := by simp; omega
      obtain ⟨adt, capt, hvt⟩ := HA.out.1.form hlt
      have hix : ∀ W' : World, (Instr.index 131 (.agg C.toArray) (.int .i64 (t : Int))).run Tryd.prog W' = .ok (.slice adt (R t).length capt) W' := fun W' => by rw [HI.out W' t hlt, hvt]
      obtain ⟨ad', cap', hv', hle, hc2, hrd⟩ := (HA.out.1.below hc.2.2.2.2).rows hlt
      rw [hvt] at hv'
      injection hv' with e1 e2 e3
      subst e1; subst e3
      have hin : RowsIn wr (.slice adt (R t).length capt) (R t) := ⟨_, _, rfl, hrd⟩
      have hCl := kClone_gen _ (R t) wr hin (HA.out.2 t hlt).1
      have HCl := Lib.hid hCl
      have HK := Lib.hid (And.intro hc hlt)
      clear hin hCl hc hvt hle hc2 hrd hlt
      go_wp2_with fail
      refine HCl.out.mono ?_
      rintro e w8 ⟨⟨v8, rfl, ho8⟩, hb8⟩
      have hstep := HK.out.1.step HK.out.2 hb8 ho8
      have hblk := (hb8.block _ (Array.getElem?_eq_some_iff.1 HK.out.1.1).1).trans HK.out.1.1
      have c0 : w8.cell? ⟨w.heap.size, 64 + t, none⟩ = some (Vt t) := (cell_of_row _ _ (64 + t) _ _ _ hblk).trans (holdC_v _ _ HK.out.2)
      have c1 : w8.frozen? ⟨w.heap.size, 64 + t, none⟩ = false := frozen_of_row _ _ _ _ _ hblk
      obtain ⟨a8, c8, rfl⟩ := ownForm ho8
      have HS := Lib.hid hstep
      have ht64 : t < 64 := HK.out.2
      clear hstep hblk ho8 hb8
      go_wp2_with fail
      exact ⟨⟨t + 1, ht64, by go_num, _, HS.out⟩, measI ht64⟩
    · have hbool : decide (t < 64) = false := by simpa using hlt
      have hbool' : decide ((t : Int) < 64) = false := by simp; omega
      obtain rfl : t = 64 := by omega
      have HE := Lib.hid (hc.last HA.out.1)
      clear hc
      go_wp2_with fail
      go_ret
      exact ⟨_, Vt, rfl, HE.out⟩
end Go.Proofs.YtgjlcjbmcnofiaaDoor
