/-
  The law HoldBack, ready for its row.
  Conditions: none.
-/
import Derived.Test.YtnjcebkdkklidaaHoldH
import Derived.Test.YtnjcebkdkklidaaMsgC
namespace Go.Proofs.Ytnjcebkdkklidaa
set_option linter.unusedVariables false
set_option linter.unusedSimpArgs false
open Go.RowKit Go.ChangeShapes Go.WideShapes Go.Deep
/-- a message of sender 7, numbered -/
def numM (m : Msg) (i : Nat) : Msg := { m with frm := 7, seq := i + 1 }
theorem numM_A (x : Msg) (k : Nat) : msgA (numM x k) = #[.int .i64 7, .int .u32 ((k : Int) + 1), .int .u64 (x.stamp : Int), .int .i64 x.service, .slice x.da x.ds.length x.dc, .string x.pay] := by
  unfold msgA numM
  simp
theorem numM_ok {w : World} {x : Msg} (h : MsgOk w x) {k : Nat} (hk : k ≤ 1000) : MsgOk w (numM x k) := by
  obtain ⟨h1, h2, h3, h4, h5⟩ := h
  exact ⟨h1, h2, by show k + 1 < _; omega, h4, h5⟩
/-- the first messages, numbered, as they read -/
def numL (l : List Msg) (k : Nat) : List (Int × Nat × Nat × Int × List Nat × ByteArray) := (List.range k).map fun i => core (numM (gm l i) i)
theorem numL_succ (l : List Msg) (k : Nat) : numL l (k + 1) = numL l k ++ [core (numM (gm l k) k)] := by unfold numL; rw [List.range_succ, List.map_append]; rfl
theorem numL_len (l : List Msg) (k : Nat) : (numL l k).length = k := by simp [numL]
/-- the hold's rows -/
def rowOf (L : List Msg) : Nat → List Msg := upd R0 7 L
theorem rowOf_bd {L : List Msg} (h : L.length ≤ 1000) : HoldBd lo0 (rowOf L) := fun p _ => by
  unfold rowOf
  by_cases e : p = 7
  · subst e; rw [upd_same]; exact ⟨h, by simp [lo0]⟩
  · rw [upd_ne _ _ e]; simp [R0, lo0]
theorem rowOf_upd (L K : List Msg) : upd (rowOf L) 7 K = rowOf K := by
  unfold rowOf upd
  funext q
  split <;> rfl
theorem rowOf_self (L : List Msg) : rowOf L 7 = L := upd_same _ _ _
theorem putK_ok {L : List Msg} {m : Msg} (h1 : m.frm = 7) (h2 : m.seq = L.length + 1) : putK lo0 (rowOf L) m = 0 := by
  unfold putK
  rw [h1, if_neg (by decide), if_pos]
  rw [show (7 : Int).toNat = 7 from rfl, rowOf_self, h2]
  unfold lo0
  omega
theorem putK_no {L : List Msg} {m : Msg} (h1 : m.frm = 7) (h2 : m.seq ≠ L.length + 1) : putK lo0 (rowOf L) m = 13 := by
  unfold putK
  rw [h1, if_neg (by decide), if_neg]
  rw [show (7 : Int).toNat = 7 from rfl, rowOf_self]
  unfold lo0
  omega
structure Dropped (lo : Nat → Nat) (R : Nat → List Msg) (L : List Msg) (d : Nat) : Prop where
  lo7 : lo 7 = d
  r7 : R 7 = L.drop d
  lo6 : lo 6 = 0
  r6 : R 6 = []
  bd : HoldBd lo R
  ds : ∀ p, p < 64 → ∀ m ∈ R p, m ∈ L
theorem dropped {L : List Msg} (hL : L.length ≤ 1000) (upto : Nat) : Dropped (dropLo lo0 (rowOf L) 7 upto) (dropR lo0 (rowOf L) 7 upto) L (min upto L.length) := by
  have e7 : (7 : Int).toNat = 7 := rfl
  have hc : dropC lo0 (rowOf L) 7 upto = decide (0 < min upto L.length) := by
    unfold dropC
    rw [e7, rowOf_self, show procB 7 = true from rfl]
    simp [lo0]
  have hne : (6 : Nat) ≠ 7 := by decide
  have h6 : rowOf L 6 = [] := by unfold rowOf; rw [upd_ne _ _ hne]; rfl
  unfold dropLo dropR
  rw [hc, e7, rowOf_self]
  have hz : lo0 7 = 0 := rfl
  rw [hz, Nat.zero_add, Nat.sub_zero]
  by_cases h0 : 0 < min upto L.length
  · rw [if_pos (by simpa using h0), if_pos (by simpa using h0)]
    refine ⟨upd_same _ _ _, upd_same _ _ _, by rw [upd_ne _ _ hne]; rfl, by rw [upd_ne _ _ hne]; exact h6, fun p hp => ?_, fun p hp m hm => ?_⟩
    · by_cases e : p = 7
      · subst e; rw [upd_same, upd_same]; rw [List.length_drop]; omega
      · rw [upd_ne _ _ e, upd_ne _ _ e]; exact rowOf_bd hL p hp
    · by_cases e : p = 7
      · subst e; rw [upd_same] at hm; exact List.mem_of_mem_drop hm
      · rw [upd_ne _ _ e] at hm
        unfold rowOf at hm
        rw [upd_ne _ _ e] at hm
        cases hm
  · rw [if_neg (by simpa using h0), if_neg (by simpa using h0)]
    have h0' : min upto L.length = 0 := by omega
    refine ⟨by rw [h0']; rfl, by rw [h0', rowOf_self]; rfl, rfl, h6, rowOf_bd hL, fun p hp m hm => ?_⟩
    by_cases e : p = 7
    · subst e; rw [rowOf_self] at hm; exact hm
    · unfold rowOf at hm
      rw [upd_ne _ _ e] at hm
      cases hm
theorem Dropped.get {lo : Nat → Nat} {R : Nat → List Msg} {L : List Msg} {d k : Nat} (h : Dropped lo R L d) (hd : d ≤ L.length) (hk : k < L.length) : getZ lo R 7 (k + 1) = if d < k + 1 then some (gm L k) else none := by
  unfold getZ
  rw [show (7 : Int).toNat = 7 from rfl, h.lo7, h.r7, show procB 7 = true from rfl, List.length_drop]
  by_cases hlt : d < k + 1
  · rw [if_pos ⟨rfl, hlt, by omega⟩, if_pos hlt]
    rw [gm_get (by rw [List.length_drop]; omega), gm_get hk, List.getElem_drop]
    congr 2
    omega
  · rw [if_neg (fun hh => hlt hh.2.1), if_neg hlt]
theorem core_numL {L l : List Msg} {k : Nat} (h : L.map core = numL l l.length) (hk : k < l.length) : core (gm L k) = core (numM (gm l k) k) := by
  have hl : L.length = l.length := by have := congrArg List.length h; rw [List.length_map, numL_len] at this; exact this
  have h1 := congrArg (fun z => z[k]?) h
  simp only [List.getElem?_map, numL, List.getElem?_range hk] at h1
  rw [List.getElem?_eq_getElem (by omega)] at h1
  simp only [Option.map_some, Option.some.injEq] at h1
  rw [gm_get (by omega)]
  exact h1
theorem numL_ds {L l : List Msg} (h : L.map core = numL l l.length) (hl : ∀ m ∈ l, m.ds.length ≤ 20000) : ∀ m ∈ L, m.ds.length ≤ 1000000 := by
  intro m hm
  have h1 : core m ∈ numL l l.length := by rw [← h]; exact List.mem_map_of_mem hm
  unfold numL at h1
  obtain ⟨i, hi, e⟩ := List.mem_map.1 h1
  have hi' : i < l.length := by simpa using hi
  have e5 := (core_iff.1 e).2.2.2.2.1
  have e6 : m.ds = (gm l i).ds := e5.symm
  rw [e6, gm_get hi']
  have := hl _ (List.getElem_mem hi')
  omega
set_option maxRecDepth 100000 in
set_option maxHeartbeats 4000000 in
theorem law_holdBack (v : Value) (l : List Msg) (upto : Nat) (w : World) (h : MsgsAt w v l) (hu : upto < 4294967296) :
    Calls Try.prog 4 #[v, .int .u32 (upto : Int)] w fun e w' => e = .returned (.bool true) ∧ Below w.heap.size w w' := by
  have HH := Lib.hid h
  have HAw := Lib.hid (awake12_any w)
  obtain ⟨ad, cap, rfl, hz⟩ := id h
  clear h hz
  go_enter Try.func4, Try.ntmps4
  go_wp2_with fail
  refine HAw.out.mono ?_
  rintro e w1 ⟨rfl, hb1⟩
  have HF := Lib.hid (Few_any _ l w1 (HH.out.below hb1))
  have HB1 := Lib.hid hb1
  clear HAw hb1
  go_wp2_with fail
  refine HF.out.mono ?_
  rintro e w2 ⟨⟨f, rfl, hf⟩, hb2⟩
  have HF2 := Lib.hid (And.intro hf (bt HB1.out hb2))
  clear HF hf hb2
  cases f
  · go_wp2
    go_ret
    exact ⟨rfl, HF2.out.2⟩
  · have hl : l.length ≤ 300 := (HF2.out.1 rfl).1
    have HFO := Lib.hid (fun m hm => ((HF2.out.1 rfl).2 m hm).2)
    have HN := Lib.hid (hNew_any w2)
    have HB2 := Lib.hid HF2.out.2
    clear HF2
    go_wp2_with fail
    refine HN.out.mono ?_
    rintro e w3 ⟨rfl, h3, hb3⟩
    obtain ⟨D, hD⟩ : ∃ D, D = w2.heap.size := ⟨_, rfl⟩
    obtain ⟨V0, hV0⟩ : ∃ V0 : Nat → Value, V0 = fun _ => .slice none 0 0 := ⟨_, rfl⟩
    have hf0 : HoldFrom w.heap.size D V0 := by
      rintro b (e | ⟨p, _, e⟩)
      · have := HB2.out.size; omega
      · rw [hV0] at e; cases e
    have h3' : HoldAt w3 D lo0 (rowOf []) V0 := by
      rw [hV0, hD]
      have e : rowOf [] = fun _ => [] := by unfold rowOf upd R0; funext q; split <;> rfl
      rw [e]
      exact h3
    rw [← hD]
    have H3 := Lib.hid (And.intro h3' (And.intro (bt HB2.out hb3) hf0))
    clear h3 h3' hb3 hf0 hD hV0 HN
    go_wp2_with fail
    go_loopw [6] (fun i wr => ∃ k : Nat, k ≤ l.length ∧ i = .int .i64 (k : Int) ∧ (∃ L V, Hid (L.map core = numL l k) ∧ HoldAt wr D lo0 (rowOf L) V ∧ HoldFrom w.heap.size D V) ∧ Below w.heap.size w wr) (fun i _ => l.length - (intOf i).toNat)
    case atStart => exact ⟨0, by omega, rfl, ⟨[], V0, rfl, H3.out.1, H3.out.2.2⟩, H3.out.2.1⟩
    case round =>
      obtain ⟨k, hk, rfl, ⟨L, V, HL, hh, hfr⟩, hB⟩ := hrel
      have hLl : L.length = k := by have := congrArg List.length HL.out; rw [List.length_map, numL_len] at this; exact this
      by_cases hlt : k < l.length
      · have hbool : decide ((k : Int) < (l.length : Int)) = true := by simpa using hlt
        have hi0 : (k : Int) < (l.length : Int) := by omega
        have hk3 : k ≤ 300 := by omega
        obtain ⟨g, o, rfl, hr', hok⟩ := (HH.out.below hB).bel hlt
        have hrow := hr' wr ⟨⟨wr, br _⟩, rfl⟩
        have hds := HFO.out _ (List.getElem_mem hlt)
        obtain ⟨x, hx⟩ : ∃ x, x = l[k] := ⟨_, rfl⟩
        have hgx : gm l k = x := by rw [gm_get hlt, hx]
        rw [← hx] at hrow hok hds
        have y0 : wr.cell? ⟨g, o + k * 6, none⟩ = some (.int .i64 x.frm) := hrow 0 _ rfl
        have y1 : wr.cell? ⟨g, o + k * 6 + 1, none⟩ = some (.int .u32 (x.seq : Int)) := hrow 1 _ rfl
        have y2 : wr.cell? ⟨g, o + k * 6 + 2, none⟩ = some (.int .u64 (x.stamp : Int)) := hrow 2 _ rfl
        have y3 : wr.cell? ⟨g, o + k * 6 + 3, none⟩ = some (.int .i64 x.service) := hrow 3 _ rfl
        have y4 : wr.cell? ⟨g, o + k * 6 + 4, none⟩ = some (.slice x.da x.ds.length x.dc) := hrow 4 _ rfl
        have y5 : wr.cell? ⟨g, o + k * 6 + 5, none⟩ = some (.string x.pay) := hrow 5 _ rfl
        have hbA := ba (br wr) (.cells (msgA (numM x k)) 37)
        have hxA := heap_alloc_new wr (.cells (msgA (numM x k)) 37)
        have HP := Lib.hid (hPut_two D lo0 (rowOf L) V (numM x k) _ (hh.below hbA) (rowOf_bd (by omega)) (numM_ok (hok.below hbA) (by omega)) (by show x.ds.length ≤ _; omega))
        have HA := Lib.hid (And.intro hbA (And.intro hxA (And.intro hh (And.intro hfr (And.intro hB (And.intro hok (And.intro hgx (And.intro hlt hds))))))))
        rw [numM_A] at HP HA
        clear hr' hrow hx hgx hh hfr hB hok hbA hxA hlt hds hk
        go_wp2_with fail
        refine HP.out.mono ?_
        rintro e w4 ⟨rfl, hk4, V4, hn4, hor⟩
        have hpk : putK lo0 (rowOf L) (numM x k) = 0 := putK_ok rfl (by show k + 1 = _; omega)
        obtain ⟨m, hcm, h4⟩ : ∃ m', core m' = core (numM x k) ∧ HoldAt w4 D lo0 (rowOf (L ++ [m'])) V4 := by
          rcases hor with ⟨h1, _⟩ | ⟨_, _, _, m', hc, h5⟩
          · exact absurd hpk h1
          · have e7 : (numM x k).frm.toNat = 7 := rfl
            rw [e7, rowOf_self, rowOf_upd] at h5
            exact ⟨m', hc, h5⟩
        rw [hpk]
        have hbwA := bt HA.out.2.2.2.2.1 HA.out.1
        have hb4 := HA.out.2.2.2.1.below hbwA hbwA.size hk4
        have hf4 := HA.out.2.2.2.1.new hn4 hbwA.size
        have hx4 := hk4.keep HA.out.2.1 (HA.out.2.2.1.not_in (Nat.le_refl _))
        have hok4 : MsgOk w4 x := by
          obtain ⟨_, _, _, _, h5⟩ := (HH.out.below hb4).bel HA.out.2.2.2.2.2.2.2.1
          rw [← HA.out.2.2.2.2.2.2.1, gm_get HA.out.2.2.2.2.2.2.2.1]
          exact h5
        have HP2 := Lib.hid (hPut_two D lo0 (rowOf (L ++ [m])) V4 (numM x k) w4 h4 (rowOf_bd (by simp; omega)) (numM_ok hok4 (by omega)) (by show x.ds.length ≤ _; have := HA.out.2.2.2.2.2.2.2.2; omega))
        rw [numM_A] at HP2
        have c0 : w4.cell? ⟨wr.heap.size, 0, none⟩ = some (.int .i64 7) := cell_of_row _ _ 0 _ _ _ hx4
        have c1 : w4.cell? ⟨wr.heap.size, 1, none⟩ = some (.int .u32 ((k : Int) + 1)) := cell_of_row _ _ 1 _ _ _ hx4
        have c2 : w4.cell? ⟨wr.heap.size, 2, none⟩ = some (.int .u64 (x.stamp : Int)) := cell_of_row _ _ 2 _ _ _ hx4
        have c3 : w4.cell? ⟨wr.heap.size, 3, none⟩ = some (.int .i64 x.service) := cell_of_row _ _ 3 _ _ _ hx4
        have c4 : w4.cell? ⟨wr.heap.size, 4, none⟩ = some (.slice x.da x.ds.length x.dc) := cell_of_row _ _ 4 _ _ _ hx4
        have c5 : w4.cell? ⟨wr.heap.size, 5, none⟩ = some (.string x.pay) := cell_of_row _ _ 5 _ _ _ hx4
        have H4 := Lib.hid (And.intro h4 (And.intro hb4 (And.intro hf4 hcm)))
        clear hor hk4 hn4 hpk h4 hcm hbwA hb4 hf4 hx4 hok4 y0 y1 y2 y3 y4 y5
        go_wp2_with fail
        refine HP2.out.mono ?_
        rintro e w5 ⟨rfl, hk5, V5, hn5, hor⟩
        have hpk : putK lo0 (rowOf (L ++ [m])) (numM x k) = 13 := putK_no rfl (by show k + 1 ≠ _; simp; omega)
        have h5 : HoldAt w5 D lo0 (rowOf (L ++ [m])) V5 := by
          rcases hor with ⟨_, h⟩ | ⟨h, _⟩
          · exact h
          · rw [hpk] at h; cases h
        rw [hpk]
        have hb5 := H4.out.2.2.1.below H4.out.2.1 H4.out.2.1.size hk5
        have hf5 := H4.out.2.2.1.new hn5 H4.out.2.1.size
        have hmap : (L ++ [m]).map core = numL l (k + 1) := by
          rw [List.map_append, HL.out, numL_succ, List.map_singleton, H4.out.2.2.2, HA.out.2.2.2.2.2.2.1]
        have H5 := Lib.hid (And.intro h5 (And.intro hb5 (And.intro hf5 (And.intro hmap HA.out.2.2.2.2.2.2.2.1))))
        clear hor hk5 hn5 hpk h5 hb5 hf5 hmap
        go_wp2
        exact ⟨⟨k + 1, H5.out.2.2.2.2, by go_num, ⟨L ++ [m], V5, H5.out.2.2.2.1, H5.out.1, H5.out.2.2.1⟩, H5.out.2.1⟩, measI H5.out.2.2.2.2⟩
      · have hbool : decide ((k : Int) < (l.length : Int)) = false := by simpa using hlt
        obtain rfl : k = l.length := by omega
        obtain ⟨d, hd⟩ : ∃ d, d = min upto L.length := ⟨_, rfl⟩
        have hdr := dropped (L := L) (by omega) upto
        obtain ⟨lo2, hlo2⟩ : ∃ z, z = dropLo lo0 (rowOf L) 7 upto := ⟨_, rfl⟩
        obtain ⟨R2, hR2⟩ : ∃ z, z = dropR lo0 (rowOf L) 7 upto := ⟨_, rfl⟩
        rw [← hd, ← hlo2, ← hR2] at hdr
        have HD := Lib.hid (show Calls Try.prog 10 #[.pointer (some ⟨D, 0, none⟩), .int .i64 7, .int .u32 (upto : Int)] wr fun e w' => e = .returned (.tuple #[]) ∧ (∃ V', HoldAt w' D lo2 R2 V' ∧ newV wr V V') ∧ Kept (holdS D V) wr w' from by rw [hlo2, hR2]; exact hDrop_any D lo0 (rowOf L) V 7 upto wr hh (rowOf_bd (by omega)) hu)
        have HDR := Lib.hid (And.intro hdr (And.intro hd hLl))
        have HFR := Lib.hid (And.intro hfr hB)
        have HDS := Lib.hid (numL_ds HL.out HFO.out)
        have hdn : d ≤ 300 := by omega
        have hdle : d ≤ l.length := by omega
        clear hh hfr hB hLl hd hdr hlo2 hR2 hk H3
        go_wp2_with fail
        refine HD.out.mono ?_
        rintro e w7 ⟨rfl, ⟨V2, h7, hn7⟩, hk7⟩
        have hb7 := HFR.out.1.below HFR.out.2 HFR.out.2.size hk7
        have H7 := Lib.hid (And.intro h7 hb7)
        clear h7 hn7 hk7 hb7 HD
        go_wp2_with fail
        go_loopw [8] (fun i wr => ∃ k : Nat, k ≤ l.length ∧ i = .int .i64 (k : Int) ∧ Below w7.heap.size w7 wr) (fun i _ => l.length - (intOf i).toNat)
        case atStart => exact ⟨0, by omega, rfl, br _⟩
        case round =>
          obtain ⟨k, hk, rfl, hB⟩ := hrel
          by_cases hlt : k < l.length
          · have hbool2 : decide ((k : Int) < (l.length : Int)) = true := by simpa using hlt
            have hi0 : (k : Int) < (l.length : Int) := by omega
            have hk3 : k ≤ 300 := by omega
            have hbw := bt H7.out.2 hB
            obtain ⟨g, o, rfl, hr', hok⟩ := (HH.out.below hbw).bel hlt
            have hrow := hr' _ ⟨⟨_, br _⟩, rfl⟩
            obtain ⟨x, hx⟩ : ∃ x, x = l[k] := ⟨_, rfl⟩
            have hgx : gm l k = x := by rw [gm_get hlt, hx]
            rw [← hx] at hrow hok
            have y0 : wr.cell? ⟨g, o + k * 6, none⟩ = some (.int .i64 x.frm) := hrow 0 _ rfl
            have y1 : wr.cell? ⟨g, o + k * 6 + 1, none⟩ = some (.int .u32 (x.seq : Int)) := hrow 1 _ rfl
            have y2 : wr.cell? ⟨g, o + k * 6 + 2, none⟩ = some (.int .u64 (x.stamp : Int)) := hrow 2 _ rfl
            have y3 : wr.cell? ⟨g, o + k * 6 + 3, none⟩ = some (.int .i64 x.service) := hrow 3 _ rfl
            have y4 : wr.cell? ⟨g, o + k * 6 + 4, none⟩ = some (.slice x.da x.ds.length x.dc) := hrow 4 _ rfl
            have y5 : wr.cell? ⟨g, o + k * 6 + 5, none⟩ = some (.string x.pay) := hrow 5 _ rfl
            have hbA := ba (br wr) (.cells (msgA (numM x k)) 37)
            have hxA := heap_alloc_new wr (.cells (msgA (numM x k)) 37)
            have hgz := HDR.out.1.get (k := k) (by rw [HDR.out.2.2]; exact hdle) (by rw [HDR.out.2.2]; exact hlt)
            have hG := hGet_any D lo2 R2 V2 7 (k + 1) (wr.alloc (.cells (msgA (numM x k)) 37)) (H7.out.1.below (bt hB hbA)) HDR.out.1.bd (fun p hp m hm => HDS.out m (HDR.out.1.ds p hp m hm))
            rw [hgz] at hG
            have HG := Lib.hid (show Calls Try.prog 15 #[.pointer (some ⟨D, 0, none⟩), .int .i64 7, .int .u32 ((k : Int) + 1)] (wr.alloc (.cells (msgA (numM x k)) 37)) fun e w' => GetEnd (if d < k + 1 then some (gm L k) else none) e w' ∧ Below (wr.alloc (.cells (msgA (numM x k)) 37)).heap.size (wr.alloc (.cells (msgA (numM x k)) 37)) w' from by
              have := hG
              rw [show (((k + 1 : Nat) : Int)) = (k : Int) + 1 by omega] at this
              exact this)
            have hcx := core_numL HL.out hlt
            rw [hgx] at hcx
            have HA := Lib.hid (And.intro hbA (And.intro hxA (And.intro hB (And.intro hok (And.intro hcx hlt)))))
            rw [numM_A] at HG HA
            clear hr' hrow hx hgx hB hok hbA hxA hlt hk hgz hG hcx hbw
            go_wp2_with fail
            refine HG.out.mono ?_
            rintro e w8 ⟨hge, hb8⟩
            have hx8 := (hb8.block _ (Array.getElem?_eq_some_iff.1 HA.out.2.1).1).trans HA.out.2.1
            clear y0 y1 y2 y3 y4 y5
            by_cases hdk : d < k + 1
            · rw [if_pos hdk] at hge
              obtain ⟨m, rfl, hcm, hom⟩ := hge
              have hma : msgA m = #[.int .i64 m.frm, .int .u32 (m.seq : Int), .int .u64 (m.stamp : Int), .int .i64 m.service, .slice m.da m.ds.length m.dc, .string m.pay] := rfl
              have hup : upto < k + 1 := by have h1 := HDR.out.2.1; have h2 := HDR.out.2.2; have h3 := HA.out.2.2.2.2.2; omega
              have d1 : decide (upto < k + 1) = true := by simpa using hup
              have d2 : decide ((upto : Int) < (k : Int) + 1) = true := by simp; omega
              have hbB := ba (br w8) (.cells (msgA m) 37)
              have hxB := (hbB.block _ (Array.getElem?_eq_some_iff.1 hx8).1).trans hx8
              have hxm := heap_alloc_new w8 (.cells (msgA m) 37)
              have hS := Same_any m (numM x k) (w8.alloc (.cells (msgA m) 37)) (hom.below hbB) (numM_ok ((HA.out.2.2.2.1.below HA.out.1).below (bt hb8 hbB)) (by omega))
              rw [core_same, hcm, HA.out.2.2.2.2.1, decide_eq_true rfl, numM_A] at hS
              have HS := Lib.hid hS
              have HB9 := Lib.hid (And.intro (bt HA.out.2.2.1 (bt HA.out.1 (bt hb8 hbB))) HA.out.2.2.2.2.2)
              have c0 : (w8.alloc (.cells (msgA m) 37)).cell? ⟨wr.heap.size, 0, none⟩ = some (.int .i64 7) := cell_of_row _ _ 0 _ _ _ hxB
              have c1 : (w8.alloc (.cells (msgA m) 37)).cell? ⟨wr.heap.size, 1, none⟩ = some (.int .u32 ((k : Int) + 1)) := cell_of_row _ _ 1 _ _ _ hxB
              have c2 : (w8.alloc (.cells (msgA m) 37)).cell? ⟨wr.heap.size, 2, none⟩ = some (.int .u64 (x.stamp : Int)) := cell_of_row _ _ 2 _ _ _ hxB
              have c3 : (w8.alloc (.cells (msgA m) 37)).cell? ⟨wr.heap.size, 3, none⟩ = some (.int .i64 x.service) := cell_of_row _ _ 3 _ _ _ hxB
              have c4 : (w8.alloc (.cells (msgA m) 37)).cell? ⟨wr.heap.size, 4, none⟩ = some (.slice x.da x.ds.length x.dc) := cell_of_row _ _ 4 _ _ _ hxB
              have c5 : (w8.alloc (.cells (msgA m) 37)).cell? ⟨wr.heap.size, 5, none⟩ = some (.string x.pay) := cell_of_row _ _ 5 _ _ _ hxB
              rw [hma] at HS HB9 c0 c1 c2 c3 c4 c5 ⊢
              have k0 : (w8.alloc (.cells #[.int .i64 m.frm, .int .u32 (m.seq : Int), .int .u64 (m.stamp : Int), .int .i64 m.service, .slice m.da m.ds.length m.dc, .string m.pay] 37)).cell? ⟨w8.heap.size, 0, none⟩ = some (.int .i64 m.frm) := cell_of_row _ _ 0 _ _ _ hxm
              have k1 : (w8.alloc (.cells #[.int .i64 m.frm, .int .u32 (m.seq : Int), .int .u64 (m.stamp : Int), .int .i64 m.service, .slice m.da m.ds.length m.dc, .string m.pay] 37)).cell? ⟨w8.heap.size, 1, none⟩ = some (.int .u32 (m.seq : Int)) := cell_of_row _ _ 1 _ _ _ hxm
              have k2 : (w8.alloc (.cells #[.int .i64 m.frm, .int .u32 (m.seq : Int), .int .u64 (m.stamp : Int), .int .i64 m.service, .slice m.da m.ds.length m.dc, .string m.pay] 37)).cell? ⟨w8.heap.size, 2, none⟩ = some (.int .u64 (m.stamp : Int)) := cell_of_row _ _ 2 _ _ _ hxm
              have k3 : (w8.alloc (.cells #[.int .i64 m.frm, .int .u32 (m.seq : Int), .int .u64 (m.stamp : Int), .int .i64 m.service, .slice m.da m.ds.length m.dc, .string m.pay] 37)).cell? ⟨w8.heap.size, 3, none⟩ = some (.int .i64 m.service) := cell_of_row _ _ 3 _ _ _ hxm
              have k4 : (w8.alloc (.cells #[.int .i64 m.frm, .int .u32 (m.seq : Int), .int .u64 (m.stamp : Int), .int .i64 m.service, .slice m.da m.ds.length m.dc, .string m.pay] 37)).cell? ⟨w8.heap.size, 4, none⟩ = some (.slice m.da m.ds.length m.dc) := cell_of_row _ _ 4 _ _ _ hxm
              have k5 : (w8.alloc (.cells #[.int .i64 m.frm, .int .u32 (m.seq : Int), .int .u64 (m.stamp : Int), .int .i64 m.service, .slice m.da m.ds.length m.dc, .string m.pay] 37)).cell? ⟨w8.heap.size, 5, none⟩ = some (.string m.pay) := cell_of_row _ _ 5 _ _ _ hxm
              obtain ⟨W9, hW9⟩ : ∃ W9, W9 = w8.alloc (.cells #[.int .i64 m.frm, .int .u32 (m.seq : Int), .int .u64 (m.stamp : Int), .int .i64 m.service, .slice m.da m.ds.length m.dc, .string m.pay] 37) := ⟨_, rfl⟩
              rw [← hW9] at HS HB9 c0 c1 c2 c3 c4 c5 k0 k1 k2 k3 k4 k5
              clear hx8 hcm hom hma hup hbB hxB hxm hS hb8 hdk
              go_upto_region 22 with (fail)
              rw [← hW9]
              clear hW9
              go_wp2_with fail
              refine HS.out.mono ?_
              rintro e w10 ⟨rfl, hb10⟩
              have HB10 := Lib.hid (bt HB9.out.1 hb10)
              clear hb10
              go_wp2
              exact ⟨⟨k + 1, HB9.out.2, by go_num, HB10.out⟩, measI HB9.out.2⟩
            · rw [if_neg hdk] at hge
              have hge' : e = .returned (.tuple #[.agg (msgA zeroM), .bool false]) := hge
              subst hge'
              have hmz : msgA zeroM = #[.int .i64 0, .int .u32 0, .int .u64 0, .int .i64 0, .slice none 0 0, .string ⟨#[]⟩] := rfl
              have hup : ¬ upto < k + 1 := by have h1 := HDR.out.2.1; have h2 := HDR.out.2.2; have h3 := HA.out.2.2.2.2.2; omega
              have d1 : decide (upto < k + 1) = false := by simpa using hup
              have d2 : decide ((upto : Int) < (k : Int) + 1) = false := by simp; omega
              have hbB := ba (br w8) (.cells (msgA zeroM) 37)
              have hxB := (hbB.block _ (Array.getElem?_eq_some_iff.1 hx8).1).trans hx8
              have c1 : (w8.alloc (.cells (msgA zeroM) 37)).cell? ⟨wr.heap.size, 1, none⟩ = some (.int .u32 ((k : Int) + 1)) := cell_of_row _ _ 1 _ _ _ hxB
              have HB9 := Lib.hid (And.intro (bt HA.out.2.2.1 (bt HA.out.1 (bt hb8 hbB))) HA.out.2.2.2.2.2)
              rw [hmz] at HB9 c1 ⊢
              clear hx8 hmz hup hbB hxB hb8 hdk hge
              go_wp2
              exact ⟨⟨k + 1, HB9.out.2, by go_num, HB9.out.1⟩, measI HB9.out.2⟩
          · have hbool2 : decide ((k : Int) < (l.length : Int)) = false := by simpa using hlt
            obtain rfl : k = l.length := by omega
            have h8 := H7.out.1.below hB
            have hbw := bt H7.out.2 hB
            obtain ⟨n, hn⟩ : ∃ n, n = l.length := ⟨_, rfl⟩
            have hLn : L.length = n := by rw [hn]; exact HDR.out.2.2
            have hCo : ∀ W, Below wr.heap.size wr W → Calls Try.prog 18 #[.pointer (some ⟨D, 0, none⟩), .int .i64 7] W fun e w' => e = .returned (.int .u32 (n : Int)) ∧ Below W.heap.size W w' := fun W hW => by
              have := hCount_at D lo2 R2 V2 7 W (h8.below hW) HDR.out.1.bd
              rw [show cntZ lo2 R2 7 = n from by
                unfold cntZ
                rw [show procB 7 = true from rfl, if_pos rfl, show (7 : Int).toNat = 7 from rfl, HDR.out.1.lo7, HDR.out.1.r7, List.length_drop]
                have := HDR.out.2.1
                omega] at this
              exact this
            have hCo6 : ∀ W, Below wr.heap.size wr W → Calls Try.prog 18 #[.pointer (some ⟨D, 0, none⟩), .int .i64 6] W fun e w' => e = .returned (.int .u32 0) ∧ Below W.heap.size W w' := fun W hW => by
              have := hCount_at D lo2 R2 V2 6 W (h8.below hW) HDR.out.1.bd
              rw [show cntZ lo2 R2 6 = 0 from by
                unfold cntZ
                rw [show procB 6 = true from rfl, if_pos rfl, show (6 : Int).toNat = 6 from rfl, HDR.out.1.lo6, HDR.out.1.r6]
                rfl] at this
              exact this
            have hLo : ∀ W, Below wr.heap.size wr W → Calls Try.prog 26 #[.pointer (some ⟨D, 0, none⟩), .int .i64 7] W fun e w' => e = .returned (.int .u32 (d : Int)) ∧ Below W.heap.size W w' := fun W hW => by
              have := hLow_at D lo2 R2 V2 7 W (h8.below hW)
              rw [show procB 7 = true from rfl, if_pos rfl, show (7 : Int).toNat = 7 from rfl, HDR.out.1.lo7] at this
              exact this
            have HCo := Lib.hid hCo
            have HCo6 := Lib.hid hCo6
            have HLo := Lib.hid hLo
            have hn3 : n ≤ 300 := by omega
            have hdm : d = min upto n := by rw [HDR.out.2.1, hLn]
            have m1 : (if n < upto then (n : Int) else (upto : Int)) = (d : Int) := by split <;> omega
            have m2 : (if upto < n then (upto : Int) else (n : Int)) = (d : Int) := by split <;> omega
            have m3 : (if upto ≤ n then (upto : Int) else (n : Int)) = (d : Int) := by split <;> omega
            have m4 : min (upto : Int) (n : Int) = (d : Int) := by omega
            have m5 : IntKind.u32.wrap (n : Int) = (n : Int) := by rw [IntKind.wrap_u32]; omega
            have m6 : ((n : Int) == (n : Int)) = true := by simp
            have m7 : ((d : Int) == (d : Int)) = true := by simp
            have HBW := Lib.hid hbw
            rw [← hn]
            clear h8 hCo hCo6 hLo hLn hdm hbw hk hdle hn hB
            go_wp2_with fail
            refine (HCo.out _ (br _)).mono ?_
            rintro e w9 ⟨rfl, hb9⟩
            have HB9 := Lib.hid hb9
            clear hb9
            go_wp2_with fail
            refine (HLo.out _ HB9.out).mono ?_
            rintro e w10 ⟨rfl, hb10⟩
            have HB10 := Lib.hid (bt HB9.out hb10)
            clear hb10
            go_wp2_with fail
            refine (HCo6.out _ HB10.out).mono ?_
            rintro e w11 ⟨rfl, hb11⟩
            have HB11 := Lib.hid (bt HBW.out (bt HB10.out hb11))
            clear hb11
            go_wp2
            go_ret
            exact ⟨rfl, HB11.out⟩
theorem row_holdBack {H : Type} {enc : TypeId × Value → H} {r : Reach} {b0 base : Nat} {spare : Nat → Bool} {held : Bool} {d : DataW H} {p : List MemPlace} (v : Value) (upto : Int) (W : World)
    (hv : Value.okWide Try.prog W r b0 31 v) (h : DataW.Trod enc Try.prog W base spare held 31 v d p) (hu : 0 ≤ upto ∧ upto ≤ 4294967295) :
    Calls Try.prog 4 #[v, .int .u32 upto] W fun e w' => e = .returned (.bool true) ∧ Below W.heap.size W w' := by
  obtain ⟨l, hl⟩ := msgs_arg hv h
  obtain ⟨u, rfl⟩ : ∃ u : Nat, upto = (u : Int) := ⟨upto.toNat, by omega⟩
  exact law_holdBack v l u W hl (by omega)
end Go.Proofs.Ytnjcebkdkklidaa
