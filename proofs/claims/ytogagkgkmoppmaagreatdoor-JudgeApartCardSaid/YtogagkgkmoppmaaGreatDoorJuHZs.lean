/-
  The judge: names and views as they are compared; one more message that came up.
  Conditions: those that each theorem names.
-/
import Derived.Test.YtogagkgkmoppmaaGreatDoorZdBZs
import Derived.Deep.CutBlock
namespace Go.Proofs.YtogagkgkmoppmaaGreatDoor
set_option linter.unusedVariables false
set_option linter.unusedSimpArgs false
open Go.RowKit GM
set_option maxRecDepth 100000 in
theorem nameEql (w : World) (a0 a1 b0 b1 : Int) : (Go.binOp .eql 97 (.agg #[.int .i64 a0, .int .u32 a1]) (.agg #[.int .i64 b0, .int .u32 b1])).run Tryz.prog w = .ok (.bool (a0 == b0 && a1 == b1)) w := by
  by_cases h0 : a0 = b0
  rotate_left
  · have d : (a0 == b0) = false := by simpa using h0
    rw [d]
    (try simp only [Bool.and_false, Bool.false_and])
    go_simp
  subst h0
  have e0 : (a0 == a0) = true := by simp
  by_cases h1 : a1 = b1
  rotate_left
  · have d : (a1 == b1) = false := by simpa using h1
    rw [d]
    (try simp only [Bool.and_false, Bool.false_and])
    go_simp
  subst h1
  have e1 : (a1 == a1) = true := by simp
  rw [e0, e1]
  (try simp only [Bool.and_self])
  go_simp
set_option maxRecDepth 100000 in
theorem viewNeq (w : World) (a0 a1 a2 a3 b0 b1 b2 b3 : Int) : (Go.binOp .neq 33 (.agg #[.int .u64 a0, .int .u64 a1, .int .i64 a2, .int .u64 a3]) (.agg #[.int .u64 b0, .int .u64 b1, .int .i64 b2, .int .u64 b3])).run Tryz.prog w = .ok (.bool (!(((a0 == b0 && a1 == b1) && a2 == b2) && a3 == b3))) w := by
  by_cases h0 : a0 = b0
  rotate_left
  · have d : (a0 == b0) = false := by simpa using h0
    rw [d]
    (try simp only [Bool.and_false, Bool.false_and])
    go_simp
  subst h0
  have e0 : (a0 == a0) = true := by simp
  by_cases h1 : a1 = b1
  rotate_left
  · have d : (a1 == b1) = false := by simpa using h1
    rw [d]
    (try simp only [Bool.and_false, Bool.false_and])
    go_simp
  subst h1
  have e1 : (a1 == a1) = true := by simp
  by_cases h2 : a2 = b2
  rotate_left
  · have d : (a2 == b2) = false := by simpa using h2
    rw [d]
    (try simp only [Bool.and_false, Bool.false_and])
    go_simp
  subst h2
  have e2 : (a2 == a2) = true := by simp
  by_cases h3 : a3 = b3
  rotate_left
  · have d : (a3 == b3) = false := by simpa using h3
    rw [d]
    (try simp only [Bool.and_false, Bool.false_and])
    go_simp
  subst h3
  have e3 : (a3 == a3) = true := by simp
  rw [e0, e1, e2, e3]
  (try simp only [Bool.and_self])
  go_simp
/-- a row of names that can be read -/
theorem namesV_len (L : List NameK) : (namesV L).length = L.length * 2 := by
  unfold namesV
  induction L with
  | nil => rfl
  | cons a L ih => simp only [List.flatMap_cons, List.length_append, List.length_cons, List.length_nil, ih]; omega
theorem namesV_at : ∀ (L : List NameK) (i : Nat) (hi : i < L.length), (namesV L)[i * 2]? = some (.int .i64 L[i].1) ∧ (namesV L)[i * 2 + 1]? = some (.int .u32 (L[i].2 : Int))
  | [], i, hi => absurd hi (by simp)
  | n :: L, 0, hi => ⟨rfl, rfl⟩
  | n :: L, i + 1, hi => by
    have := namesV_at L i (by simpa using hi)
    show ((.int .i64 n.1 :: .int .u32 (n.2 : Int) :: namesV L : List Value))[(i + 1) * 2]? = _ ∧ ((.int .i64 n.1 :: .int .u32 (n.2 : Int) :: namesV L : List Value))[(i + 1) * 2 + 1]? = _
    rw [show (i + 1) * 2 = i * 2 + 1 + 1 by omega]
    exact this
theorem names_cells {w : World} {L : List NameK} {ad : Option Addr} (h : Reads w w.heap.size 2 ad L.length (namesV L)) {i : Nat} (hi : i < L.length) :
    ∃ g o, ad = some ⟨g, o, none⟩ ∧ g < w.heap.size ∧ w.cell? ⟨g, o + i * 2, none⟩ = some (.int .i64 L[i].1) ∧ w.cell? ⟨g, o + i * 2 + 1, none⟩ = some (.int .u32 (L[i].2 : Int)) := by
  obtain ⟨⟨g, o, sp⟩, rfl, hb, hc⟩ := h.2 (by omega)
  have h0 := hc 0 _ (namesV_at L 0 (by omega)).1
  have hsp : sp = none := by
    have := World.cell?_spot h0
    simpa [Addr.add] using this
  subst hsp
  have ha : ∀ j, (⟨g, o, none⟩ : Addr).add j = ⟨g, o + j, none⟩ := fun j => by unfold Addr.add; split <;> simp_all
  refine ⟨g, o, rfl, hb, ?_, ?_⟩
  · rw [← ha]; exact hc _ _ (namesV_at L i hi).1
  · rw [Nat.add_assoc, ← ha]; exact hc _ _ (namesV_at L i hi).2
def idxN (n : NameK) (L : List NameK) : Int := match L.findIdx? (fun p => decide (n = p)) with
  | some i => (i : Int)
  | none => -1
theorem idxN_none {n : NameK} {L : List NameK} (h : ∀ i (hi : i < L.length), n ≠ L[i]) : idxN n L = -1 := by
  unfold idxN
  rw [List.findIdx?_eq_none_iff.2 (fun y hy => by obtain ⟨i, hi, rfl⟩ := List.getElem_of_mem hy; simpa using h i hi)]
theorem idxN_some {n : NameK} {L : List NameK} {k : Nat} (hk : k < L.length) (h1 : n = L[k]) (h : ∀ i (hi : i < k), n ≠ (L[i]'(by omega))) : idxN n L = (k : Int) := by
  unfold idxN
  have : L.findIdx? (fun p => decide (n = p)) = some k := by
    rw [List.findIdx?_eq_some_iff_getElem]
    exact ⟨hk, by simpa using h1, fun j hj => by simpa using h j hj⟩
  rw [this]
theorem idxN_has (n : NameK) (L : List NameK) : decide (0 ≤ idxN n L) = L.contains n := by
  unfold idxN
  cases h : L.findIdx? (fun p => decide (n = p)) with
  | none =>
    rw [List.findIdx?_eq_none_iff] at h
    have : L.contains n = false := by
      rw [Bool.eq_false_iff]
      intro hc
      have hm : n ∈ L := by simpa using hc
      have := h n hm
      simp at this
    rw [this]
    decide
  | some i =>
    rw [List.findIdx?_eq_some_iff_getElem] at h
    obtain ⟨hi, h1, _⟩ := h
    have : L.contains n = true := by
      have hm : n ∈ L := by
        have e : n = L[i] := by simpa using h1
        rw [e]
        exact List.getElem_mem hi
      simpa using hm
    rw [this]
    simp
set_option maxHeartbeats 8000000 in
theorem idxName_any (n : NameK) (L : List NameK) (ad : Option Addr) (cap : Nat) (w : World) (hl : Reads w w.heap.size 2 ad L.length (namesV L)) (hlen : L.length ≤ 9223372036854775807) :
    Calls Tryz.prog 71 #[.slice ad L.length cap, .agg #[.int .i64 n.1, .int .u32 (n.2 : Int)]] w fun e w' => e = .returned (.int .i64 (idxN n L)) ∧ Below w.heap.size w w' := by
  obtain ⟨r, hr⟩ : ∃ r, r = idxN n L := ⟨_, rfl⟩
  obtain ⟨m, hm⟩ : ∃ m, m = L.length := ⟨_, rfl⟩
  rw [← hr]
  have HR := Lib.hid (And.intro hm hr)
  have hn9 : m ≤ 9223372036854775807 := by rw [hm]; exact hlen
  rw [← hm] at hl ⊢
  obtain ⟨X, hX⟩ : ∃ X, X = w.heap.size := ⟨_, rfl⟩
  obtain ⟨w1, hw1⟩ : ∃ w1, w1 = w.alloc (.cells #[.int .i64 n.1, .int .u32 (n.2 : Int)] 97) := ⟨_, rfl⟩
  have hb1 : Below w.heap.size w w1 := by rw [hw1]; exact ba (br w) _
  have hx1 : w1.heap[X]? = some (.cells #[.int .i64 n.1, .int .u32 (n.2 : Int)] 97 (0, 0)) := by rw [hw1, hX]; exact heap_alloc_new w _
  have HL := Lib.hid (show ∀ W, Below w.heap.size w W → Reads W W.heap.size 2 ad m (namesV L) from fun W hb => reads_moreE (hl.below hb) hb.size)
  have HW := Lib.hid (And.intro hw1 hX)
  have HX := Lib.hid (And.intro hx1 hb1)
  clear hl hm hr hx1 hb1 hw1 hX hlen
  go_enter Tryz.func71, Tryz.ntmps71
  go_upto_region 1 with (fail)
  rw [← HW.out.1, ← HW.out.2]
  clear HW
  go_wp2_with fail
  go_loopw [8] (fun i wr => ∃ k : Nat, k ≤ m ∧ i = .int .i64 (k : Int) ∧ Hid (∀ i (hi : i < L.length), i < k → n ≠ L[i]) ∧ Hid (Below w1.heap.size w1 wr)) (fun i _ => m - (intOf i).toNat)
  case atStart => exact ⟨0, by omega, rfl, fun i hi h => absurd h (by omega), Lib.hid (br w1)⟩
  case round =>
    obtain ⟨k, hk, rfl, HT, HB⟩ := hrel
    by_cases hlt : k < m
    · have hd : decide ((k : Int) < (m : Int)) = true := by simpa using hlt
      have hi1 : (k : Int) < (m : Int) := by omega
      have hkl : k < L.length := by rw [← HR.out.1]; exact hlt
      have hbw := bt HX.out.2 HB.out
      obtain ⟨gg, oo, rfl, hgl, hc0, hc1⟩ := names_cells (by rw [← HR.out.1]; exact HL.out wr hbw) hkl
      have hxr := (HB.out.block _ (Array.getElem?_eq_some_iff.1 HX.out.1).1).trans HX.out.1
      have x0 := Bel.cell (cell_of_row _ _ 0 _ _ _ hxr : wr.cell? ⟨X, 0, none⟩ = some (.int .i64 n.1)) (Array.getElem?_eq_some_iff.1 hxr).1
      have x1 := Bel.cell (cell_of_row _ _ 1 _ _ _ hxr : wr.cell? ⟨X, 1, none⟩ = some (.int .u32 (n.2 : Int))) (Array.getElem?_eq_some_iff.1 hxr).1
      have y0 := Bel.cell hc0 hgl
      have y1 := Bel.cell hc1 hgl
      obtain ⟨p, hp⟩ : ∃ p, p = L[k] := ⟨_, rfl⟩
      rw [← hp] at y0 y1
      have hne := fun W : World => nameEql W n.1 (n.2 : Int) p.1 (p.2 : Int)
      have hDD : (n.1 == p.1 && (n.2 : Int) == (p.2 : Int)) = decide (n = p) := by
        rw [Bool.eq_iff_iff]
        simp [Prod.ext_iff, Int.natCast_inj]
      rw [hDD] at hne
      have HP := Lib.hid hp
      clear hc0 hc1 hxr hp hbw hgl hDD
      generalize n.1 = n1 at *
      generalize (n.2 : Int) = n2 at *
      generalize p.1 = p1 at *
      generalize (p.2 : Int) = p2 at *
      by_cases he : n = p
      · rw [decide_eq_true he] at hne
        have hrk : r = (k : Int) := by rw [HR.out.2]; exact idxN_some hkl (by rw [← HP.out]; exact he) (fun i hi => HT.out i (by omega) hi)
        subst hrk
        go_upto_region 4 with (fail)
        refine wp_region_bel (by kernel_rfl) (by kernel_rfl) ?_
        repeat (go_big_quiet_step ((fail)))
        refine wpQuiet_nil ?_
        intro w3 hw3
        have hb3 := bt HX.out.2 (bt HB.out (bel_out hw3))
        clear hw3 x0 x1 y0 y1 hne
        go_wp2_with fail
        go_ret
        exact ⟨rfl, hb3⟩
      · rw [decide_eq_false he] at hne
        have HE := Lib.hid (And.intro hlt (show Hid (∀ i (hi : i < L.length), i < k + 1 → n ≠ L[i]) from fun i hi h => by
          by_cases hik : i = k
          · subst hik; rw [← HP.out]; exact he
          · exact HT.out i hi (by omega)))
        go_upto_region 4 with (fail)
        refine wp_region_bel (by kernel_rfl) (by kernel_rfl) ?_
        repeat (go_big_quiet_step ((fail)))
        refine wpQuiet_nil ?_
        intro w3 hw3
        have HB3 := Lib.hid (bt HB.out (bel_out hw3))
        clear hw3 x0 x1 y0 y1 hne
        go_wp2_with fail
        exact ⟨⟨k + 1, HE.out.1, by go_num, HE.out.2, HB3⟩, by have := HE.out.1; simp [intOf]; omega⟩
    · have hd : decide ((k : Int) < (m : Int)) = false := by simpa using hlt
      have hrt : r = -1 := by
        rw [HR.out.2]
        exact idxN_none fun i hi => HT.out i hi (by have := HR.out.1; omega)
      subst hrt
      have hb2 := bt HX.out.2 HB.out
      go_wp2_with fail
      go_ret
      exact ⟨rfl, hb2⟩
theorem hasName_any (n : NameK) (L : List NameK) (ad : Option Addr) (cap : Nat) (w : World) (hl : Reads w w.heap.size 2 ad L.length (namesV L)) (hlen : L.length ≤ 9223372036854775807) :
    Calls Tryz.prog 37 #[.slice ad L.length cap, .agg #[.int .i64 n.1, .int .u32 (n.2 : Int)]] w fun e w' => e = .returned (.bool (L.contains n)) ∧ Below w.heap.size w w' := by
  obtain ⟨w1, hw1⟩ : ∃ w1, w1 = w.alloc (.cells #[.int .i64 n.1, .int .u32 (n.2 : Int)] 97) := ⟨_, rfl⟩
  have hb1 : Below w.heap.size w w1 := by rw [hw1]; exact ba (br w) _
  have hx1 : w1.heap[w.heap.size]? = some (.cells #[.int .i64 n.1, .int .u32 (n.2 : Int)] 97 (0, 0)) := by rw [hw1]; exact heap_alloc_new w _
  have HI := Lib.hid (idxName_any n L ad cap w1 (reads_moreE (hl.below hb1) hb1.size) hlen)
  have ha := idxN_has n L
  obtain ⟨X, hX⟩ : ∃ X, X = w.heap.size := ⟨_, rfl⟩
  rw [← hX] at hx1
  have x0 : w1.cell? ⟨X, 0, none⟩ = some (.int .i64 n.1) := cell_of_row _ _ 0 _ _ _ hx1
  have x1 : w1.cell? ⟨X, 1, none⟩ = some (.int .u32 (n.2 : Int)) := cell_of_row _ _ 1 _ _ _ hx1
  have HB := Lib.hid hb1
  have HW := Lib.hid (And.intro hw1 hX)
  clear hl hlen hb1 hx1 hw1 hX
  generalize L.length = m at *
  generalize idxN n L = r at *
  generalize L.contains n = b at *
  generalize n.1 = n1 at *
  generalize (n.2 : Int) = n2 at *
  go_enter Tryz.func37, Tryz.ntmps37
  go_upto_region 1 with (fail)
  rw [← HW.out.1, ← HW.out.2]
  clear HW
  go_wp2_with fail
  refine HI.out.mono ?_
  rintro e w2 ⟨rfl, hb2⟩
  have hb3 := bt HB.out hb2
  clear hb2 HI x0 x1
  go_wp2_with fail
  go_ret
  exact ⟨rfl, hb3⟩
end Go.Proofs.YtogagkgkmoppmaaGreatDoor
namespace Go.Proofs.YtogagkgkmoppmaaGreatDoor
set_option linter.unusedVariables false
set_option linter.unusedSimpArgs false
open Go.RowKit GM
/-- a message more that came up -/
def JX.upp (x : JX) (p : Nat) (ad : Option Addr) (cap : Nat) : JX := { x with s := { x.s with ups := x.s.ups ++ [p] }, ua := ad, uc := cap }
theorem upsV_snoc (l : List Ev) (L : List Nat) (p : Nat) : upsV l (L ++ [p]) = upsV l L ++ (msgA (evMsg l p)).toList := by
  unfold upsV
  rw [List.map_append, List.map_cons, List.map_nil, rowsM_snoc]
theorem jown_upp {wB w w11 : World} {g o k : Nat} {l : List Ev} {M : JM} {R : List Pc} (h : At wB (jparts g o l M ++ R) w) (hk : k < M.stays.length) (p : Nat) (ad : Option Addr) (cap : Nat)
    (hrow : w11.ownsRow 0 31 6 (.slice ad (M.stays[k].s.ups.length + 1) cap) (M.stays[k].s.ups.length + 1) (upsV l (M.stays[k].s.ups ++ [p])))
    (hK : Kept (fun b => (sUps l M.stays[k]).blk = some b) w w11) (hB : ∀ b, (Value.slice ad (M.stays[k].s.ups.length + 1) cap).ownBlock = some b → (sUps l M.stays[k]).blk = some b ∨ w.heap.size ≤ b) :
    w11.heap[M.stays[k].b]? = some (.cells (jsC g o M.stays[k]) 56 (0, 0)) ∧ At wB (jparts g o l (M.setS k (M.stays[k].upp p ad cap)) ++ R) (w11.setCell ⟨M.stays[k].b, 10, none⟩ (.slice ad (M.stays[k].s.ups.length + 1) cap)) := by
  obtain ⟨y, hy⟩ : ∃ y, y = M.stays[k] := ⟨_, rfl⟩
  rw [← hy] at hrow hK hB ⊢
  have hym : y ∈ M.stays := hy ▸ List.getElem_mem hk
  have hst := jown_st h.own hym
  have hnb : ¬ (sUps l y).blk = some y.b := fun e => by
    obtain ⟨c, fz, hc⟩ := Lib.ownsRow_kind (jown_ups h.own hym) y.b e
    rw [hst] at hc
    injection hc with hc
    injection hc with _ hc _
    exact absurd hc (by decide)
  have hst11 := hK.keep hst hnb
  refine ⟨hst11, ?_⟩
  have hK2 := keptS w11 ⟨y.b, 10, none⟩ (.slice ad (y.s.ups.length + 1) cap)
  have hlt : y.b < w.heap.size := (Array.getElem?_eq_some_iff.1 hst).1
  have hnew : ∀ b, (Value.slice ad (y.s.ups.length + 1) cap).ownBlock = some b → b ≠ y.b := fun b hb e => by
    rcases hB b hb with g | g
    · exact hnb (e ▸ g)
    · omega
  have hrow2 := own_keptS hrow hK2 (fun b hb e => hnew b hb e)
  have hu : (sGots l y).ok w := jown_gots h.own hym
  have hap : ∀ b, (sUps l y).blk = some b → (sGots l y).blk ≠ some b := fun b hb e => by
    obtain ⟨c, fz, hc⟩ := Lib.ownsRow_kind (jown_ups h.own hym) b hb
    obtain ⟨c', fz', hc'⟩ := Lib.ownsRow_kind (jown_gots h.own hym) b e
    rw [hc] at hc'
    injection hc' with hc'
    injection hc' with _ hc' _
    exact absurd hc' (by decide)
  have hupb : ∀ b, (sGots l y).blk = some b → b ≠ y.b := fun b hb e => by
    obtain ⟨c, fz, hc⟩ := Lib.ownsRow_kind (jown_gots h.own hym) b hb
    rw [e, hst] at hc
    injection hc with hc
    injection hc with _ hc _
    exact absurd hc (by decide)
  have hups2 : (w11.setCell ⟨y.b, 10, none⟩ (.slice ad (y.s.ups.length + 1) cap)).ownsRow 0 58 8 (.slice y.ga y.s.gots.length y.gc) y.s.gots.length (gotsV l y.s.gots) :=
    own_keptS (own_keptS (jown_gots h.own hym) hK (fun b hb e => hap b e hb)) hK2 (fun b hb e => hupb b hb e)
  have hcell : (w11.setCell ⟨y.b, 10, none⟩ (.slice ad (y.s.ups.length + 1) cap)).heap[y.b]? = some (.cells (jsC g o (y.upp p ad cap)) 56 (0, 0)) := by
    rw [setCell_block hst11 10 _]
    have : (y.upp p ad cap).s.ups.length = y.s.ups.length + 1 := by simp [JX.upp]
    unfold jsC
    rw [this]
    rfl
  have hlen : (y.s.ups ++ [p]).length = y.s.ups.length + 1 := by simp
  refine jown_set h hk (x := y.upp p ad cap) (by rw [← hy]; rfl) ?_ ?_ ?_
  · rw [← hy]
    refine (hK.more fun b _ e => .inl ⟨sUps l y, by simp [sP], e⟩).trans ?_
    refine ⟨hK2.os, hK2.tape, hK2.output, hK2.size, fun i hi hn => hK2.block i hi (fun e => hn (.inl ⟨sCells g o y, by simp [sP], congrArg some e.symm⟩))⟩
  · refine ⟨fun q hq => ?_, fun _ _ _ _ => Nat.zero_le _, ?_⟩
    · simp only [sP, List.mem_cons, List.not_mem_nil, or_false] at hq
      rcases hq with rfl | rfl | rfl
      · exact hcell
      · exact hups2
      · show (w11.setCell ⟨y.b, 10, none⟩ _).ownsRow 0 31 6 (.slice ad (y.s.ups ++ [p]).length cap) (y.s.ups ++ [p]).length (upsV l (y.s.ups ++ [p]))
        rw [hlen]
        exact hrow2
    · refine List.pairwise_cons.2 ⟨fun q hq b e => ?_, List.pairwise_cons.2 ⟨fun q hq b e => ?_, List.pairwise_singleton _ _⟩⟩
      · injection e with e
        have e : y.b = b := e
        simp only [List.mem_cons, List.not_mem_nil, or_false] at hq
        rcases hq with rfl | rfl
        · exact fun h2 => hupb b h2 e.symm
        · intro h2
          have h2 : (Value.slice ad (y.s.ups ++ [p]).length cap).ownBlock = some b := h2
          rw [hlen] at h2
          exact hnew b h2 e.symm
      · rw [List.mem_singleton.1 hq]
        intro h2
        have h2 : (Value.slice ad (y.s.ups ++ [p]).length cap).ownBlock = some b := h2
        rw [hlen] at h2
        have e : (sGots l y).blk = some b := e
        rcases hB b h2 with g | g
        · exact hap b g e
        · have := ((sGots l y).lt w b hu e).1
          omega
  · rw [← hy]
    intro q hq b e
    simp only [sP, List.mem_cons, List.not_mem_nil, or_false] at hq
    rcases hq with rfl | rfl | rfl
    · exact .inl ⟨sCells g o y, by simp [sP], e⟩
    · exact .inl ⟨sGots l y, by simp [sP], e⟩
    · have e : (Value.slice ad (y.s.ups ++ [p]).length cap).ownBlock = some b := e
      rw [hlen] at e
      rcases hB b e with g | g
      · exact .inl ⟨sUps l y, by simp [sP], g⟩
      · exact .inr g
/-- the stay that is asked, its memory -/
theorem mineAt_lt {g o n : Nat} {l : List Ev} {M : JM} (hJ : JOk g o l n M) (x : Ev) (s : Option Nat) (hs : ∀ k, s = some k → k < M.stays.length) : ∀ k, (projJ M).mineAt x s = some k → k < M.stays.length := by
  intro k hk
  unfold J.mineAt at hk
  cases s with
  | none => cases hk
  | some j =>
    have hj := hs j rfl
    simp only [proj_at hj] at hk
    split at hk
    · next hc =>
      have hx := (hJ.st _ (List.getElem_mem hj)).bf
      cases hb : M.stays[j].s.bf with
      | none => rw [hb] at hk; cases hk
      | some q =>
        rw [hb] at hx hk
        injection hk with hk
        obtain ⟨y, hy, _⟩ := hx
        rw [← hk]
        exact (List.getElem?_eq_some_iff.1 hy).1
    · injection hk with hk
      rw [← hk]
      exact hj
end Go.Proofs.YtogagkgkmoppmaaGreatDoor
