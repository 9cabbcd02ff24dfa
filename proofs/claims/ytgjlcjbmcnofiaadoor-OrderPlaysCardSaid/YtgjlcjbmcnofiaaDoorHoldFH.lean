/-
  What hold's Drop leaves.
  Conditions: none.
-/
import Derived.Test.YtgjlcjbmcnofiaaDoorHoldDE
namespace Go.Proofs.YtgjlcjbmcnofiaaDoor
set_option linter.unusedVariables false
set_option linter.unusedSimpArgs false
open Go.RowKit
theorem HoldAt.setv {w w8 : World} {D : Nat} {lo : Nat → Nat} {R : Nat → List Msg} {V : Nat → Value} {p : Nat} {v8 : Value} {L : List Msg} (h : HoldAt w D lo R V) (hp : p < 64) (hb : Below w.heap.size w w8)
    (ho8 : w8.ownsRow w.heap.size 42 6 v8 L.length (rowsM L)) (hL : ∀ m ∈ L, m ∈ R p) :
    HoldAt (w8.setCell ⟨D, 64 + p, none⟩ v8) D lo (upd R p L) (upd V p v8) ∧ Kept (holdS D V) w (w8.setCell ⟨D, 64 + p, none⟩ v8) := by
  have h8 := h.below hb
  have e1 := h8.blk
  have hk : Kept (fun b => b = D) w8 (w8.setCell ⟨D, 64 + p, none⟩ v8) := (show Kept (fun b => b = D) w8 w8 from .refl _ _).setCell (p := ⟨D, 64 + p, none⟩) rfl _
  have hD : ∀ {e : TypeId} {v : Value} {n s b0 : Nat} {xs : List Value}, w8.ownsRow b0 e s v n xs → e ≠ 133 → ∀ b, v.ownBlock = some b → ¬ b = D := fun ho hne b hb hc => own_blk_ne ho e1 hne (hc ▸ hb)
  have hlt : ∀ q, q < 64 → ∀ b, (V q).ownBlock = some b → b < w.heap.size := fun q hq b hb => ((h.own q hq).lt b hb).2
  refine ⟨⟨?_, fun q hq => ?_, fun q r b hq hr hne hb1 hb2 => ?_, fun q hq m hm => ?_⟩, ?_⟩
  · rw [← holdC_setv lo V hp]
    exact setCell_block e1 (64 + p) v8
  · by_cases hqp : q = p
    · subst hqp
      rw [upd_same, upd_same]
      exact own_keptS (ownMore ho8 (Nat.zero_le _)) hk (hD ho8 (by decide))
    · rw [upd_ne _ _ hqp, upd_ne _ _ hqp]
      exact own_keptS (h8.own q hq) hk (hD (h8.own q hq) (by decide))
  · by_cases hqp : q = p
    · subst hqp
      rw [upd_same] at hb1
      rw [upd_ne _ _ (Ne.symm hne)] at hb2
      have := (ho8.lt b hb1).1
      have := hlt r hr b hb2
      omega
    · rw [upd_ne _ _ hqp] at hb1
      by_cases hrp : r = p
      · subst hrp
        rw [upd_same] at hb2
        have := (ho8.lt b hb2).1
        have := hlt q hq b hb1
        omega
      · rw [upd_ne _ _ hrp] at hb2
        exact h.apart q r b hq hr hne hb1 hb2
  · have hall : FreshM 0 w8 m := by
      by_cases hqp : q = p
      · subst hqp
        rw [upd_same] at hm
        exact h8.ok q hq m (hL m hm)
      · rw [upd_ne _ _ hqp] at hm
        exact h8.ok q hq m hm
    exact hall.kept hk (hD hall.2 (by decide))
  · exact (Kept.of_below (S := holdS D V) hb).trans (hk.more fun k _ e => .inl e)
theorem HoldAt.setlo {w : World} {D : Nat} {lo : Nat → Nat} {R : Nat → List Msg} {V : Nat → Value} (h : HoldAt w D lo R V) {p : Nat} (hp : p < 64) (n : Nat) :
    HoldAt (w.setCell ⟨D, p, none⟩ (.int .u32 (n : Int))) D (upd lo p n) R V ∧ Kept (fun b => b = D) w (w.setCell ⟨D, p, none⟩ (.int .u32 (n : Int))) := by
  have hk : Kept (fun b => b = D) w (w.setCell ⟨D, p, none⟩ (.int .u32 (n : Int))) := (show Kept (fun b => b = D) w w from .refl _ _).setCell (p := ⟨D, p, none⟩) rfl _
  have hD : ∀ {e : TypeId} {v : Value} {n s b0 : Nat} {xs : List Value}, w.ownsRow b0 e s v n xs → e ≠ 133 → ∀ b, v.ownBlock = some b → ¬ b = D := fun ho hne b hb hc => own_blk_ne ho h.blk hne (hc ▸ hb)
  refine ⟨⟨?_, fun q hq => own_keptS (h.own q hq) hk (hD (h.own q hq) (by decide)), h.apart, fun q hq m hm => (h.ok q hq m hm).kept hk (hD (h.ok q hq m hm).2 (by decide))⟩, hk⟩
  rw [← holdC_setlo lo V hp]
  exact setCell_block h.blk p _
set_option maxRecDepth 100000 in
set_option maxHeartbeats 4000000 in
theorem hDrop_in (D : Nat) (lo : Nat → Nat) (R : Nat → List Msg) (V : Nat → Value) (p upto k : Nat) (w : World) (h : HoldAt w D lo R V) (hb : HoldBd lo R) (hp : p < 64) (hk : k = min upto (lo p + (R p).length)) (hu : upto < 4294967296) (hlo : lo p < k) :
    Calls Tryd.prog 51 #[.pointer (some ⟨D, 0, none⟩), .int .i64 (p : Int), .int .u32 (upto : Int)] w fun e w' => e = .returned (.tuple #[]) ∧ (∃ v', HoldAt w' D (upd lo p k) (upd R p ((R p).drop (k - lo p))) (upd V p v') ∧ ∀ b, v'.ownBlock = some b → w.heap.size ≤ b) ∧ Kept (holdS D V) w w' := by
  have HCo := Lib.hid (hCount_in D lo R V p w h hp hb)
  have HLo := Lib.hid (fun (W : World) (hW : Below w.heap.size w W) => hLow_in D lo R V p W (h.below hW) hp)
  obtain ⟨ad, cap, hv, hc1, hc2, hr⟩ := h.rows hp
  have hi : (p : Int) < 64 := by omega
  obtain ⟨b1, b2⟩ := hb p hp
  obtain ⟨n, hn⟩ : ∃ n, n = (R p).length := ⟨_, rfl⟩
  obtain ⟨l0, hl0⟩ : ∃ n, n = lo p := ⟨_, rfl⟩
  obtain ⟨s, hs⟩ : ∃ s : Nat, s = lo p + (R p).length := ⟨_, rfl⟩
  have HH := Lib.hid (And.intro h (And.intro hv (And.intro hr (And.intro hn (And.intro hl0 (And.intro hc1 hb))))))
  rw [← hs] at HCo hk
  rw [← hl0] at HLo hlo b2 ⊢
  rw [← hn] at hc1 b1
  have hsn : s = l0 + n := by rw [hs, ← hn, ← hl0]
  have m1 : (if s < upto then (s : Int) else (upto : Int)) = (k : Int) := by split <;> omega
  have m2 : (if upto < s then (upto : Int) else (s : Int)) = (k : Int) := by split <;> omega
  have m3 : (if upto ≤ s then (upto : Int) else (s : Int)) = (k : Int) := by split <;> omega
  have m4 : min (upto : Int) (s : Int) = (k : Int) := by omega
  have d1 : decide (l0 < k) = true := by simpa using hlo
  obtain ⟨t, ht⟩ : ∃ t : Nat, IntKind.u32.wrap ((k : Int) - (l0 : Int)) = (t : Int) := ⟨k - l0, by rw [IntKind.wrap_u32]; omega⟩
  have htk : t = k - l0 := by rw [IntKind.wrap_u32] at ht; omega
  have htn : t ≤ n := by omega
  have HT := Lib.hid htk
  clear h hv hr hn hl0 hs hk hlo hsn htk
  go_enter Tryd.func51, Tryd.ntmps51
  go_wp2_with fail
  refine HCo.out.mono ?_
  rintro e w1 ⟨rfl, hb1⟩
  go_wp2_with fail
  refine (HLo.out _ hb1).mono ?_
  rintro e w' ⟨rfl, rfl⟩
  go_upto_region 2 with (fail)
  have h1 := HH.out.1.below hb1
  have hSall : ∀ w', Below w1.heap.size w1 w' → w'.cell? ⟨D, p, none⟩ = some (.int .u32 (l0 : Int)) ∧ w'.cell? ⟨D, 64 + p, none⟩ = some (.slice ad n cap) := by
    intro w' hb'
    refine ⟨by rw [HH.out.2.2.2.2.1]; exact (h1.below hb').clo hp, ?_⟩
    rw [HH.out.2.2.2.1, ← HH.out.2.1]
    exact (h1.below hb').cv hp
  have HS := Lib.hid hSall
  have HB := Lib.hid hb1
  clear hSall h1 hb1
  have q1 : (0 : Int) ≤ (t : Int) := by omega
  have q2 : (t : Int) ≤ (n : Int) := by omega
  have q3 : ((t : Int)).toNat = t := by omega
  go_wp2_with fail
  refine wp_region_mask (fun w' => w'.cell? ⟨D, p, none⟩ = some (.int .u32 (l0 : Int)) ∧ w'.cell? ⟨D, 64 + p, none⟩ = some (.slice ad n cap)) 20 3 [true, true, true, true, true, true, true, true, true, true, true, true, true, true, true, true, true, false, true, true, false, false] #[true, true, true, true, true, true, true, true, true, true, true, true, true, true, true, true, true, false, true, true, false, false] (by kernel_rfl) (by kernel_rfl) (by kernel_rfl) (HS.out _ (br w1).drew) ?_
  iterate 17
    refine wpMask_take _ (Or.inl ⟨by rfl, fun w' hS => by (try dsimp only at hS); go_simp; try with_reducible rfl⟩) ?_
    simp only [Act.put, List.setIfInBounds_toArray, List.set_cons_zero, List.set_cons_succ]
  refine wpMask_skip ?_
  iterate 2
    refine wpMask_take _ (Or.inl ⟨by rfl, fun w' hS => by (try dsimp only at hS); go_simp; try with_reducible rfl⟩) ?_
    simp only [Act.put, List.setIfInBounds_toArray, List.set_cons_zero, List.set_cons_succ]
  refine wpMask_skip (wpMask_skip (wpMask_nil ?_))
  have hbd : Below w1.heap.size w1 w1.drew := (br w1).drew
  generalize w1.drew = W5 at *
  have hbw5 := bt HB.out hbd
  obtain ⟨F, hF⟩ : ∃ F, F = (R p).drop t := ⟨_, rfl⟩
  have hFl : F.length = n - t := by rw [hF, List.length_drop, ← HH.out.2.2.2.1]
  have hrd := reads_drop (t := t) (cap := cap) (HH.out.2.2.1.below hbw5) (by rw [← HH.out.2.2.2.1]; exact htn) (by rw [← HH.out.2.2.2.1]; exact hc1)
  rw [← HH.out.2.2.2.1, ← hF, ← hFl] at hrd
  rw [← hFl]
  have hin : RowsIn W5 (.slice (if cap = t then ad else Option.map (fun x => x.add (t * 6)) ad) F.length (cap - t)) F := ⟨_, _, rfl, hrd.more hbw5.size⟩
  have hCl := kClone_gen _ F W5 hin (by omega)
  refine wpAnyS_ready (rs := [17]) (by kernel_rfl) (by simp) ?_
  refine AllReadyS.cons rfl (fun K hK => ?_) AllReadyS.nil
  have HCl := Lib.hid hCl
  have HIN := Lib.hid (And.intro hF (And.intro hbd (And.intro hbw5 hFl)))
  clear hCl hin hrd hFl hbd hbw5 hF
  generalize (if cap = t then ad else Option.map (fun x => x.add (t * 6)) ad) = A2 at *
  go_simp
  refine HCl.out.mono ?_
  rintro e w7 ⟨⟨v7, rfl, ho7⟩, hb7⟩
  have hb57 := bt HIN.out.2.1 hb7
  have hbw7 := bt HIN.out.2.2.1 hb7
  refine hK.out _ _ (fun _ => HS.out _ hb57) ?_
  clear hK K
  simp only [Act.put, List.setIfInBounds_toArray, List.set_cons_zero, List.set_cons_succ]
  obtain ⟨a7, c7, rfl⟩ := ownForm ho7
  have ho7' := ownMore ho7 HIN.out.2.2.1.size
  have hfin := HH.out.1.setv hp hbw7 ho7' (fun m hm => by rw [HIN.out.1] at hm; exact List.mem_of_mem_drop hm)
  have cell8 := (HS.out _ hb57).2
  have hfree8 : w7.frozen? ⟨D, 64 + p, none⟩ = false := (HH.out.1.below hbw7).free _
  have HFIN := Lib.hid (And.intro hfin (fun b hb => (ho7'.lt b hb).1))
  clear hfin ho7 ho7' hb57 hbw7 hb7
  refine wpAnyS_ready (rs := [20]) (by kernel_rfl) (by simp) ?_
  refine AllReadyS.cons rfl (fun K hK => ?_) AllReadyS.nil
  go_simp
  refine hK.out _ _ (fun h => absurd h (by omega)) ?_
  clear hK K
  simp only [Act.put, List.setIfInBounds_toArray, List.set_cons_zero, List.set_cons_succ]
  refine wpAnyS_ready (rs := [21]) (by kernel_rfl) (by simp) ?_
  refine AllReadyS.cons rfl (fun K hK => ?_) AllReadyS.nil
  go_simp
  refine hK.out _ _ (fun h => absurd h (by omega)) ?_
  clear hK K
  refine wpAnyS_done (by kernel_rfl) ?_ _
  have HZ := Lib.hid HFIN.out.1.1
  clear cell8 hfree8
  obtain ⟨W9, hW9⟩ : ∃ W9, W9 = w7.setCell ⟨D, 64 + p, none⟩ (.slice a7 F.length c7) := ⟨_, rfl⟩
  rw [← hW9] at HZ HFIN ⊢
  have k1 : W9.cell? ⟨D, p, none⟩ = some (.int .u32 (l0 : Int)) := by rw [HH.out.2.2.2.2.1]; exact HZ.out.clo hp
  have k2 : W9.frozen? ⟨D, p, none⟩ = false := HZ.out.free _
  have hlast := HZ.out.setlo hp k
  have HL := Lib.hid (And.intro hlast.1 (HFIN.out.1.2.trans (hlast.2.more (T := holdS D V) fun q _ e => .inl e)))
  have HB9 := Lib.hid HFIN.out.2
  clear hlast hW9 HFIN HZ
  go_wp2
  refine bodyPost_end (results_none rfl _ _ _) rfl ⟨rfl, ⟨.slice a7 F.length c7, ?_, HB9.out⟩, HL.out.2⟩
  rw [← HT.out, ← HIN.out.1]
  exact HL.out.1
set_option maxRecDepth 100000 in
set_option maxHeartbeats 4000000 in
theorem hDrop_no (D : Nat) (lo : Nat → Nat) (R : Nat → List Msg) (V : Nat → Value) (p : Int) (upto : Nat) (w : World) (h : HoldAt w D lo R V) (hb : HoldBd lo R) (hno : ¬ (if procB p = true then lo p.toNat else 0) < min upto (cntZ lo R p)) :
    Calls Tryd.prog 51 #[.pointer (some ⟨D, 0, none⟩), .int .i64 p, .int .u32 (upto : Int)] w fun e w' => e = .returned (.tuple #[]) ∧ Below w.heap.size w w' := by
  have HCo := Lib.hid (hCount_at D lo R V p w h hb)
  have HLo := Lib.hid (fun (W : World) (hW : Below w.heap.size w W) => hLow_at D lo R V p W (h.below hW))
  obtain ⟨l0, hl0⟩ : ∃ l0, l0 = (if procB p = true then lo p.toNat else 0) := ⟨_, rfl⟩
  obtain ⟨s, hs⟩ : ∃ s, s = cntZ lo R p := ⟨_, rfl⟩
  rw [← hl0] at HLo hno
  rw [← hs] at HCo hno
  obtain ⟨k, hk⟩ : ∃ k, k = min upto s := ⟨_, rfl⟩
  rw [← hk] at hno
  have m1 : (if s < upto then (s : Int) else (upto : Int)) = (k : Int) := by split <;> omega
  have m2 : (if upto < s then (upto : Int) else (s : Int)) = (k : Int) := by split <;> omega
  have m3 : (if upto ≤ s then (upto : Int) else (s : Int)) = (k : Int) := by split <;> omega
  have m4 : min (upto : Int) (s : Int) = (k : Int) := by omega
  have d1 : decide (l0 < k) = false := by simpa using hno
  clear h hb hno hl0 hs hk
  go_enter Tryd.func51, Tryd.ntmps51
  go_wp2_with fail
  refine HCo.out.mono ?_
  rintro e w1 ⟨rfl, hb1⟩
  have HB := Lib.hid hb1
  clear hb1
  go_wp2_with fail
  refine (HLo.out _ HB.out).mono ?_
  rintro e w2 ⟨rfl, hb2⟩
  have HB2 := Lib.hid (bt HB.out hb2)
  clear hb2
  go_wp2
  refine bodyPost_end (results_none rfl _ _ _) rfl ⟨rfl, HB2.out⟩
def dropC (lo : Nat → Nat) (R : Nat → List Msg) (p : Int) (upto : Nat) : Bool := procB p && decide (lo p.toNat < min upto (lo p.toNat + (R p.toNat).length))
def dropLo (lo : Nat → Nat) (R : Nat → List Msg) (p : Int) (upto : Nat) : Nat → Nat := if dropC lo R p upto = true then upd lo p.toNat (min upto (lo p.toNat + (R p.toNat).length)) else lo
def dropR (lo : Nat → Nat) (R : Nat → List Msg) (p : Int) (upto : Nat) : Nat → List Msg := if dropC lo R p upto = true then upd R p.toNat ((R p.toNat).drop (min upto (lo p.toNat + (R p.toNat).length) - lo p.toNat)) else R
/-- a hold's new slices are old ones or new -/
def newV (w : World) (V V' : Nat → Value) : Prop := ∀ q, q < 64 → ∀ b, (V' q).ownBlock = some b → (V q).ownBlock = some b ∨ w.heap.size ≤ b
theorem newV_upd {w : World} {V : Nat → Value} {p : Nat} {v : Value} (h : ∀ b, v.ownBlock = some b → (V p).ownBlock = some b ∨ w.heap.size ≤ b) : newV w V (upd V p v) := by
  intro q hq b hb
  by_cases e : q = p
  · subst e; rw [upd_same] at hb; exact h b hb
  · rw [upd_ne _ _ e] at hb; exact .inl hb
def DropEnd (w : World) (D : Nat) (lo : Nat → Nat) (R : Nat → List Msg) (V : Nat → Value) (p : Int) (upto : Nat) (e : Ending) (w' : World) : Prop :=
  e = .returned (.tuple #[]) ∧ (∃ V', HoldAt w' D (dropLo lo R p upto) (dropR lo R p upto) V' ∧ newV w V V') ∧ Kept (holdS D V) w w'
theorem hDrop_any (D : Nat) (lo : Nat → Nat) (R : Nat → List Msg) (V : Nat → Value) (p : Int) (upto : Nat) (w : World) (h : HoldAt w D lo R V) (hb : HoldBd lo R) (hu : upto < 4294967296) :
    Calls Tryd.prog 51 #[.pointer (some ⟨D, 0, none⟩), .int .i64 p, .int .u32 (upto : Int)] w fun e w' => DropEnd w D lo R V p upto e w' := by
  unfold DropEnd dropLo dropR
  by_cases hc : dropC lo R p upto = true
  · rw [if_pos hc, if_pos hc]
    unfold dropC at hc
    simp only [Bool.and_eq_true, decide_eq_true_eq] at hc
    have hpp : 0 ≤ p ∧ p < 64 := by simpa [procB] using hc.1
    obtain ⟨q, hq⟩ : ∃ q : Nat, p = (q : Int) := ⟨p.toNat, by omega⟩
    subst hq
    rw [Int.toNat_natCast] at hc ⊢
    refine (hDrop_in D lo R V q upto _ w h hb (by omega) rfl hu hc.2).mono ?_
    rintro e w' ⟨he, ⟨v', h1, h2⟩, h3⟩
    exact ⟨he, ⟨_, h1, newV_upd fun b hb => .inr (h2 b hb)⟩, h3⟩
  · rw [if_neg hc, if_neg hc]
    refine (hDrop_no D lo R V p upto w h hb (fun hlt => hc ?_)).mono ?_
    · unfold dropC
      unfold cntZ at hlt
      by_cases hp : procB p = true
      · rw [if_pos hp, if_pos hp] at hlt
        simp [hp, hlt]
      · rw [if_neg hp, if_neg hp] at hlt
        omega
    · rintro e w' ⟨he, hb'⟩
      exact ⟨he, ⟨V, h.below hb', fun q _ b hb => .inl hb⟩, .of_below hb'⟩
end Go.Proofs.YtgjlcjbmcnofiaaDoor
namespace Go.Proofs.YtgjlcjbmcnofiaaDoor
set_option linter.unusedVariables false
set_option linter.unusedSimpArgs false
open Go.RowKit
theorem run_index_cell {P : Program} (w : World) (t e f : TypeId) (n : Nat) (cs : Array Value) (k : IntKind) (i : Nat) (v : Value) (j : TypeInfo) (ht : P.underlying t = some (.array n e)) (he : P.underlying e = some (.slice f)) (hj : P.info? e = some j) (hs : j.size = 1) (hi : i < n) (hv : cs[i]? = some v) :
    (Instr.index t (.agg cs) (.int k (i : Int))).run P w = .ok v w := by
  have h1 : 0 ≤ (i : Int) ∧ (i : Int) < (n : Int) := by omega
  simp [Instr.index, run_underlying ht, asIntOf, sizeOf, typeInfo, hj, hs, part, isAgg, run_underlying he, h1, hv, hi]
/-- does a key come ahead of a message's? -/
def keyAh (a b : Int) (m : Msg) : Bool := decide (0 < keyZ m.stamp m.frm a b)
/-- the messages of the first processes that are behind a key -/
def aboveN (R : Nat → List Msg) (a b : Int) (t : Nat) : List Msg := ((List.range t).flatMap R).filter (keyAh a b)
theorem aboveN_succ (R : Nat → List Msg) (a b : Int) (t : Nat) : aboveN R a b (t + 1) = aboveN R a b t ++ (R t).filter (keyAh a b) := by
  unfold aboveN
  rw [List.range_succ, List.flatMap_append, List.filter_append]
  simp
theorem aboveN_mem {R : Nat → List Msg} {a b : Int} {t : Nat} {m : Msg} (h : m ∈ aboveN R a b t) : ∃ p, p < t ∧ m ∈ R p ∧ keyAh a b m = true := by
  obtain ⟨h1, h2⟩ := List.mem_filter.1 h
  obtain ⟨p, hp, hm⟩ := List.mem_flatMap.1 h1
  exact ⟨p, by simpa using hp, hm, h2⟩
def allN (R : Nat → List Msg) (t : Nat) : List Msg := (List.range t).flatMap R
theorem allN_succ (R : Nat → List Msg) (t : Nat) : allN R (t + 1) = allN R t ++ R t := by
  unfold allN
  rw [List.range_succ, List.flatMap_append]
  simp
theorem allN_le (R : Nat → List Msg) {t : Nat} : ∀ {s : Nat}, t ≤ s → (allN R t).length ≤ (allN R s).length := by
  intro s h
  induction h with
  | refl => omega
  | step _ ih => rw [allN_succ, List.length_append]; omega
theorem HoldAt.vlist {w : World} {D : Nat} {lo : Nat → Nat} {R : Nat → List Msg} {V : Nat → Value} (h : HoldAt w D lo R V) : w.rangeAt D 64 ((List.range 64).map V) := by
  intro j u hu
  have hj : j < 64 := by have := (List.getElem?_eq_some_iff.1 hu).1; simpa using this
  rw [List.getElem?_map, List.getElem?_range hj] at hu
  injection hu with hu
  rw [← hu]
  exact h.cv hj
set_option maxRecDepth 100000 in
set_option maxHeartbeats 4000000 in
theorem hAbove_any (D : Nat) (lo : Nat → Nat) (R : Nat → List Msg) (V : Nat → Value) (a b : Int) (w : World) (h : HoldAt w D lo R V) (hb : HoldBd lo R) (htot : (allN R 64).length ≤ 1000) (hd : ∀ p, p < 64 → ∀ m ∈ R p, m.ds.length ≤ 1000000) :
    Calls Tryd.prog 53 #[.pointer (some ⟨D, 0, none⟩), .agg #[.int .u64 a, .int .i64 b]] w fun e w' => CopyEnd w (sortM (aboveN R a b 64)) e w' ∧ Below w.heap.size w w' := by
  obtain ⟨i0, hi, hz0, hz1, hz2⟩ := info_parts info42
  have hbA := ba (br w) (.cells #[.int .u64 a, .int .i64 b] 38)
  have hx := heap_alloc_new w (.cells #[.int .u64 a, .int .i64 b] 38)
  obtain ⟨W, hW⟩ : ∃ W, W = w.alloc (.cells #[.int .u64 a, .int .i64 b] 38) := ⟨_, rfl⟩
  rw [← hW] at hbA hx
  have hh := h.below hbA
  have HR := Lib.hid hh.vlist
  obtain ⟨C, hC⟩ : ∃ C, C = (List.range 64).map V := ⟨_, rfl⟩
  have hCl : C.length = 64 := by rw [hC]; simp
  have hidx : ∀ (W' : World) (t : Nat), t < 64 → (Instr.index 131 (.agg C.toArray) (.int .i64 (t : Int))).run Tryd.prog W' = .ok (V t) W' := fun W' t ht => by
    obtain ⟨j, hj⟩ : ∃ j, Tryd.prog.info? 27 = some j := Option.isSome_iff_exists.1 (by kernel_rfl)
    have hs : (Tryd.prog.info? 27).map (·.size) = some 1 := by kernel_rfl
    rw [hj] at hs
    exact run_index_cell W' _ 27 42 64 _ _ t _ j Tryd.underlying131 Tryd.underlying27 hj (by simpa using hs) ht (by rw [hC]; simp [List.getElem?_range ht])
  rw [← hC] at HR
  have HA := Lib.hid (And.intro hbA (And.intro hx (And.intro hh (And.intro h hb))))
  have HI := Lib.hid hidx
  have HT := Lib.hid htot
  have HD := Lib.hid hd
  clear hbA hx hh hidx hC h hb htot hd
  go_enter Tryd.func53, Tryd.ntmps53
  go_upto_region 2 with (fail)
  rw [← hW]
  clear hW
  go_wp2_with (with_reducible refine wpList_load_mid rfl 131 (.tmp 12) rfl D 64 rfl C _ HR.out Tryd.underlying131 rfl (by rw [hCl]; kernel_rfl) ?_)
  go_loopw [5, 14] (fun u i wr => ∃ t : Nat, t ≤ 64 ∧ i = .int .i64 (t : Int) ∧ wr.ownsRow W.heap.size 42 6 u (aboveN R a b t).length (rowsM (aboveN R a b t)) ∧ Below W.heap.size W wr) (fun _ i _ => 64 - (intOf i).toNat)
  case atStart => exact ⟨0, by omega, rfl, ⟨rfl, .inl ⟨rfl, rfl⟩⟩, br _⟩
  case round =>
    obtain ⟨t, ht, rfl, ho, hB⟩ := hrel
    by_cases hlt : t < 64
    · have hbool : decide (t < 64) = true := by simpa using hlt
      have hbool' : decide ((t : Int) < 64) = true := by simp; omega
      obtain ⟨adt, capt, hvt⟩ := HA.out.2.2.1.form hlt
      have hix : ∀ W' : World, (Instr.index 131 (.agg C.toArray) (.int .i64 (t : Int))).run Tryd.prog W' = .ok (.slice adt (R t).length capt) W' := fun W' => by rw [HI.out W' t hlt, hvt]
      have hlb : (aboveN R a b t).length + (R t).length ≤ 1000 := by
        have h1 : (aboveN R a b t).length ≤ (allN R t).length := List.length_filter_le _ _
        have h2 := allN_succ R t
        have h3 := allN_le R (t := t + 1) (s := 64) (by omega)
        have h4 := HT.out
        rw [h2, List.length_append] at h3
        omega
      obtain ⟨n, hn⟩ : ∃ n, n = (R t).length := ⟨_, rfl⟩
      have hn1 : n ≤ 1000 := by omega
      obtain ⟨P, hP⟩ : ∃ P, P = aboveN R a b t := ⟨_, rfl⟩
      rw [← hP] at ho hlb
      rw [← hn] at hix hlb
      have HO := Lib.hid (And.intro ho (And.intro hB (And.intro hlt (And.intro hvt (And.intro hn hP)))))
      have HLB := Lib.hid hlb
      have ht64 : t ≤ 64 := ht
      clear ho hB hlt hvt hn hP hlb ht
      go_wp2_with fail
      obtain ⟨wo, rfl⟩ : ∃ wo : World, wo = wr := ⟨_, rfl⟩
      go_loopw [5, 19] (fun u i wr => ∃ k : Nat, k ≤ n ∧ i = .int .i64 (k : Int) ∧ wr.ownsRow W.heap.size 42 6 u (P ++ ((R t).take k).filter (keyAh a b)).length (rowsM (P ++ ((R t).take k).filter (keyAh a b))) ∧ Below W.heap.size W wr) (fun _ i _ => n - (intOf i).toNat)
      case atStart => exact ⟨0, by omega, rfl, by simpa using HO.out.1, HO.out.2.1⟩
      case round =>
        obtain ⟨k, hk, rfl, ho, hB⟩ := hrel
        by_cases hk2 : k < n
        · have hbool2 : decide (k < n) = true := by simpa using hk2
          have hbool2' : decide ((k : Int) < (n : Int)) = true := by simp; omega
          have hik : (k : Int) < (n : Int) := by omega
          have hkR : k < (R t).length := by have := HO.out.2.2.2.2.1; omega
          have hhr := HA.out.2.2.1.below hB
          have hot := hhr.own t HO.out.2.2.1
          rw [HO.out.2.2.2.1] at hot
          obtain ⟨g, rfl, hg, hrow⟩ := own_msg hot hkR
          have htk := List.take_succ_eq_append_getElem hkR
          obtain ⟨x, hxe⟩ : ∃ x, x = (R t)[k] := ⟨_, rfl⟩
          rw [← hxe] at hrow htk
          have y0 : wr.cell? ⟨g, k * 6, none⟩ = some (.int .i64 x.frm) := hrow 0 _ rfl
          have y1 : wr.cell? ⟨g, k * 6 + 1, none⟩ = some (.int .u32 (x.seq : Int)) := hrow 1 _ rfl
          have y2 : wr.cell? ⟨g, k * 6 + 2, none⟩ = some (.int .u64 (x.stamp : Int)) := hrow 2 _ rfl
          have y3 : wr.cell? ⟨g, k * 6 + 3, none⟩ = some (.int .i64 x.service) := hrow 3 _ rfl
          have y4 : wr.cell? ⟨g, k * 6 + 4, none⟩ = some (.slice x.da x.ds.length x.dc) := hrow 4 _ rfl
          have y5 : wr.cell? ⟨g, k * 6 + 5, none⟩ = some (.string x.pay) := hrow 5 _ rfl
          have hll : (P ++ ((R t).take k).filter (keyAh a b)).length ≤ 1000 := by
            have h1 := List.length_filter_le (keyAh a b) ((R t).take k)
            have h2 := HLB.out
            rw [List.length_append]
            rw [List.length_take] at h1
            omega
          obtain ⟨L, hL⟩ : ∃ L, L = P ++ ((R t).take k).filter (keyAh a b) := ⟨_, rfl⟩
          have hL2 : P ++ ((R t).take (k + 1)).filter (keyAh a b) = L ++ [x].filter (keyAh a b) := by rw [htk, List.filter_append, hL, List.append_assoc]
          rw [← hL] at ho hll
          have HK := Lib.hid (And.intro ho (And.intro hB (And.intro hk2 (And.intro hL2 hll))))
          clear ho hB hk2 hL hL2 hll hkR hhr hot hg hrow htk hxe hk
          go_wp2_with fail
          have hbW2 := ba (br wr) (.cells #[.int .i64 x.frm, .int .u32 (x.seq : Int), .int .u64 (x.stamp : Int), .int .i64 x.service, .slice x.da x.ds.length x.dc, .string x.pay] 42)
          have hxW2 := heap_alloc_new wr (.cells #[.int .i64 x.frm, .int .u32 (x.seq : Int), .int .u64 (x.stamp : Int), .int .i64 x.service, .slice x.da x.ds.length x.dc, .string x.pay] 42)
          clear y0 y1 y2 y3 y4 y5
          generalize wr.alloc (.cells #[.int .i64 x.frm, .int .u32 (x.seq : Int), .int .u64 (x.stamp : Int), .int .i64 x.service, .slice x.da x.ds.length x.dc, .string x.pay] 42) = W2 at *
          have hbWW := bt HK.out.2.1 hbW2
          have hkey := (hbWW.block _ (Array.getElem?_eq_some_iff.1 HA.out.2.1).1).trans HA.out.2.1
          have c0 := Bel.cell (cell_of_row _ _ 0 _ _ _ hkey : W2.cell? ⟨w.heap.size, 0, none⟩ = some (.int .u64 a)) (Array.getElem?_eq_some_iff.1 hkey).1
          have c1 := Bel.cell (cell_of_row _ _ 1 _ _ _ hkey : W2.cell? ⟨w.heap.size, 1, none⟩ = some (.int .i64 b)) (Array.getElem?_eq_some_iff.1 hkey).1
          have R1 := Lib.hid (Bel.range (w := W2) (b := wr.heap.size) (o := 0) (cs := (msgA x).toList) (fun j u hu => (cell_of_row _ _ _ _ _ _ hxW2).trans (by simpa [msgA] using hu)) (Array.getElem?_eq_some_iff.1 hxW2).1)
          have HOf := Lib.hid (fun (W' : World) => kOf_any x W')
          obtain ⟨z, hz⟩ : ∃ z, keyZ x.stamp x.frm a b = z := ⟨_, rfl⟩
          have HCm := Lib.hid (fun (W' : World) => kCmp_any x.stamp x.frm a b W')
          rw [hz] at HCm
          have HZ := Lib.hid (show keyAh a b x = decide (0 < z) by unfold keyAh; rw [hz])
          have H2 := Lib.hid (And.intro hbWW (And.intro hxW2 hbW2))
          clear hbWW hkey hz hxW2 hbW2
          refine wp_region_bel (by kernel_rfl) (by kernel_rfl) ?_
          repeat (first
            | (refine wpQuiet_load_want (by rfl) 42 (.tmp 9) rfl wr.heap.size 0 rfl (msgA x).toList _ R1.out Tryd.underlying42 rfl (by kernel_rfl) ?_; go_simp)
            | go_big_quiet_step ((first | (go_at_call 14; exact bel_call (HOf.out _)) | (go_at_call 13; exact bel_call (HCm.out _)))))
          refine wpQuiet_nil ?_
          intro x5
          have hb5 := x5.prop
          generalize x5.val = w5 at *
          have hbw5 := bt H2.out.1 hb5
          by_cases hzp : 0 < z
          · have d2 : decide (0 < z) = true := by simpa using hzp
            have hx5 := (hb5.block _ (Array.getElem?_eq_some_iff.1 H2.out.2.1).1).trans H2.out.2.1
            have y0 : w5.cell? ⟨wr.heap.size, 0, none⟩ = some (.int .i64 x.frm) := cell_of_row _ _ 0 _ _ _ hx5
            have y1 : w5.cell? ⟨wr.heap.size, 1, none⟩ = some (.int .u32 (x.seq : Int)) := cell_of_row _ _ 1 _ _ _ hx5
            have y2 : w5.cell? ⟨wr.heap.size, 2, none⟩ = some (.int .u64 (x.stamp : Int)) := cell_of_row _ _ 2 _ _ _ hx5
            have y3 : w5.cell? ⟨wr.heap.size, 3, none⟩ = some (.int .i64 x.service) := cell_of_row _ _ 3 _ _ _ hx5
            have y4 : w5.cell? ⟨wr.heap.size, 4, none⟩ = some (.slice x.da x.ds.length x.dc) := cell_of_row _ _ 4 _ _ _ hx5
            have y5 : w5.cell? ⟨wr.heap.size, 5, none⟩ = some (.string x.pay) := cell_of_row _ _ 5 _ _ _ hx5
            have hok5 := own_keptS HK.out.1 (Kept.of_below (S := fun _ => False) (bt H2.out.2.2 hb5)) (fun _ _ h => h)
            have H5 := Lib.hid (And.intro hok5 (And.intro hbw5 (bt HA.out.1 hbw5)))
            have hll := HK.out.2.2.2.2
            have hz5 := hbw5.size
            clear hx5 hok5 hbw5 hb5
            go_wp2_with (at_builtin; refine wpList_append_any _ rfl (.tmp 28) (.tmp 30) 27 rfl W.heap.size 42 i0 _ 6 72 Tryd.underlying27 hi hz0 hz1 hz2 rfl (by decide) u5 L.length (rowsM L) rfl (H5.out.1.alloc _) (w5.heap.size + 1) (some ⟨w5.heap.size, 0, none⟩) 1 1 (msgA x).toList rfl (reads_new w5 x) (msgA_one x) (by unfold maxLen; omega) (by omega) (by simp; omega) ?_)
            intro v6 w6 ho6 hg6 hu6
            have hbA5 := H5.out.2.1
            have hb6 : Below W.heap.size W w6 := grownB (hbA5.alloc hbA5.size _) (Nat.le_trans hbA5.size (ba (br w5) _).size) hg6 (fun b hb => (H5.out.1.lt b hb).1)
            have hL3 : P ++ ((R t).take (k + 1)).filter (keyAh a b) = L ++ [x] := by rw [HK.out.2.2.2.1, List.filter_cons, HZ.out, d2]; simp
            have ho6' : w6.ownsRow W.heap.size 42 6 v6 (P ++ ((R t).take (k + 1)).filter (keyAh a b)).length (rowsM (P ++ ((R t).take (k + 1)).filter (keyAh a b))) := by
              rw [hL3, List.length_append, rowsM_snoc]
              exact ho6
            have HE := Lib.hid (And.intro ho6' (And.intro hb6 HK.out.2.2.1))
            clear ho6 ho6' hg6 hu6 hb6 hL3 hbA5
            go_wp2
            exact ⟨⟨k + 1, HE.out.2.2, by go_num, HE.out.1, HE.out.2.1⟩, measI HE.out.2.2⟩
          · have d2 : decide (0 < z) = false := by simpa using hzp
            have hok5 := own_keptS HK.out.1 (Kept.of_below (S := fun _ => False) (bt H2.out.2.2 hb5)) (fun _ _ h => h)
            have hL3 : P ++ ((R t).take (k + 1)).filter (keyAh a b) = L := by rw [HK.out.2.2.2.1, List.filter_cons, HZ.out, d2]; simp
            have HE := Lib.hid (show w5.ownsRow W.heap.size 42 6 u5 (P ++ ((R t).take (k + 1)).filter (keyAh a b)).length (rowsM (P ++ ((R t).take (k + 1)).filter (keyAh a b))) from by rw [hL3]; exact hok5)
            have HB5 := Lib.hid (And.intro hbw5 HK.out.2.2.1)
            clear hok5 hL3 hbw5 hb5
            go_wp2
            exact ⟨⟨k + 1, HB5.out.2, by go_num, HE.out, HB5.out.1⟩, measI HB5.out.2⟩
        · have hbool2 : decide (k < n) = false := by simpa using hk2
          have hbool2' : decide ((k : Int) < (n : Int)) = false := by simp; omega
          have e1 : P ++ ((R t).take k).filter (keyAh a b) = aboveN R a b (t + 1) := by
            rw [aboveN_succ, ← HO.out.2.2.2.2.2, List.take_of_length_le (by have := HO.out.2.2.2.2.1; omega)]
          rw [e1] at ho
          have HE := Lib.hid (And.intro ho (And.intro hB HO.out.2.2.1))
          clear ho hB e1
          go_wp2
          exact ⟨⟨t + 1, HE.out.2.2, by go_num, HE.out.1, HE.out.2.1⟩, measI HE.out.2.2⟩
    · have hbool : decide (t < 64) = false := by simpa using hlt
      have hbool' : decide ((t : Int) < 64) = false := by simp; omega
      obtain rfl : t = 64 := by omega
      have hle : (aboveN R a b 64).length ≤ 1000 := Nat.le_trans (List.length_filter_le _ _) HT.out
      have hbw := bt HA.out.1 hB
      have HS := Lib.hid (kSort_gen u5 _ wr (RowsAt.of_own ho).rowsIn hle)
      have HB := Lib.hid hbw
      clear ho hbw hB hle
      go_wp2_with fail
      refine HS.out.mono ?_
      rintro e w2 ⟨⟨v2, rfl, hr2, _⟩, hb2⟩
      have hbw2 := bt HB.out hb2
      have hh2 := HA.out.2.2.2.1.below hbw2
      have hmem : ∀ m ∈ sortM (aboveN R a b 64), ∃ p, p < 64 ∧ m ∈ R p := fun m hm => by
        obtain ⟨p, h1, h2, _⟩ := aboveN_mem ((sortM_same _).mem.2 hm)
        exact ⟨p, h1, h2⟩
      have hms := hr2.rowsIn.msgsAt (by rw [sortM_len]; have := Nat.le_trans (List.length_filter_le (keyAh a b) (allN R 64)) HT.out; unfold aboveN; unfold allN at this; omega) (fun m hm => by
        obtain ⟨p, h1, h2⟩ := hmem m hm
        exact (hh2.ok p h1 m h2).1)
      have HC := Lib.hid (copies_any v2 _ w2 hms (by rw [sortM_len]; exact Nat.le_trans (List.length_filter_le _ _) HT.out) (fun m hm => by
        obtain ⟨p, h1, h2⟩ := hmem m hm
        exact HD.out p h1 m h2))
      have HB2 := Lib.hid hbw2
      clear hr2 hh2 hmem hms hbw2 hb2
      go_wp2_with fail
      refine HC.out.mono ?_
      rintro e w3 ⟨⟨v3, L3, rfl, h3⟩, hb3⟩
      have H3 := Lib.hid (And.intro (CopyEnd.up (show CopyEnd w2 (sortM (aboveN R a b 64)) (.returned v3) w3 from ⟨v3, L3, rfl, h3⟩) HB2.out.size) (bt HB2.out hb3))
      clear h3 hb3
      go_wp2
      go_ret
      exact H3.out
end Go.Proofs.YtgjlcjbmcnofiaaDoor
namespace Go.Proofs.YtgjlcjbmcnofiaaDoor
set_option linter.unusedVariables false
set_option linter.unusedSimpArgs false
open Go.RowKit
def lo0 : Nat → Nat := fun _ => 0
def R0 : Nat → List Msg := fun _ => []
theorem CopyEnd.len {w w' : World} {l : List Msg} {e : Ending} (h : CopyEnd w l e w') : ∃ v L, e = .returned v ∧ w'.ownsRow w.heap.size 42 6 v l.length (rowsM L) ∧ L.map core = l.map core ∧ L.length = l.length := by
  obtain ⟨v, L, he, ho, hm, _⟩ := h
  have hl : L.length = l.length := by simpa using congrArg List.length hm
  exact ⟨v, L, he, hl ▸ ho, hm, hl⟩
theorem bd0 : HoldBd lo0 R0 := fun p _ => by unfold lo0 R0; simp
theorem HoldAt.not_in {w : World} {D N : Nat} {lo : Nat → Nat} {R : Nat → List Msg} {V : Nat → Value} (h : HoldAt w D lo R V) (hN : w.heap.size ≤ N) : ¬ holdS D V N := by
  rintro (e | ⟨p, hp, e⟩)
  · have := h.lt; omega
  · have := ((h.own p hp).lt N e).2; omega
/-- a hold's own blocks lie from B on -/
def HoldFrom (B D : Nat) (V : Nat → Value) : Prop := ∀ b, holdS D V b → B ≤ b
theorem HoldFrom.new {B D : Nat} {V V' : Nat → Value} {w : World} (h : HoldFrom B D V) (hn : newV w V V') (hB : B ≤ w.heap.size) : HoldFrom B D V' := by
  rintro b (rfl | ⟨p, hp, e⟩)
  · exact h _ (.inl rfl)
  · rcases hn p hp b e with e | e
    · exact h b (.inr ⟨p, hp, e⟩)
    · omega
theorem HoldFrom.below {B D : Nat} {V : Nat → Value} {w0 w w' : World} (h : HoldFrom B D V) (hb : Below B w0 w) (hB : B ≤ w.heap.size) (hk : Kept (holdS D V) w w') : Below B w0 w' :=
  hk.out hb hB (fun q hq hin => by have := h q hin; omega)
def PutEnd2 (w : World) (D : Nat) (lo : Nat → Nat) (R : Nat → List Msg) (V : Nat → Value) (m : Msg) (e : Ending) (w' : World) : Prop :=
  e = .returned (.int .i64 (putK lo R m)) ∧ Kept (holdS D V) w w' ∧ ∃ V', newV w V V' ∧ ((putK lo R m ≠ 0 ∧ HoldAt w' D lo R V') ∨ (putK lo R m = 0 ∧ m.frm.toNat < 64 ∧ m.frm = (m.frm.toNat : Int) ∧ ∃ m', core m' = core m ∧ HoldAt w' D lo (upd R m.frm.toNat (R m.frm.toNat ++ [m'])) V'))
theorem hPut_two (D : Nat) (lo : Nat → Nat) (R : Nat → List Msg) (V : Nat → Value) (m : Msg) (w : World) (h : HoldAt w D lo R V) (hb : HoldBd lo R) (hok : MsgOk w m) (hds : m.ds.length ≤ 1000000) :
    Calls Tryd.prog 48 #[.pointer (some ⟨D, 0, none⟩), .agg (msgA m)] w fun e w' => PutEnd2 w D lo R V m e w' :=
  (hPut_any D lo R V m w h hb hok hds).mono fun e w' ⟨he, hk, hor⟩ => ⟨he, hk, by
    rcases hor with ⟨h1, h2⟩ | ⟨h1, h2, h3, m', v', h4, h5, h6⟩
    · exact ⟨V, fun q _ b hb => .inl hb, .inl ⟨h1, h2⟩⟩
    · exact ⟨_, newV_upd fun b hb => by
        rcases h6 with e | ⟨b', e, hle⟩
        · rw [e] at hb; exact .inl hb
        · rw [e] at hb; injection hb with hb; exact .inr (hb ▸ hle), .inr ⟨h1, h2, h3, m', h4, h5⟩⟩⟩
theorem bd1 (m : Msg) : HoldBd lo0 (upd R0 2 (R0 2 ++ [m])) := fun p _ => by
  refine ⟨?_, by unfold lo0; omega⟩
  by_cases e : p = 2
  · subst e; rw [upd_same]; simp [R0]
  · rw [upd_ne _ _ e]; simp [R0]
theorem ds1 {m : Msg} (hm : m.ds.length ≤ 1000000) : ∀ p, p < 64 → ∀ x ∈ upd R0 2 (R0 2 ++ [m]) p, x.ds.length ≤ 1000000 := fun p _ x hx => by
  by_cases e : p = 2
  · subst e; rw [upd_same] at hx; simp [R0] at hx; rw [hx]; exact hm
  · rw [upd_ne _ _ e] at hx; simp [R0] at hx
def AllIs (R : Nat → List Msg) (l : List Msg) : Prop := allN R 64 = l
theorem all1 (m : Msg) : AllIs (upd R0 2 (R0 2 ++ [m])) [m] := by rfl
end Go.Proofs.YtgjlcjbmcnofiaaDoor
