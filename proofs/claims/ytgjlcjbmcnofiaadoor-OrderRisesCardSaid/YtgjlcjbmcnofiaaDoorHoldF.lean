/-
  What hold's Drop leaves.
  Conditions: none.
-/
import Derived.Test.YtgjlcjbmcnofiaaDoorHoldE
namespace Go.Proofs.YtgjlcjbmcnofiaaDoor
set_option linter.unusedVariables false
set_option linter.unusedSimpArgs false
open Go.RowKit
theorem HoldAt.setv {w w8 : World} {D : Nat} {lo : Nat → Nat} {R : Nat → List Msg} {V : Nat → Value} {p : Nat} {v8 : Value} {L : List Msg} (h : HoldAt w D lo R V) (hp : p < 64) (hb : Below w.heap.size w w8)
    (ho8 : w8.ownsRow w.heap.size 42 6 v8 L.length (rowsM L)) (hL : ∀ m ∈ L, m ∈ R p) :
    HoldAt (w8.setCell ⟨D, 64 + p, none⟩ v8) D lo (upd R p L) (upd V p v8) ∧ Kept (holdS D V) w (w8.setCell ⟨D, 64 + p, none⟩ v8) := by
  have h8 := h.below hb
  have e1 := h8.blk
  have hk : Kept (fun b => b = D) w8 (w8.setCell ⟨D, 64 + p, none⟩ v8) := (show Kept (fun b => b = D) w8 w8 from .refl _ _).setCell (p := ⟨D, 64 + p, none⟩) rfl _
  have hD : ∀ {e : TypeId} {v : Value} {n s b0 : Nat} {xs : List Value}, w8.ownsRow b0 e s v n xs → e ≠ 133 → ∀ b, v.ownBlock = some b → ¬ b = D := fun ho hne b hb hc => own_blk_ne ho e1 hne (hc ▸ hb)
  have hlt : ∀ q, q < 64 → ∀ b, (V q).ownBlock = some b → b < w.heap.size := fun q hq b hb => ((h.own q hq).lt b hb).2
  refine ⟨⟨?_, fun q hq => ?_, fun q r b hq hr hne hb1 hb2 => ?_, fun q hq m hm => ?_⟩, ?_⟩
  · rw [← holdC_setv lo V hp]
    exact setCell_block e1 (64 + p) v8
  · by_cases hqp : q = p
    · subst hqp
      rw [upd_same, upd_same]
      exact own_keptS (ownMore ho8 (Nat.zero_le _)) hk (hD ho8 (by decide))
    · rw [upd_ne _ _ hqp, upd_ne _ _ hqp]
      exact own_keptS (h8.own q hq) hk (hD (h8.own q hq) (by decide))
  · by_cases hqp : q = p
    · subst hqp
      rw [upd_same] at hb1
      rw [upd_ne _ _ (Ne.symm hne)] at hb2
      have := (ho8.lt b hb1).1
      have := hlt r hr b hb2
      omega
    · rw [upd_ne _ _ hqp] at hb1
      by_cases hrp : r = p
      · subst hrp
        rw [upd_same] at hb2
        have := (ho8.lt b hb2).1
        have := hlt q hq b hb1
        omega
      · rw [upd_ne _ _ hrp] at hb2
        exact h.apart q r b hq hr hne hb1 hb2
  · have hall : FreshM 0 w8 m := by
      by_cases hqp : q = p
      · subst hqp
        rw [upd_same] at hm
        exact h8.ok q hq m (hL m hm)
      · rw [upd_ne _ _ hqp] at hm
        exact h8.ok q hq m hm
    exact hall.kept hk (hD hall.2 (by decide))
  · exact (Kept.of_below (S := holdS D V) hb).trans (hk.more fun k _ e => .inl e)
theorem HoldAt.setlo {w : World} {D : Nat} {lo : Nat → Nat} {R : Nat → List Msg} {V : Nat → Value} (h : HoldAt w D lo R V) {p : Nat} (hp : p < 64) (n : Nat) :
    HoldAt (w.setCell ⟨D, p, none⟩ (.int .u32 (n : Int))) D (upd lo p n) R V ∧ Kept (fun b => b = D) w (w.setCell ⟨D, p, none⟩ (.int .u32 (n : Int))) := by
  have hk : Kept (fun b => b = D) w (w.setCell ⟨D, p, none⟩ (.int .u32 (n : Int))) := (show Kept (fun b => b = D) w w from .refl _ _).setCell (p := ⟨D, p, none⟩) rfl _
  have hD : ∀ {e : TypeId} {v : Value} {n s b0 : Nat} {xs : List Value}, w.ownsRow b0 e s v n xs → e ≠ 133 → ∀ b, v.ownBlock = some b → ¬ b = D := fun ho hne b hb hc => own_blk_ne ho h.blk hne (hc ▸ hb)
  refine ⟨⟨?_, fun q hq => own_keptS (h.own q hq) hk (hD (h.own q hq) (by decide)), h.apart, fun q hq m hm => (h.ok q hq m hm).kept hk (hD (h.ok q hq m hm).2 (by decide))⟩, hk⟩
  rw [← holdC_setlo lo V hp]
  exact setCell_block h.blk p _
set_option maxRecDepth 100000 in
set_option maxHeartbeats 4000000 in
theorem hDrop_in (D : Nat) (lo : Nat → Nat) (R : Nat → List Msg) (V : Nat → Value) (p upto k : Nat) (w : World) (h : HoldAt w D lo R V) (hb : HoldBd lo R) (hp : p < 64) (hk : k = min upto (lo p + (R p).length)) (hu : upto < 4294967296) (hlo : lo p < k) :
    Calls Tryd.prog 51 #[.pointer (some ⟨D, 0, none⟩), .int .i64 (p : Int), .int .u32 (upto : Int)] w fun e w' => e = .returned (.tuple #[]) ∧ (∃ v', HoldAt w' D (upd lo p k) (upd R p ((R p).drop (k - lo p))) (upd V p v') ∧ ∀ b, v'.ownBlock = some b → w.heap.size ≤ b) ∧ Kept (holdS D V) w w' := by
  have HCo := Lib.hid (hCount_in D lo R V p w h hp hb)
  have HLo := Lib.hid (fun (W : World) (hW : Below w.heap.size w W) => hLow_in D lo R V p W (h.below hW) hp)
  obtain ⟨ad, cap, hv, hc1, hc2, hr⟩ := h.rows hp
  have hi : (p : Int) < 64 := by omega
  obtain ⟨b1, b2⟩ := hb p hp
  obtain ⟨n, hn⟩ : ∃ n, n = (R p).length := ⟨_, rfl⟩
  obtain ⟨l0, hl0⟩ : ∃ n, n = lo p := ⟨_, rfl⟩
  obtain ⟨s, hs⟩ : ∃ s : Nat, s = lo p + (R p).length := ⟨_, rfl⟩
  have HH := Lib.hid (And.intro h (And.intro hv (And.intro hr (And.intro hn (And.intro hl0 (And.intro hc1 hb))))))
  rw [← hs] at HCo hk
  rw [← hl0] at HLo hlo b2 ⊢
  rw [← hn] at hc1 b1
  have hsn : s = l0 + n := by rw [hs, ← hn, ← hl0]
  have m1 : (if s < upto then (s : Int) else (upto : Int)) = (k : Int) := by split <;> omega
  have m2 : (if upto < s then (upto : Int) else (s : Int)) = (k : Int) := by split <;> omega
  have m3 : (if upto ≤ s then (upto : Int) else (s : Int)) = (k : Int) := by split <;> omega
  have m4 : min (upto : Int) (s : Int) = (k : Int) := by omega
  have d1 : decide (l0 < k) = true := by simpa using hlo
  obtain ⟨t, ht⟩ : ∃ t : Nat, IntKind.u32.wrap ((k : Int) - (l0 : Int)) = (t : Int) := ⟨k - l0, by rw [IntKind.wrap_u32]; omega⟩
  have htk : t = k - l0 := by rw [IntKind.wrap_u32] at ht; omega
  have htn : t ≤ n := by omega
  have HT := Lib.hid htk
  clear h hv hr hn hl0 hs hk hlo hsn htk
  go_enter Tryd.func51, Tryd.ntmps51
  go_wp2_with fail
  refine HCo.out.mono ?_
  rintro e w1 ⟨rfl, hb1⟩
  go_wp2_with fail
  refine (HLo.out _ hb1).mono ?_
  rintro e w' ⟨rfl, rfl⟩
  go_upto_region 2 with (fail)
  have h1 := HH.out.1.below hb1
  have hSall : ∀ w', Below w1.heap.size w1 w' → w'.cell? ⟨D, p, none⟩ = some (.int .u32 (l0 : Int)) ∧ w'.cell? ⟨D, 64 + p, none⟩ = some (.slice ad n cap) := by
    intro w' hb'
    refine ⟨by rw [HH.out.2.2.2.2.1]; exact (h1.below hb').clo hp, ?_⟩
    rw [HH.out.2.2.2.1, ← HH.out.2.1]
    exact (h1.below hb').cv hp
  have HS := Lib.hid hSall
  have HB := Lib.hid hb1
  clear hSall h1 hb1
  have q1 : (0 : Int) ≤ (t : Int) := by omega
  have q2 : (t : Int) ≤ (n : Int) := by omega
  have q3 : ((t : Int)).toNat = t := by omega
  go_wp2_with fail
  refine wp_region_mask (fun w' => w'.cell? ⟨D, p, none⟩ = some (.int .u32 (l0 : Int)) ∧ w'.cell? ⟨D, 64 + p, none⟩ = some (.slice ad n cap)) 20 3 [true, true, true, true, true, true, true, true, true, true, true, true, true, true, true, true, true, false, true, true, false, false] #[true, true, true, true, true, true, true, true, true, true, true, true, true, true, true, true, true, false, true, true, false, false] (by kernel_rfl) (by kernel_rfl) (by kernel_rfl) (HS.out _ (br w1).drew) ?_
  iterate 17
    refine wpMask_take _ (Or.inl ⟨by rfl, fun w' hS => by (try dsimp only at hS); go_simp; try with_reducible rfl⟩) ?_
    simp only [Act.put, List.setIfInBounds_toArray, List.set_cons_zero, List.set_cons_succ]
  refine wpMask_skip ?_
  iterate 2
    refine wpMask_take _ (Or.inl ⟨by rfl, fun w' hS => by (try dsimp only at hS); go_simp; try with_reducible rfl⟩) ?_
    simp only [Act.put, List.setIfInBounds_toArray, List.set_cons_zero, List.set_cons_succ]
  refine wpMask_skip (wpMask_skip (wpMask_nil ?_))
  have hbd : Below w1.heap.size w1 w1.drew := (br w1).drew
  generalize w1.drew = W5 at *
  have hbw5 := bt HB.out hbd
  obtain ⟨F, hF⟩ : ∃ F, F = (R p).drop t := ⟨_, rfl⟩
  have hFl : F.length = n - t := by rw [hF, List.length_drop, ← HH.out.2.2.2.1]
  have hrd := reads_drop (t := t) (cap := cap) (HH.out.2.2.1.below hbw5) (by rw [← HH.out.2.2.2.1]; exact htn) (by rw [← HH.out.2.2.2.1]; exact hc1)
  rw [← HH.out.2.2.2.1, ← hF, ← hFl] at hrd
  rw [← hFl]
  have hin : RowsIn W5 (.slice (if cap = t then ad else Option.map (fun x => x.add (t * 6)) ad) F.length (cap - t)) F := ⟨_, _, rfl, hrd.more hbw5.size⟩
  have hCl := kClone_gen _ F W5 hin (by omega)
  refine wpAnyS_ready (rs := [17]) (by kernel_rfl) (by simp) ?_
  refine AllReadyS.cons rfl (fun K hK => ?_) AllReadyS.nil
  have HCl := Lib.hid hCl
  have HIN := Lib.hid (And.intro hF (And.intro hbd (And.intro hbw5 hFl)))
  clear hCl hin hrd hFl hbd hbw5 hF
  generalize (if cap = t then ad else Option.map (fun x => x.add (t * 6)) ad) = A2 at *
  go_simp
  refine HCl.out.mono ?_
  rintro e w7 ⟨⟨v7, rfl, ho7⟩, hb7⟩
  have hb57 := bt HIN.out.2.1 hb7
  have hbw7 := bt HIN.out.2.2.1 hb7
  refine hK.out _ _ (fun _ => HS.out _ hb57) ?_
  clear hK K
  simp only [Act.put, List.setIfInBounds_toArray, List.set_cons_zero, List.set_cons_succ]
  obtain ⟨a7, c7, rfl⟩ := ownForm ho7
  have ho7' := ownMore ho7 HIN.out.2.2.1.size
  have hfin := HH.out.1.setv hp hbw7 ho7' (fun m hm => by rw [HIN.out.1] at hm; exact List.mem_of_mem_drop hm)
  have cell8 := (HS.out _ hb57).2
  have hfree8 : w7.frozen? ⟨D, 64 + p, none⟩ = false := (HH.out.1.below hbw7).free _
  have HFIN := Lib.hid (And.intro hfin (fun b hb => (ho7'.lt b hb).1))
  clear hfin ho7 ho7' hb57 hbw7 hb7
  refine wpAnyS_ready (rs := [20]) (by kernel_rfl) (by simp) ?_
  refine AllReadyS.cons rfl (fun K hK => ?_) AllReadyS.nil
  go_simp
  refine hK.out _ _ (fun h => absurd h (by omega)) ?_
  clear hK K
  simp only [Act.put, List.setIfInBounds_toArray, List.set_cons_zero, List.set_cons_succ]
  refine wpAnyS_ready (rs := [21]) (by kernel_rfl) (by simp) ?_
  refine AllReadyS.cons rfl (fun K hK => ?_) AllReadyS.nil
  go_simp
  refine hK.out _ _ (fun h => absurd h (by omega)) ?_
  clear hK K
  refine wpAnyS_done (by kernel_rfl) ?_ _
  have HZ := Lib.hid HFIN.out.1.1
  clear cell8 hfree8
  obtain ⟨W9, hW9⟩ : ∃ W9, W9 = w7.setCell ⟨D, 64 + p, none⟩ (.slice a7 F.length c7) := ⟨_, rfl⟩
  rw [← hW9] at HZ HFIN ⊢
  have k1 : W9.cell? ⟨D, p, none⟩ = some (.int .u32 (l0 : Int)) := by rw [HH.out.2.2.2.2.1]; exact HZ.out.clo hp
  have k2 : W9.frozen? ⟨D, p, none⟩ = false := HZ.out.free _
  have hlast := HZ.out.setlo hp k
  have HL := Lib.hid (And.intro hlast.1 (HFIN.out.1.2.trans (hlast.2.more (T := holdS D V) fun q _ e => .inl e)))
  have HB9 := Lib.hid HFIN.out.2
  clear hlast hW9 HFIN HZ
  go_wp2
  refine bodyPost_end (results_none rfl _ _ _) rfl ⟨rfl, ⟨.slice a7 F.length c7, ?_, HB9.out⟩, HL.out.2⟩
  rw [← HT.out, ← HIN.out.1]
  exact HL.out.1
set_option maxRecDepth 100000 in
set_option maxHeartbeats 4000000 in
theorem hDrop_no (D : Nat) (lo : Nat → Nat) (R : Nat → List Msg) (V : Nat → Value) (p : Int) (upto : Nat) (w : World) (h : HoldAt w D lo R V) (hb : HoldBd lo R) (hno : ¬ (if procB p = true then lo p.toNat else 0) < min upto (cntZ lo R p)) :
    Calls Tryd.prog 51 #[.pointer (some ⟨D, 0, none⟩), .int .i64 p, .int .u32 (upto : Int)] w fun e w' => e = .returned (.tuple #[]) ∧ Below w.heap.size w w' := by
  have HCo := Lib.hid (hCount_at D lo R V p w h hb)
  have HLo := Lib.hid (fun (W : World) (hW : Below w.heap.size w W) => hLow_at D lo R V p W (h.below hW))
  obtain ⟨l0, hl0⟩ : ∃ l0, l0 = (if procB p = true then lo p.toNat else 0) := ⟨_, rfl⟩
  obtain ⟨s, hs⟩ : ∃ s, s = cntZ lo R p := ⟨_, rfl⟩
  rw [← hl0] at HLo hno
  rw [← hs] at HCo hno
  obtain ⟨k, hk⟩ : ∃ k, k = min upto s := ⟨_, rfl⟩
  rw [← hk] at hno
  have m1 : (if s < upto then (s : Int) else (upto : Int)) = (k : Int) := by split <;> omega
  have m2 : (if upto < s then (upto : Int) else (s : Int)) = (k : Int) := by split <;> omega
  have m3 : (if upto ≤ s then (upto : Int) else (s : Int)) = (k : Int) := by split <;> omega
  have m4 : min (upto : Int) (s : Int) = (k : Int) := by omega
  have d1 : decide (l0 < k) = false := by simpa using hno
  clear h hb hno hl0 hs hk
  go_enter Tryd.func51, Tryd.ntmps51
  go_wp2_with fail
  refine HCo.out.mono ?_
  rintro e w1 ⟨rfl, hb1⟩
  have HB := Lib.hid hb1
  clear hb1
  go_wp2_with fail
  refine (HLo.out _ HB.out).mono ?_
  rintro e w2 ⟨rfl, hb2⟩
  have HB2 := Lib.hid (bt HB.out hb2)
  clear hb2
  go_wp2
  refine bodyPost_end (results_none rfl _ _ _) rfl ⟨rfl, HB2.out⟩
def dropC (lo : Nat → Nat) (R : Nat → List Msg) (p : Int) (upto : Nat) : Bool := procB p && decide (lo p.toNat < min upto (lo p.toNat + (R p.toNat).length))
def dropLo (lo : Nat → Nat) (R : Nat → List Msg) (p : Int) (upto : Nat) : Nat → Nat := if dropC lo R p upto = true then upd lo p.toNat (min upto (lo p.toNat + (R p.toNat).length)) else lo
def dropR (lo : Nat → Nat) (R : Nat → List Msg) (p : Int) (upto : Nat) : Nat → List Msg := if dropC lo R p upto = true then upd R p.toNat ((R p.toNat).drop (min upto (lo p.toNat + (R p.toNat).length) - lo p.toNat)) else R
/-- a hold's new slices are old ones or new -/
def newV (w : World) (V V' : Nat → Value) : Prop := ∀ q, q < 64 → ∀ b, (V' q).ownBlock = some b → (V q).ownBlock = some b ∨ w.heap.size ≤ b
theorem newV_upd {w : World} {V : Nat → Value} {p : Nat} {v : Value} (h : ∀ b, v.ownBlock = some b → (V p).ownBlock = some b ∨ w.heap.size ≤ b) : newV w V (upd V p v) := by
  intro q hq b hb
  by_cases e : q = p
  · subst e; rw [upd_same] at hb; exact h b hb
  · rw [upd_ne _ _ e] at hb; exact .inl hb
def DropEnd (w : World) (D : Nat) (lo : Nat → Nat) (R : Nat → List Msg) (V : Nat → Value) (p : Int) (upto : Nat) (e : Ending) (w' : World) : Prop :=
  e = .returned (.tuple #[]) ∧ (∃ V', HoldAt w' D (dropLo lo R p upto) (dropR lo R p upto) V' ∧ newV w V V') ∧ Kept (holdS D V) w w'
theorem hDrop_any (D : Nat) (lo : Nat → Nat) (R : Nat → List Msg) (V : Nat → Value) (p : Int) (upto : Nat) (w : World) (h : HoldAt w D lo R V) (hb : HoldBd lo R) (hu : upto < 4294967296) :
    Calls Tryd.prog 51 #[.pointer (some ⟨D, 0, none⟩), .int .i64 p, .int .u32 (upto : Int)] w fun e w' => DropEnd w D lo R V p upto e w' := by
  unfold DropEnd dropLo dropR
  by_cases hc : dropC lo R p upto = true
  · rw [if_pos hc, if_pos hc]
    unfold dropC at hc
    simp only [Bool.and_eq_true, decide_eq_true_eq] at hc
    have hpp : 0 ≤ p ∧ p < 64 := by simpa [procB] using hc.1
    obtain ⟨q, hq⟩ : ∃ q : Nat, p = (q : Int) := ⟨p.toNat, by omega⟩
    subst hq
    rw [Int.toNat_natCast] at hc ⊢
    refine (hDrop_in D lo R V q upto _ w h hb (by omega) rfl hu hc.2).mono ?_
    rintro e w' ⟨he, ⟨v', h1, h2⟩, h3⟩
    exact ⟨he, ⟨_, h1, newV_upd fun b hb => .inr (h2 b hb)⟩, h3⟩
  · rw [if_neg hc, if_neg hc]
    refine (hDrop_no D lo R V p upto w h hb (fun hlt => hc ?_)).mono ?_
    · unfold dropC
      unfold cntZ at hlt
      by_cases hp : procB p = true
      · rw [if_pos hp, if_pos hp] at hlt
        simp [hp, hlt]
      · rw [if_neg hp, if_neg hp] at hlt
        omega
    · rintro e w' ⟨he, hb'⟩
      exact ⟨he, ⟨V, h.below hb', fun q _ b hb => .inl hb⟩, .of_below hb'⟩
end Go.Proofs.YtgjlcjbmcnofiaaDoor
