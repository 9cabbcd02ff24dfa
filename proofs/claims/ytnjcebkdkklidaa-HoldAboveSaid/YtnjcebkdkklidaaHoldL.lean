/-
  The law HoldAbove.
  Conditions: none.
-/
import Derived.Test.YtnjcebkdkklidaaHoldK
import Derived.Test.YtnjcebkdkklidaaCmpB
namespace Go.Proofs.Ytnjcebkdkklidaa
set_option linter.unusedVariables false
set_option linter.unusedSimpArgs false
open Go.RowKit
theorem keyAh_ltB (a b : Int) (m : Msg) : keyAh a b m = ltB a b m.stamp m.frm := by
  rw [Bool.eq_iff_iff, ltB_iff]
  unfold keyAh
  rcases keyZ_vals m.stamp m.frm a b with ⟨e, h⟩ | ⟨e, h, h'⟩ | ⟨e, h⟩
  · rw [e]; unfold keyLt at *; simp only at *; simp; omega
  · rw [e]; unfold keyLt; simp; omega
  · rw [e]; simp [h]
theorem keyAh_core {a b : Int} {x y : Msg} (h : core x = core y) : keyAh a b x = keyAh a b y := by
  obtain ⟨h1, _, h3, _⟩ := core_iff.1 h
  unfold keyAh
  rw [h1, h3]
theorem filter_core {a b : Int} : ∀ {L K : List Msg}, L.map core = K.map core → (L.filter (keyAh a b)).length = (K.filter (keyAh a b)).length
  | [], [], _ => rfl
  | x :: L, y :: K, h => by
    simp only [List.map_cons, List.cons.injEq] at h
    have := filter_core (a := a) (b := b) h.2
    rw [List.filter_cons, List.filter_cons, keyAh_core h.1]
    split <;> simp [this]
  | [], y :: K, h => by simp at h
  | x :: L, [], h => by simp at h
theorem InvH.from {k : Nat} {lo : Nat → Nat} {R : Nat → List Msg} (h : InvH k lo R) (hk : k ≤ 1000) {p : Nat} (hp : p < 64) : fromZ lo R (p : Int) 0 1000 = R p := by
  unfold fromZ
  rw [if_pos ⟨by simp [procB]; omega, by omega, by omega⟩, Int.toNat_natCast]
  unfold fromL fromAt
  rw [show max 0 (lo p + 1) - lo p - 1 = 0 by omega, List.drop_zero]
  exact List.take_of_length_le (by have := h.cnt p hp; show _ ≤ 1000; omega)
theorem InvH.cntZ {k : Nat} {lo : Nat → Nat} {R : Nat → List Msg} (h : InvH k lo R) {p : Nat} (hp : p < 64) : cntZ lo R (p : Int) = lo p + (R p).length := by
  unfold Go.Proofs.Ytnjcebkdkklidaa.cntZ
  rw [if_pos (by simp [procB]; omega), Int.toNat_natCast]
theorem cntV' {c c' : Nat} (h : c' = c + 1) : Value.int .i64 ((c : Int) + 1) = .int .i64 (c' : Int) := by rw [h]; go_num
theorem putM_row {w : World} {N : Nat} {cs : Array Value} {m : Msg} (hx : w.heap[N]? = some (.cells cs 37 (0, 0))) (hs : cs.size = 6) : (putM w N 0 m).heap[N]? = some (.cells (msgA m) 37 (0, 0)) := by
  obtain ⟨l⟩ := cs
  match l, hs with
  | [a, b, c, d, e, f], _ =>
    unfold putM
    have h := setCell_block (setCell_block (setCell_block (setCell_block (setCell_block (setCell_block hx (0 + 0) (.int .i64 m.frm)) (0 + 1) (.int .u32 (m.seq : Int))) (0 + 2) (.int .u64 (m.stamp : Int))) (0 + 3) (.int .i64 m.service)) (0 + 4) (.slice m.da m.ds.length m.dc)) (0 + 5) (.string m.pay)
    simp only [Nat.zero_add, List.setIfInBounds_toArray, List.set_cons_zero, List.set_cons_succ] at h ⊢
    exact h
theorem kept_putM (w : World) (N : Nat) (m : Msg) : Kept (fun b => b = N) w (putM w N 0 m) := by
  unfold putM
  exact ((((((show Kept (fun b => b = N) w w from .refl _ _).setCell (p := ⟨N, 0, none⟩) rfl _).setCell (p := ⟨N, 0 + 1, none⟩) rfl _).setCell (p := ⟨N, 0 + 2, none⟩) rfl _).setCell (p := ⟨N, 0 + 3, none⟩) rfl _).setCell (p := ⟨N, 0 + 4, none⟩) rfl _).setCell (p := ⟨N, 0 + 5, none⟩) rfl _
/-- a variable that got a message's cells -/
theorem varStored {wr W9 : World} {N g o : Nat} {y m' : Msg} {i : Nat} {cs : Array Value} (hS : ∀ w', Below wr.drew.heap.size wr.drew w' → w'.cell? ⟨g, o + i * 6, none⟩ = some (.int .i64 y.frm) ∧ w'.cell? ⟨g, o + i * 6 + 1, none⟩ = some (.int .u32 (y.seq : Int)))
    (hx : W9.heap[N]? = some (.cells cs 37 (0, 0))) (hN : wr.drew.heap.size ≤ N) (hb : Below wr.drew.heap.size wr.drew W9) (hc : core m' = core y) (hok : MsgOk W9 m') (hne : ∀ ad, m'.da = some ad → 0 < m'.ds.length → ad.block ≠ N) (hs : cs.size = 6 := by rfl) :
    ((putM W9 N 0 m').heap[N]? = some (.cells (msgA m') 37 (0, 0)) ∧ core m' = core y ∧ MsgOk (putM W9 N 0 m') m' ∧ Below wr.heap.size wr (putM W9 N 0 m')) ∧ ((putM W9 N 0 m').cell? ⟨g, o + i * 6, none⟩ = some (.int .i64 y.frm) ∧ (putM W9 N 0 m').cell? ⟨g, o + i * 6 + 1, none⟩ = some (.int .u32 (y.seq : Int))) := by
  have hk := kept_putM W9 N m'
  have hbF : Below wr.drew.heap.size wr.drew (putM W9 N 0 m') := hk.out hb hb.size (fun q hq e => by omega)
  exact ⟨⟨putM_row hx hs, hc, hok.kept hk (fun ad e hn hin => hne ad e hn hin), bt (br wr).drew hbF⟩, hS _ hbF⟩
set_option maxRecDepth 100000 in
set_option maxHeartbeats 16000000 in
theorem law_holdAbove (v : Value) (l : List ActH) (a b : Int) (w : World) (h : ActsH w v l) :
    Calls Try.prog 5 #[v, .agg #[.int .u64 a, .int .i64 b]] w fun e w' => e = .returned (.bool true) ∧ Below w.heap.size w w' := by
  obtain ⟨W, hW⟩ : ∃ W, W = w.alloc (.cells #[.int .u64 a, .int .i64 b] 26) := ⟨_, rfl⟩
  have hbA := ba (br w) (.cells #[.int .u64 a, .int .i64 b] 26)
  have hxA := heap_alloc_new w (.cells #[.int .u64 a, .int .i64 b] 26)
  rw [← hW] at hbA hxA
  have HH := Lib.hid (h.below hbA)
  have HA := Lib.hid (And.intro hbA hxA)
  have HAw := Lib.hid (awake12_any W)
  obtain ⟨ad, cap, rfl, hz⟩ := id h
  clear h hz hbA hxA
  go_enter Try.func5, Try.ntmps5
  go_upto_region 1 with (fail)
  rw [← hW]
  clear hW
  go_wp2_with fail
  refine HAw.out.mono ?_
  rintro e w1 ⟨rfl, hb1⟩
  have HF := Lib.hid (FewH_any _ l w1 (HH.out.below hb1))
  have HB1 := Lib.hid hb1
  clear HAw hb1
  go_wp2_with fail
  refine HF.out.mono ?_
  rintro e w2 ⟨⟨f, rfl, hf⟩, hb2⟩
  have HF2 := Lib.hid (And.intro hf (bt HB1.out hb2))
  clear HF hf hb2
  cases f
  · go_wp2
    go_ret
    exact ⟨rfl, bt HA.out.1 HF2.out.2⟩
  · have hl : l.length ≤ 200 := (HF2.out.1 rfl).1
    have HFO := Lib.hid (fun x hx => ((HF2.out.1 rfl).2 x hx).2)
    have HN := Lib.hid (hNew_any w2)
    have HB2 := Lib.hid HF2.out.2
    clear HF2
    go_wp2_with fail
    refine HN.out.mono ?_
    rintro e w3 ⟨rfl, h3, hb3⟩
    obtain ⟨D, hD⟩ : ∃ D, D = w2.heap.size := ⟨_, rfl⟩
    have hK0 : HoldK W.heap.size W w3 D 0 lo0 R0 (fun _ => .slice none 0 0) := ⟨hD ▸ h3, .zero, (by
      rintro q (e | ⟨p, _, e⟩)
      · have := HB2.out.size; omega
      · cases e), bt HB2.out hb3, (bt HB2.out hb3).size⟩
    have H3 := Lib.hid hK0
    rw [← hD]
    clear h3 hb3 hK0 hD HN
    go_wp2_with fail
    go_loopw [6] (fun i wr => ∃ k : Nat, k ≤ l.length ∧ i = .int .i64 (k : Int) ∧ ∃ lo R V, HoldK W.heap.size W wr D k lo R V) (fun i _ => l.length - (intOf i).toNat)
    case atStart => exact ⟨0, by omega, rfl, _, _, _, H3.out⟩
    case round =>
      obtain ⟨k, hk, rfl, lo, R, V, hK⟩ := hrel
      by_cases hlt : k < l.length
      · have hbool : decide ((k : Int) < (l.length : Int)) = true := by simpa using hlt
        have hi0 : (k : Int) < (l.length : Int) := by omega
        have hk3 : k ≤ 200 := by omega
        obtain ⟨ad', cap', e0, _, hm⟩ := HH.out.below hK.bel
        injection e0 with e0 e1 e2
        subst e0
        subst e2
        clear e1
        obtain ⟨g, o, rfl, hg, hrow, hok, hup⟩ := hm k hlt
        have hds := HFO.out _ (List.getElem_mem hlt)
        generalize l[k] = x at hrow hok hup hds
        obtain ⟨xd, xp, xu, xm⟩ := x
        simp only at hrow hok hup hds
        have hrow2 := act_msg hrow
        have z0 : wr.cell? ⟨g, o + k * 9, none⟩ = some (.bool xd) := hrow 0 _ rfl
        have z1 : wr.cell? ⟨g, o + k * 9 + 1, none⟩ = some (.int .i64 xp) := hrow 1 _ rfl
        have z2 : wr.cell? ⟨g, o + k * 9 + 2, none⟩ = some (.int .u32 (xu : Int)) := hrow 2 _ rfl
        cases xd
        · -- a Put
          have y0 : wr.cell? ⟨g, o + k * 9 + 3, none⟩ = some (.int .i64 xm.frm) := hrow2 0 _ rfl
          have y1 : wr.cell? ⟨g, o + k * 9 + 3 + 1, none⟩ = some (.int .u32 (xm.seq : Int)) := hrow2 1 _ rfl
          have y2 : wr.cell? ⟨g, o + k * 9 + 3 + 2, none⟩ = some (.int .u64 (xm.stamp : Int)) := hrow2 2 _ rfl
          have y3 : wr.cell? ⟨g, o + k * 9 + 3 + 3, none⟩ = some (.int .i64 xm.service) := hrow2 3 _ rfl
          have y4 : wr.cell? ⟨g, o + k * 9 + 3 + 4, none⟩ = some (.slice xm.da xm.ds.length xm.dc) := hrow2 4 _ rfl
          have y5 : wr.cell? ⟨g, o + k * 9 + 3 + 5, none⟩ = some (.string xm.pay) := hrow2 5 _ rfl
          have HP := Lib.hid (show Calls Try.prog 12 #[.pointer (some ⟨D, 0, none⟩), .agg #[.int .i64 xm.frm, .int .u32 (xm.seq : Int), .int .u64 (xm.stamp : Int), .int .i64 xm.service, .slice xm.da xm.ds.length xm.dc, .string xm.pay]] wr fun e w' => e = .returned (.int .i64 (putK lo R xm)) ∧ NextH W.heap.size W D k w' from stepPut_any hK (by omega) xm hok hds)
          have HLT := Lib.hid hlt
          clear hm hg hrow hrow2 hok hup hds hK hlt hk
          go_wp2_with fail
          refine HP.out.mono ?_
          rintro e w4 ⟨rfl, lo', R', V', h4⟩
          have H4 := Lib.hid h4
          clear h4
          go_wp2
          exact ⟨⟨k + 1, HLT.out, by go_num, lo', R', V', H4.out⟩, measI HLT.out⟩
        · -- a Drop
          have HD := Lib.hid (fun (W' : World) (hW' : Below wr.heap.size wr W') => stepDrop_any (hK.below hW') (by omega) xp xu hup)
          have HS := Lib.hid (show ∀ w', Below wr.heap.size wr w' → w'.cell? ⟨g, o + k * 9 + 1, none⟩ = some (.int .i64 xp) ∧ w'.cell? ⟨g, o + k * 9 + 2, none⟩ = some (.int .u32 (xu : Int)) from fun w' hb => ⟨(hb.cell (p := ⟨g, o + k * 9 + 1, none⟩) hg).trans z1, (hb.cell (p := ⟨g, o + k * 9 + 2, none⟩) hg).trans z2⟩)
          have HLT := Lib.hid hlt
          clear hm hg hrow hrow2 hok hup hds hK hlt hk z1 z2
          go_wp2_with fail
          refine wp_region_mask (fun w' => w'.cell? ⟨g, o + k * 9 + 1, none⟩ = some (.int .i64 xp) ∧ w'.cell? ⟨g, o + k * 9 + 2, none⟩ = some (.int .u32 (xu : Int))) 11 1 [true, true, true, true, true, true, true, true, true, true, true, false] #[true, true, true, true, true, true, true, true, true, true, true, false] (by kernel_rfl) (by kernel_rfl) (by kernel_rfl) (HS.out _ (br wr).drew) ?_
          iterate 11
            refine wpMask_take _ (Or.inl ⟨by rfl, fun w' hS => by (try dsimp only at hS); go_simp; try with_reducible rfl⟩) ?_
            simp only [Act.put, List.setIfInBounds_toArray, List.set_cons_zero, List.set_cons_succ]
          refine wpMask_skip (wpMask_nil ?_)
          have hbd : Below wr.heap.size wr wr.drew := (br wr).drew
          generalize wr.drew = W5 at *
          have HD5 := Lib.hid (HD.out W5 hbd)
          clear hbd
          refine wpAnyS_ready (rs := [11]) (by kernel_rfl) (by simp) ?_
          refine AllReadyS.cons rfl (fun K hK => ?_) AllReadyS.nil
          go_simp
          refine HD5.out.mono ?_
          rintro e w4 ⟨rfl, lo', R', V', h4⟩
          refine hK.out _ _ (fun h => absurd h (by omega)) ?_
          clear hK K
          refine wpAnyS_done (by kernel_rfl) ?_ _
          have H4 := Lib.hid h4
          clear h4
          go_wp2
          exact ⟨⟨k + 1, HLT.out, by go_num, lo', R', V', H4.out⟩, measI HLT.out⟩
      · have hbool : decide ((k : Int) < (l.length : Int)) = false := by simpa using hlt
        have hk3 : k ≤ 200 := by omega
        have hboolN : decide (k < l.length) = false := by simpa using hlt
        have hkey := (hK.bel.block _ (Array.getElem?_eq_some_iff.1 HA.out.2).1).trans HA.out.2
        have q0 : wr.cell? ⟨w.heap.size, 0, none⟩ = some (.int .u64 a) := cell_of_row _ _ 0 _ _ _ hkey
        have q1 : wr.cell? ⟨w.heap.size, 1, none⟩ = some (.int .i64 b) := cell_of_row _ _ 1 _ _ _ hkey
        have HAb := Lib.hid (hAbove_any D lo R V a b wr hK.at_ (hK.inv.bd (by omega)) (by have := hK.inv.tot; omega) hK.inv.ds6)
        have HK := Lib.hid hK
        clear hK hkey hlt hk H3
        go_wp2_with fail
        refine HAb.out.mono ?_
        rintro e w8 ⟨⟨v8, L8, rfl, ho8, hm8, hf8⟩, hb8⟩
        obtain ⟨S, hS⟩ : ∃ S, S = sortM (aboveN R a b 64) := ⟨_, rfl⟩
        rw [← hS] at hm8
        obtain ⟨a8, c8, rfl⟩ := ownForm ho8
        have h8l : L8.length = S.length := by simpa using congrArg List.length hm8
        have hSl : S.length = (aboveN R a b 64).length := by rw [hS, sortM_len]
        have hSle : S.length ≤ 200 := by
          have h1 : (aboveN R a b 64).length ≤ (allN R 64).length := List.length_filter_le _ _
          have := HK.out.inv.tot
          omega
        have H8 := Lib.hid (And.intro (HK.out.below hb8) (And.intro ((RowsAt.of_own ho8).rowsIn) (And.intro hm8 (And.intro hf8 (And.intro hS (And.intro h8l hSl))))))
        obtain ⟨n8, hn8⟩ : ∃ n, n = L8.length := ⟨_, rfl⟩
        rw [← hn8]
        have HN8 := Lib.hid hn8
        have hn9 : n8 ≤ 200 := by omega
        clear ho8 hm8 hf8 hS hb8 h8l hSl hn8 q0 q1 HAb
        go_wp2_with fail
        go_loopw [8, 9] (fun x y wr => ∃ p : Nat, p ≤ 64 ∧ y = .int .i64 (p : Int) ∧ x = .int .i64 ((aboveN R a b p).length : Int) ∧ Below w8.heap.size w8 wr) (fun _ y _ => 64 - (intOf y).toNat)
        case atStart => exact ⟨0, by omega, rfl, rfl, br _⟩
        case round =>
          obtain ⟨p, hp, rfl, rfl, hB⟩ := hrel
          by_cases hlt : p < 64
          · have hbool2 : decide ((p : Int) < 64) = true := by simp; omega
            have hbool2' : decide (p < 64) = true := by simpa using hlt
            have hp64 : p ≤ 64 := hp
            have h8 := H8.out.1.below hB
            have hfr := hFrom_any D lo R V (p : Int) 0 1000 wr h8.at_ (h8.inv.bd (by omega)) (by omega) h8.inv.ds6
            rw [h8.inv.from (by omega) hlt] at hfr
            have HFr := Lib.hid (show Calls Try.prog 20 #[.pointer (some ⟨D, 0, none⟩), .int .i64 (p : Int), .int .u32 0, .int .i64 1000] wr fun e w' => CopyEnd wr (R p) e w' ∧ Below wr.heap.size wr w' from hfr)
            have HCo := Lib.hid (fun (W' : World) (hW' : Below wr.heap.size wr W') => hCount_at D lo R V (p : Int) W' (h8.at_.below hW') (h8.inv.bd (by omega)))
            have HLo := Lib.hid (fun (W' : World) (hW' : Below wr.heap.size wr W') => hLow_in D lo R V p W' (h8.at_.below hW') hlt)
            rw [h8.inv.cntZ hlt] at HCo
            obtain ⟨n, hn⟩ : ∃ n, n = (R p).length := ⟨_, rfl⟩
            obtain ⟨l0, hl0⟩ : ∃ n, n = lo p := ⟨_, rfl⟩
            have hcnt := h8.inv.cnt p hlt
            rw [← hn, ← hl0] at hcnt
            rw [← hn, ← hl0] at HCo
            rw [← hl0] at HLo
            obtain ⟨s, hs⟩ : ∃ s, s = l0 + n := ⟨_, rfl⟩
            rw [← hs] at HCo
            have e1 : IntKind.u32.wrap ((s : Int) - (l0 : Int)) = (n : Int) := by rw [IntKind.wrap_u32]; omega
            have d1 : ((n : Int) != (n : Int)) = false := by simp
            have hs9 : s ≤ 200 := by omega
            have hn9' : n ≤ 200 := by omega
            have hl09 : l0 ≤ 200 := by omega
            have hab : (aboveN R a b p).length + n ≤ 200 := by
              have h1 : (aboveN R a b p).length ≤ (allN R p).length := List.length_filter_le _ _
              have h2 := allN_succ R p
              have h3 := allN_le R (t := p + 1) (s := 64) (by omega)
              have h4 := h8.inv.tot
              rw [h2, List.length_append] at h3
              omega
            obtain ⟨c9, hc9⟩ : ∃ c, c = (aboveN R a b p).length := ⟨_, rfl⟩
            rw [← hc9] at hab ⊢
            have hc99 : c9 ≤ 200 := by omega
            have HP := Lib.hid (And.intro hlt (And.intro hB (And.intro hn hc9)))
            clear h8 hfr hcnt hs hn hl0 hlt hB hc9 hp
            go_wp2_with fail
            refine HFr.out.mono ?_
            rintro e w9 ⟨hce, hb9⟩
            obtain ⟨v9, L9, rfl, ho9, hm9, h9l⟩ := hce.len
            obtain ⟨a9, cp9, rfl⟩ := ownForm ho9
            rw [← HP.out.2.2.1] at ho9 h9l ⊢
            have H9 := Lib.hid (And.intro (show RowsIn w9 (.slice a9 n cp9) L9 from by rw [← h9l] at ho9; rw [← h9l]; exact (RowsAt.of_own ho9).rowsIn) (And.intro hm9 (And.intro h9l hb9)))
            clear ho9 hm9 h9l hb9 hce
            go_wp2_with fail
            refine (HCo.out _ H9.out.2.2.2).mono ?_
            rintro e w10 ⟨rfl, hb10⟩
            have HB10 := Lib.hid (And.intro (bt H9.out.2.2.2 hb10) hb10)
            clear hb10
            go_wp2_with fail
            refine (HLo.out _ HB10.out.1).mono ?_
            rintro e w11 ⟨rfl, rfl⟩
            go_wp2_with fail
            obtain ⟨wo, hwo⟩ : ∃ wo : World, wo = w10 := ⟨_, rfl⟩
            rw [← hwo] at HB10 ⊢
            have hbwo := bt HP.out.2.1 HB10.out.1
            have hbWo := bt H8.out.1.bel hbwo
            have hkey := (hbWo.block _ (Array.getElem?_eq_some_iff.1 HA.out.2).1).trans HA.out.2
            have hin9 := H9.out.1.below HB10.out.2
            have HQ := Lib.hid (And.intro hbwo (And.intro hkey hin9))
            clear hwo hbwo hbWo hkey hin9 HLo
            go_loopw [8, 11] (fun x y wr => ∃ i : Nat, i ≤ n ∧ y = .int .i64 (i : Int) ∧ x = .int .i64 ((c9 + ((L9.take i).filter (keyAh a b)).length : Nat) : Int) ∧ Below wo.heap.size wo wr) (fun _ y _ => n - (intOf y).toNat)
            case atStart => exact ⟨0, by omega, rfl, by simp, br _⟩
            case round =>
              obtain ⟨i, hi', rfl, rfl, hB2⟩ := hrel
              obtain ⟨c, hc⟩ : ∃ c, c = c9 + ((L9.take i).filter (keyAh a b)).length := ⟨_, rfl⟩
              have hcle : c ≤ 400 := by
                have h1 := List.length_filter_le (keyAh a b) (L9.take i)
                rw [List.length_take] at h1
                have := H9.out.2.2.1
                omega
              rw [← hc]
              by_cases hi2 : i < n
              · have hbool3 : decide ((i : Int) < (n : Int)) = true := by simpa using hi2
                have hbool3' : decide (i < n) = true := by simpa using hi2
                have hii : (i : Int) < (n : Int) := by omega
                have hi9 : i < L9.length := by rw [H9.out.2.2.1]; exact hi2
                obtain ⟨cp', g, o, e9, hg, hrow⟩ := (HQ.out.2.2.below hB2).msg hi9
                injection e9 with e9 e10 e11
                subst e9
                clear e10 e11
                have htk := List.take_succ_eq_append_getElem hi9
                obtain ⟨x, hxe⟩ : ∃ x, x = L9[i] := ⟨_, rfl⟩
                rw [← hxe] at hrow htk
                have hkey := (hB2.block _ (Array.getElem?_eq_some_iff.1 HQ.out.2.1).1).trans HQ.out.2.1
                have c0 := Bel.cell (cell_of_row _ _ 0 _ _ _ hkey : wr.cell? ⟨w.heap.size, 0, none⟩ = some (.int .u64 a)) (Array.getElem?_eq_some_iff.1 hkey).1
                have c1 := Bel.cell (cell_of_row _ _ 1 _ _ _ hkey : wr.cell? ⟨w.heap.size, 1, none⟩ = some (.int .i64 b)) (Array.getElem?_eq_some_iff.1 hkey).1
                have R1 := Lib.hid (Bel.range hrow hg)
                have HOf := Lib.hid (fun (W' : World) => rOf_any x W')
                obtain ⟨z, hz⟩ : ∃ z, z = keyAh a b x := ⟨_, rfl⟩
                have HLe := Lib.hid (fun (W' : World) => rLess_any a b x.stamp x.frm W')
                rw [← keyAh_ltB, ← hz] at HLe
                have HZ := Lib.hid (show c9 + ((L9.take (i + 1)).filter (keyAh a b)).length = c + if z = true then 1 else 0 by
                  rw [htk, List.filter_append, List.length_append, hc, List.filter_cons, ← hz]
                  split <;> simp <;> omega)
                have HI := Lib.hid (And.intro hi2 hB2)
                clear hi' hi2 hi9 hg hrow htk hxe hkey hz hB2 hc
                go_wp2_with fail
                refine wp_region_bel (by kernel_rfl) (by kernel_rfl) ?_
                repeat (first
                  | (refine wpQuiet_load_want (by rfl) 37 (.tmp 81) rfl g (o + i * 6) rfl (msgA x).toList _ R1.out Try.underlying37 rfl (by kernel_rfl) ?_; go_simp)
                  | go_big_quiet_step ((first | (go_at_call 29; exact bel_call (HOf.out _)) | (go_at_call 28; exact bel_call (HLe.out _)))))
                refine wpQuiet_nil ?_
                intro x5
                have hb5 := bt HI.out.2 x5.prop
                generalize x5.val = w5 at *
                cases z
                · go_wp2
                  exact ⟨⟨i + 1, HI.out.1, by go_num, by have := HZ.out; simp at this; rw [this], hb5⟩, measI HI.out.1⟩
                · go_wp2
                  exact ⟨⟨i + 1, HI.out.1, by go_num, cntV' (by have := HZ.out; simpa using this), hb5⟩, measI HI.out.1⟩
              · have hbool3 : decide ((i : Int) < (n : Int)) = false := by simpa using hi2
                have hbool3' : decide (i < n) = false := by simpa using hi2
                have hce : c = (aboveN R a b (p + 1)).length := by
                  rw [hc, aboveN_succ, List.length_append, ← HP.out.2.2.2, List.take_of_length_le (by rw [H9.out.2.2.1]; omega), filter_core H9.out.2.1]
                have HE := Lib.hid (And.intro hce (And.intro (bt HQ.out.1 hB2) HP.out.1))
                clear hi' hi2 hB2 hc hce
                go_wp2
                exact ⟨⟨p + 1, HE.out.2.2, by go_num, by rw [HE.out.1], HE.out.2.1⟩, measI HE.out.2.2⟩
          · have hbool2 : decide ((p : Int) < 64) = false := by simp; omega
            have hbool2' : decide (p < 64) = false := by simpa using hlt
            have hpe : (aboveN R a b p).length = n8 := by
              rw [show p = 64 by omega, ← H8.out.2.2.2.2.2.2, ← H8.out.2.2.2.2.2.1, ← HN8.out]
            rw [hpe]
            clear hpe
            have HB8 := Lib.hid hB
            clear hB hp hlt
            go_wp2_with fail
            go_loopw [12] (fun y wr => ∃ i : Nat, i ≤ n8 ∧ y = .int .i64 (i : Int) ∧ Below w8.heap.size w8 wr) (fun y _ => n8 - (intOf y).toNat)
            case atStart => exact ⟨0, by omega, rfl, HB8.out⟩
            case round =>
              clear HB8
              obtain ⟨i, hi', rfl, hB⟩ := hrel
              by_cases hi2 : i < n8
              · have hbool3 : decide ((i : Int) < (n8 : Int)) = true := by simpa using hi2
                have hbool3' : decide (i < n8) = true := by simpa using hi2
                have hii : (i : Int) < (n8 : Int) := by omega
                have hi8 : i < L8.length := by rw [← HN8.out]; exact hi2
                obtain ⟨cp', g, o, e9, hg, hrow⟩ := (H8.out.2.1.below hB).msg hi8
                injection e9 with e9 e10 e11
                subst e9
                clear e10 e11
                have hiS : i < S.length := by rw [← H8.out.2.2.2.2.2.1]; exact hi8
                have hci : core (gm L8 i) = core (gm S i) := by
                  have h1 := congrArg (fun z => z[i]?) H8.out.2.2.1
                  simp only [List.getElem?_map] at h1
                  rw [List.getElem?_eq_getElem hi8, List.getElem?_eq_getElem hiS] at h1
                  simp only [Option.map_some, Option.some.injEq] at h1
                  rw [gm_get hi8, gm_get hiS]; exact h1
                obtain ⟨y, hy⟩ : ∃ y, y = gm L8 i := ⟨_, rfl⟩
                have hyL : L8[i] = y := by rw [hy, gm_get hi8]
                rw [hyL] at hrow
                rw [← hy] at hci
                obtain ⟨sx, hsx⟩ : ∃ s, s = gm S i := ⟨_, rfl⟩
                rw [← hsx] at hci
                have hsS : sx ∈ S := by rw [hsx, gm_get hiS]; exact List.getElem_mem hiS
                obtain ⟨pp, hpp, hmR, hah⟩ := aboveN_mem ((sortM_same (aboveN R a b 64)).mem.2 (by rw [← H8.out.2.2.2.2.1]; exact hsS))
                have h8r := H8.out.1.below hB
                have hgz := h8r.inv.get hpp hmR
                obtain ⟨c1, c2, c3, c4, c5, c6⟩ := core_iff.1 hci
                have HG := Lib.hid (show ∀ W', Below wr.drew.heap.size wr.drew W' → Calls Try.prog 15 #[.pointer (some ⟨D, 0, none⟩), .int .i64 y.frm, .int .u32 (y.seq : Int)] W' fun e w' => (∃ m', e = .returned (.tuple #[.agg (msgA m'), .bool true]) ∧ core m' = core y ∧ MsgOk w' m' ∧ ∀ ad, m'.da = some ad → 0 < m'.ds.length → W'.heap.size ≤ ad.block) ∧ Below W'.heap.size W' w' from fun W' hW' => by
                  have hbd : Below wr.heap.size wr W' := bt (br wr).drew hW'
                  have := hGet_two D lo R V y.frm y.seq W' (h8r.at_.below hbd) (h8r.inv.bd (by omega)) h8r.inv.ds6
                  rw [c1, c2, hgz] at this
                  rw [c1, c2]
                  refine this.mono ?_
                  rintro e w' ⟨⟨m', he, hc, hok, hfr⟩, hb⟩
                  exact ⟨⟨m', he, hc.trans hci.symm, hok, hfr⟩, hb⟩)
                have hbWr := h8r.bel
                have hkey := (hbWr.block _ (Array.getElem?_eq_some_iff.1 HA.out.2).1).trans HA.out.2
                have HY := Lib.hid (And.intro hy (And.intro hci (And.intro hsx (And.intro hah (And.intro hi2 (And.intro hB (And.intro hkey (And.intro hg hrow))))))))
                have HS := Lib.hid (show ∀ w', Below wr.drew.heap.size wr.drew w' → w'.cell? ⟨g, o + i * 6, none⟩ = some (.int .i64 y.frm) ∧ w'.cell? ⟨g, o + i * 6 + 1, none⟩ = some (.int .u32 (y.seq : Int)) from fun w' hb => ⟨(hb.cell (p := ⟨g, o + i * 6, none⟩) hg).trans (hrow 0 _ rfl), (hb.cell (p := ⟨g, o + i * 6 + 1, none⟩) hg).trans (hrow 1 _ rfl)⟩)
                clear hi' hi2 hi8 hg hrow hiS hci hy hyL hsx hsS hpp hmR hah h8r hgz c1 c2 c3 c4 c5 c6 hbWr hkey hB
                go_upto_region 28 with (fail)
                go_cut [13, 14] (fun s13 s14 wx => s14 = .bool true ∧ ∃ N m', s13 = .pointer (some ⟨N, 0, none⟩) ∧ wx.heap[N]? = some (.cells (msgA m') 37 (0, 0)) ∧ core m' = core y ∧ MsgOk wx m' ∧ Below wr.heap.size wr wx)
                case first =>
                  have HFIN := Lib.hid (show ∀ (W9 : World) (N : Nat) (m' : Msg), W9.heap[N]? = some (.cells #[.int .i64 0, .int .u32 0, .int .u64 0, .int .i64 0, .slice none 0 0, .string ⟨#[]⟩] 37 (0, 0)) → wr.drew.heap.size ≤ N → Below wr.drew.heap.size wr.drew W9 → core m' = core y → MsgOk W9 m' → (∀ ad, m'.da = some ad → 0 < m'.ds.length → ad.block ≠ N) →
                      (((((((W9.setCell ⟨N, 0, none⟩ (.int .i64 m'.frm)).setCell ⟨N, 1, none⟩ (.int .u32 (m'.seq : Int))).setCell ⟨N, 2, none⟩ (.int .u64 (m'.stamp : Int))).setCell ⟨N, 3, none⟩ (.int .i64 m'.service)).setCell ⟨N, 4, none⟩ (.slice m'.da m'.ds.length m'.dc)).setCell ⟨N, 5, none⟩ (.string m'.pay)).heap[N]? = some (.cells (msgA m') 37 (0, 0)) ∧ core m' = core y ∧ MsgOk ((((((W9.setCell ⟨N, 0, none⟩ (.int .i64 m'.frm)).setCell ⟨N, 1, none⟩ (.int .u32 (m'.seq : Int))).setCell ⟨N, 2, none⟩ (.int .u64 (m'.stamp : Int))).setCell ⟨N, 3, none⟩ (.int .i64 m'.service)).setCell ⟨N, 4, none⟩ (.slice m'.da m'.ds.length m'.dc)).setCell ⟨N, 5, none⟩ (.string m'.pay)) m' ∧ Below wr.heap.size wr ((((((W9.setCell ⟨N, 0, none⟩ (.int .i64 m'.frm)).setCell ⟨N, 1, none⟩ (.int .u32 (m'.seq : Int))).setCell ⟨N, 2, none⟩ (.int .u64 (m'.stamp : Int))).setCell ⟨N, 3, none⟩ (.int .i64 m'.service)).setCell ⟨N, 4, none⟩ (.slice m'.da m'.ds.length m'.dc)).setCell ⟨N, 5, none⟩ (.string m'.pay))) ∧
                      (((((((W9.setCell ⟨N, 0, none⟩ (.int .i64 m'.frm)).setCell ⟨N, 1, none⟩ (.int .u32 (m'.seq : Int))).setCell ⟨N, 2, none⟩ (.int .u64 (m'.stamp : Int))).setCell ⟨N, 3, none⟩ (.int .i64 m'.service)).setCell ⟨N, 4, none⟩ (.slice m'.da m'.ds.length m'.dc)).setCell ⟨N, 5, none⟩ (.string m'.pay)).cell? ⟨g, o + i * 6, none⟩ = some (.int .i64 y.frm) ∧ ((((((W9.setCell ⟨N, 0, none⟩ (.int .i64 m'.frm)).setCell ⟨N, 1, none⟩ (.int .u32 (m'.seq : Int))).setCell ⟨N, 2, none⟩ (.int .u64 (m'.stamp : Int))).setCell ⟨N, 3, none⟩ (.int .i64 m'.service)).setCell ⟨N, 4, none⟩ (.slice m'.da m'.ds.length m'.dc)).setCell ⟨N, 5, none⟩ (.string m'.pay)).cell? ⟨g, o + i * 6 + 1, none⟩ = some (.int .u32 (y.seq : Int))) from fun W9 N m' hx hN hb hc hok hne => varStored HS.out hx hN hb hc hok hne)
                  refine wp_region_mask (fun w' => w'.cell? ⟨g, o + i * 6, none⟩ = some (.int .i64 y.frm) ∧ w'.cell? ⟨g, o + i * 6 + 1, none⟩ = some (.int .u32 (y.seq : Int))) 17 7 [true, true, true, true, true, true, true, true, true, true, true, false, false, false, false, false, false, false] #[true, true, true, true, true, true, true, true, true, true, true, false, false, false, false, false, false, false] (by kernel_rfl) (by kernel_rfl) (by kernel_rfl) (HS.out _ (br _)) ?_
                  have hbd : Below wr.heap.size wr wr.drew := (br wr).drew
                  generalize wr.drew = W5 at *
                  iterate 11
                    refine wpMask_take _ (Or.inl ⟨by rfl, fun w' hS => by (try dsimp only at hS); go_simp; try with_reducible rfl⟩) ?_
                    simp only [Act.put, List.setIfInBounds_toArray, List.set_cons_zero, List.set_cons_succ]
                  refine wpMask_skip (wpMask_skip (wpMask_skip (wpMask_skip (wpMask_skip (wpMask_skip (wpMask_skip (wpMask_nil ?_)))))))
                  refine wpAnyS_ready (rs := [11, 15]) (by kernel_rfl) (by simp) ?_
                  refine AllReadyS.cons rfl (fun K hK => ?_) (AllReadyS.cons rfl (fun K hK => ?_) AllReadyS.nil)
                  · -- the call first
                    go_simp
                    refine (HG.out _ (br W5)).mono ?_
                    rintro e w9 ⟨⟨m', rfl, hcm, hok9, hfr9⟩, hb9⟩
                    have hma : msgA m' = #[.int .i64 m'.frm, .int .u32 (m'.seq : Int), .int .u64 (m'.stamp : Int), .int .i64 m'.service, .slice m'.da m'.ds.length m'.dc, .string m'.pay] := rfl
                    rw [hma]
                    have hb59 := bt (br W5) hb9
                    refine hK.out _ _ (fun _ => HS.out _ hb59) ?_
                    clear hK K
                    simp only [Act.put, List.setIfInBounds_toArray, List.set_cons_zero, List.set_cons_succ]
                    refine wpAnyS_take (i := 12) _ rfl (by kernel_rfl) (Or.inl ⟨by rfl, fun w' hS => by (try dsimp only at hS); go_simp; try with_reducible rfl⟩) (HS.out _ hb59) ?_
                    simp only [Act.put, List.setIfInBounds_toArray, List.set_cons_zero, List.set_cons_succ]
                    refine wpAnyS_take (i := 13) _ rfl (by kernel_rfl) (Or.inl ⟨by rfl, fun w' hS => by (try dsimp only at hS); go_simp; try with_reducible rfl⟩) (HS.out _ hb59) ?_
                    simp only [Act.put, List.setIfInBounds_toArray, List.set_cons_zero, List.set_cons_succ]
                    refine wpAnyS_take (i := 14) _ rfl (by kernel_rfl) (Or.inl ⟨by rfl, fun w' hS => by (try dsimp only at hS); go_simp; try with_reducible rfl⟩) (HS.out _ hb59) ?_
                    simp only [Act.put, List.setIfInBounds_toArray, List.set_cons_zero, List.set_cons_succ]
                    refine wpAnyS_ready (rs := [15]) (by kernel_rfl) (by simp) ?_
                    refine AllReadyS.cons rfl (fun K hK => ?_) AllReadyS.nil
                    go_simp
                    refine hK.out _ _ (fun _ => HS.out _ (ba hb59 _)) ?_
                    clear hK K
                    simp only [Act.put, List.setIfInBounds_toArray, List.set_cons_zero, List.set_cons_succ]
                    have hxN := heap_alloc_new w9 (.cells #[.int .i64 0, .int .u32 0, .int .u64 0, .int .i64 0, .slice none 0 0, .string ⟨#[]⟩] 37)
                    have hbN := ba hb59 (.cells #[.int .i64 0, .int .u32 0, .int .u64 0, .int .i64 0, .slice none 0 0, .string ⟨#[]⟩] 37)
                    have hNN : W5.heap.size ≤ w9.heap.size := hb59.size
                    have hokN := (show MsgOk (w9.alloc (.cells #[.int .i64 0, .int .u32 0, .int .u64 0, .int .i64 0, .slice none 0 0, .string ⟨#[]⟩] 37)) m' ∧ ∀ ad, m'.da = some ad → 0 < m'.ds.length → ad.block ≠ w9.heap.size from ⟨hok9.below (ba (br w9) _), fun ad e hn hc => by obtain ⟨B, O, e2, hB, _⟩ := hok9.2.2.2.2 0 hn; rw [e] at e2; injection e2 with e2; rw [e2] at hc; simp only at hc; omega⟩)
                    generalize w9.alloc (.cells #[.int .i64 0, .int .u32 0, .int .u64 0, .int .i64 0, .slice none 0 0, .string ⟨#[]⟩] 37) = W9 at *
                    have hlast := HFIN.out W9 w9.heap.size m' hxN (by omega) hbN hcm hokN.1 hokN.2
                    have hS9 := HS.out _ hbN
                    have g0 := frozen_of_row _ _ 0 _ _ hxN
                    have g1 := frozen_of_row _ _ 1 _ _ hxN
                    have g2 := frozen_of_row _ _ 2 _ _ hxN
                    have g3 := frozen_of_row _ _ 3 _ _ hxN
                    have g4 := frozen_of_row _ _ 4 _ _ hxN
                    have g5 := frozen_of_row _ _ 5 _ _ hxN
                    have k0 : W9.cell? ⟨w9.heap.size, 0, none⟩ = some (.int .i64 0) := cell_of_row _ _ 0 _ _ _ hxN
                    have k1 : W9.cell? ⟨w9.heap.size, 1, none⟩ = some (.int .u32 0) := cell_of_row _ _ 1 _ _ _ hxN
                    have k2 : W9.cell? ⟨w9.heap.size, 2, none⟩ = some (.int .u64 0) := cell_of_row _ _ 2 _ _ _ hxN
                    have k3 : W9.cell? ⟨w9.heap.size, 3, none⟩ = some (.int .i64 0) := cell_of_row _ _ 3 _ _ _ hxN
                    have k4 : W9.cell? ⟨w9.heap.size, 4, none⟩ = some (.slice none 0 0) := cell_of_row _ _ 4 _ _ _ hxN
                    have k5 : W9.cell? ⟨w9.heap.size, 5, none⟩ = some (.string ⟨#[]⟩) := cell_of_row _ _ 5 _ _ _ hxN
                    have HL := Lib.hid hlast
                    clear hlast hxN hbN hokN hb59 hb9 hcm hok9 hfr9 hma
                    refine wpAnyS_ready (rs := [16]) (by kernel_rfl) (by simp) ?_
                    refine AllReadyS.cons rfl (fun K hK => ?_) AllReadyS.nil
                    go_simp
                    refine hK.out _ _ (fun _ => HL.out.2) ?_
                    clear hK K
                    simp only [Act.put, List.setIfInBounds_toArray, List.set_cons_zero, List.set_cons_succ]
                    refine wpAnyS_ready (rs := [17]) (by kernel_rfl) (by simp) ?_
                    refine AllReadyS.cons rfl (fun K hK => ?_) AllReadyS.nil
                    go_simp
                    refine hK.out _ _ (fun h => absurd h (by omega)) ?_
                    clear hK K
                    simp only [Act.put, List.setIfInBounds_toArray, List.set_cons_zero, List.set_cons_succ]
                    refine wpAnyS_done (by kernel_rfl) ?_ _
                    go_wp2_with fail
                    go_meet
                    exact ⟨rfl, _, m', rfl, HL.out.1⟩
                  · -- the variable first
                    go_simp
                    refine hK.out _ _ (fun _ => HS.out _ (ba (br W5) _)) ?_
                    clear hK K
                    simp only [Act.put, List.setIfInBounds_toArray, List.set_cons_zero, List.set_cons_succ]
                    have hbZ := ba (br W5) (.cells #[.int .i64 0, .int .u32 0, .int .u64 0, .int .i64 0, .slice none 0 0, .string ⟨#[]⟩] 37)
                    have hxZ := heap_alloc_new W5 (.cells #[.int .i64 0, .int .u32 0, .int .u64 0, .int .i64 0, .slice none 0 0, .string ⟨#[]⟩] 37)
                    have hzZ : (W5.alloc (.cells #[.int .i64 0, .int .u32 0, .int .u64 0, .int .i64 0, .slice none 0 0, .string ⟨#[]⟩] 37)).heap.size = W5.heap.size + 1 := by simp
                    generalize W5.alloc (.cells #[.int .i64 0, .int .u32 0, .int .u64 0, .int .i64 0, .slice none 0 0, .string ⟨#[]⟩] 37) = WZ at *
                    refine wpAnyS_ready (rs := [11]) (by kernel_rfl) (by simp) ?_
                    refine AllReadyS.cons rfl (fun K hK => ?_) AllReadyS.nil
                    go_simp
                    refine (HG.out _ hbZ).mono ?_
                    rintro e w9 ⟨⟨m', rfl, hcm, hok9, hfr9⟩, hb9⟩
                    have hma : msgA m' = #[.int .i64 m'.frm, .int .u32 (m'.seq : Int), .int .u64 (m'.stamp : Int), .int .i64 m'.service, .slice m'.da m'.ds.length m'.dc, .string m'.pay] := rfl
                    rw [hma]
                    have hb59 := bt hbZ hb9
                    refine hK.out _ _ (fun _ => HS.out _ hb59) ?_
                    clear hK K
                    simp only [Act.put, List.setIfInBounds_toArray, List.set_cons_zero, List.set_cons_succ]
                    refine wpAnyS_take (i := 12) _ rfl (by kernel_rfl) (Or.inl ⟨by rfl, fun w' hS => by (try dsimp only at hS); go_simp; try with_reducible rfl⟩) (HS.out _ hb59) ?_
                    simp only [Act.put, List.setIfInBounds_toArray, List.set_cons_zero, List.set_cons_succ]
                    refine wpAnyS_take (i := 13) _ rfl (by kernel_rfl) (Or.inl ⟨by rfl, fun w' hS => by (try dsimp only at hS); go_simp; try with_reducible rfl⟩) (HS.out _ hb59) ?_
                    simp only [Act.put, List.setIfInBounds_toArray, List.set_cons_zero, List.set_cons_succ]
                    refine wpAnyS_take (i := 14) _ rfl (by kernel_rfl) (Or.inl ⟨by rfl, fun w' hS => by (try dsimp only at hS); go_simp; try with_reducible rfl⟩) (HS.out _ hb59) ?_
                    simp only [Act.put, List.setIfInBounds_toArray, List.set_cons_zero, List.set_cons_succ]
                    have hxN := (hb9.block _ (Array.getElem?_eq_some_iff.1 hxZ).1).trans hxZ
                    have hbN := hb59
                    have hokN := (show MsgOk w9 m' ∧ ∀ ad, m'.da = some ad → 0 < m'.ds.length → ad.block ≠ W5.heap.size from ⟨hok9, fun ad e hn hc => by have := hfr9 ad e hn; omega⟩)
                    generalize w9 = W9 at *
                    have hlast := HFIN.out W9 W5.heap.size m' hxN (by omega) hbN hcm hokN.1 hokN.2
                    have hS9 := HS.out _ hbN
                    have g0 := frozen_of_row _ _ 0 _ _ hxN
                    have g1 := frozen_of_row _ _ 1 _ _ hxN
                    have g2 := frozen_of_row _ _ 2 _ _ hxN
                    have g3 := frozen_of_row _ _ 3 _ _ hxN
                    have g4 := frozen_of_row _ _ 4 _ _ hxN
                    have g5 := frozen_of_row _ _ 5 _ _ hxN
                    have k0 : W9.cell? ⟨W5.heap.size, 0, none⟩ = some (.int .i64 0) := cell_of_row _ _ 0 _ _ _ hxN
                    have k1 : W9.cell? ⟨W5.heap.size, 1, none⟩ = some (.int .u32 0) := cell_of_row _ _ 1 _ _ _ hxN
                    have k2 : W9.cell? ⟨W5.heap.size, 2, none⟩ = some (.int .u64 0) := cell_of_row _ _ 2 _ _ _ hxN
                    have k3 : W9.cell? ⟨W5.heap.size, 3, none⟩ = some (.int .i64 0) := cell_of_row _ _ 3 _ _ _ hxN
                    have k4 : W9.cell? ⟨W5.heap.size, 4, none⟩ = some (.slice none 0 0) := cell_of_row _ _ 4 _ _ _ hxN
                    have k5 : W9.cell? ⟨W5.heap.size, 5, none⟩ = some (.string ⟨#[]⟩) := cell_of_row _ _ 5 _ _ _ hxN
                    have HL := Lib.hid hlast
                    clear hlast hxN hbN hokN hb59 hb9 hcm hok9 hfr9 hma
                    refine wpAnyS_ready (rs := [16]) (by kernel_rfl) (by simp) ?_
                    refine AllReadyS.cons rfl (fun K hK => ?_) AllReadyS.nil
                    go_simp
                    refine hK.out _ _ (fun _ => HL.out.2) ?_
                    clear hK K
                    simp only [Act.put, List.setIfInBounds_toArray, List.set_cons_zero, List.set_cons_succ]
                    refine wpAnyS_ready (rs := [17]) (by kernel_rfl) (by simp) ?_
                    refine AllReadyS.cons rfl (fun K hK => ?_) AllReadyS.nil
                    go_simp
                    refine hK.out _ _ (fun h => absurd h (by omega)) ?_
                    clear hK K
                    simp only [Act.put, List.setIfInBounds_toArray, List.set_cons_zero, List.set_cons_succ]
                    refine wpAnyS_done (by kernel_rfl) ?_ _
                    go_wp2_with fail
                    go_meet
                    exact ⟨rfl, _, m', rfl, HL.out.1⟩
                case rest =>
                obtain ⟨rfl, N, m', rfl, hxN, hcm, hokN, hbN⟩ := hcut
                have hg := HY.out.2.2.2.2.2.2.2.1
                have hrow := HY.out.2.2.2.2.2.2.2.2
                have hkey := (hbN.block _ (Array.getElem?_eq_some_iff.1 HY.out.2.2.2.2.2.2.1).1).trans HY.out.2.2.2.2.2.2.1
                have c0 := Bel.cell (cell_of_row _ _ 0 _ _ _ hkey : wc.cell? ⟨w.heap.size, 0, none⟩ = some (.int .u64 a)) (Array.getElem?_eq_some_iff.1 hkey).1
                have c1 := Bel.cell (cell_of_row _ _ 1 _ _ _ hkey : wc.cell? ⟨w.heap.size, 1, none⟩ = some (.int .i64 b)) (Array.getElem?_eq_some_iff.1 hkey).1
                have R13 := Lib.hid (Bel.range (w := wc) (b := N) (o := 0) (cs := (msgA m').toList) (fun j u hu => (cell_of_row _ _ _ _ _ _ hxN).trans (by simpa using hu)) (Array.getElem?_eq_some_iff.1 hxN).1)
                have RY := Lib.hid (Bel.range (w := wc) (b := g) (o := o + i * 6) (cs := (msgA y).toList) (fun j u hu => (hbN.cell (p := ⟨g, o + i * 6 + j, none⟩) hg).trans (hrow j u hu)) (Nat.lt_of_lt_of_le hg hbN.size))
                have hoky : MsgOk wc y := by
                  have hmem : y ∈ L8 := by rw [HY.out.1, gm_get (by rw [← HN8.out]; exact HY.out.2.2.2.2.1)]; exact List.getElem_mem _
                  exact (H8.out.2.2.2.1 y hmem).1.below (bt HY.out.2.2.2.2.2.1 hbN)
                have HSa := Lib.hid (show ∀ X : Bel wc, Calls Try.prog 17 #[.agg (msgA m'), .agg (msgA y)] X.val fun e w' => e = .returned (.bool true) ∧ Below X.val.heap.size X.val w' from fun X => by
                  have := Same_any m' y X.val (hokN.below X.prop) (hoky.below X.prop)
                  rw [core_same, hcm, decide_eq_true rfl] at this
                  exact this)
                have HOf := Lib.hid (fun (W' : World) => rOf_any y W')
                have hah : keyAh a b y = true := (keyAh_core HY.out.2.1).trans HY.out.2.2.2.1
                have HLg := Lib.hid (fun (a1 a2 b1 b2 : Int) (W' : World) => rLess_any a1 a2 b1 b2 W')
                have eq1 : ltB a b y.stamp y.frm = true := by rw [← keyAh_ltB, hah]
                have HBc := Lib.hid (bt HY.out.2.2.2.2.2.1 hbN)
                clear hxN hcm hokN hkey hoky hah
                by_cases h0 : i = 0
                · have d1 : decide (0 < i) = false := by simp; omega
                  have d1' : decide ((0 : Int) < (i : Int)) = false := by simp; omega
                  clear hg hrow hbN h0
                  go_wp2_with fail
                  refine wp_region_bel (by kernel_rfl) (by kernel_rfl) ?_
                  iterate 3 (go_big_quiet_step ((fail)))
                  refine wpQuiet_load_want (by rfl) 37 (.tmp 13) rfl N 0 rfl (msgA m').toList _ R13.out Try.underlying37 rfl (by kernel_rfl) ?_
                  go_simp
                  iterate 3 (go_big_quiet_step ((fail)))
                  refine wpQuiet_load_want (by rfl) 37 (.tmp 114) rfl g (o + i * 6) rfl (msgA y).toList _ RY.out Try.underlying37 rfl (by kernel_rfl) ?_
                  go_simp
                  go_big_quiet_step ((go_at_call 17; exact bel_call (HSa.out _)))
                  iterate 7 (go_big_quiet_step ((fail)))
                  refine wpQuiet_load_want (by rfl) 37 (.tmp 123) rfl g (o + i * 6) rfl (msgA y).toList _ RY.out Try.underlying37 rfl (by kernel_rfl) ?_
                  go_simp
                  go_big_quiet_step ((go_at_call 29; exact bel_call (HOf.out _)))
                  go_big_quiet_step ((go_at_call 28; exact bel_call (HLg.out _ _ _ _ _)))
                  repeat (go_big_quiet_step ((fail)))
                  refine wpQuiet_nil ?_
                  intro x5
                  have hb5 := bt HBc.out x5.prop
                  generalize x5.val = w5 at *
                  go_wp2
                  exact ⟨⟨i + 1, HY.out.2.2.2.2.1, by go_num, hb5⟩, measI HY.out.2.2.2.2.1⟩
                · obtain ⟨j, hj⟩ : ∃ j : Nat, (i : Int) - 1 = (j : Int) := ⟨i - 1, by omega⟩
                  have d1 : decide (0 < i) = true := by simp; omega
                  have d1' : decide ((0 : Int) < (i : Int)) = true := by simp; omega
                  have hjL : j < L8.length := by have := HY.out.2.2.2.2.1; have := HN8.out; omega
                  have hij : (j : Int) < (n8 : Int) := by have := HN8.out; omega
                  obtain ⟨cp', g', o', e9, hg', hrow'⟩ := (H8.out.2.1.below (bt HY.out.2.2.2.2.2.1 hbN)).msg hjL
                  injection e9 with e9 e10 e11
                  injection e9 with e9
                  injection e9 with e12 e13
                  subst e12
                  subst e13
                  clear e10 e11
                  obtain ⟨yp, hyp⟩ : ∃ y, y = gm L8 j := ⟨_, rfl⟩
                  have hypL : L8[j] = yp := by rw [hyp, gm_get hjL]
                  rw [hypL] at hrow'
                  have RP := Lib.hid (Bel.range hrow' hg')
                  have HOp := Lib.hid (fun (W' : World) => rOf_any yp W')
                  have hlt : ltM y yp = false := by
                    have hsS : Srt S := by rw [H8.out.2.2.2.2.1]; exact sortM_srt _
                    have hiS : i < S.length := by have := HY.out.2.2.2.2.1; have := HN8.out; have := H8.out.2.2.2.2.2.1; omega
                    have hle := srt_gm hsS (i := j) (j := i) (by omega) hiS
                    have hcj : core (gm L8 j) = core (gm S j) := by
                      have h1 := congrArg (fun z => z[j]?) H8.out.2.2.1
                      simp only [List.getElem?_map] at h1
                      rw [List.getElem?_eq_getElem hjL, List.getElem?_eq_getElem (by omega)] at h1
                      simp only [Option.map_some, Option.some.injEq] at h1
                      rw [gm_get hjL, gm_get (by omega)]; exact h1
                    rw [ltM_not]
                    rw [← HY.out.2.2.1] at hle
                    have k1 : keyM y = keyM sx := by obtain ⟨p1, _, p3, _⟩ := core_iff.1 HY.out.2.1; unfold keyM; rw [p1, p3]
                    have k2 : keyM yp = keyM (gm S j) := by rw [hyp]; obtain ⟨p1, _, p3, _⟩ := core_iff.1 hcj; unfold keyM; rw [p1, p3]
                    rw [k1, k2]
                    exact hle
                  have eq2 : ltB y.stamp y.frm yp.stamp yp.frm = false := by rw [ltB_ltM, hlt]
                  clear hg hrow hbN hg' hrow' hyp hypL hlt hjL h0
                  go_wp2_with fail
                  refine wp_region_bel (by kernel_rfl) (by kernel_rfl) ?_
                  iterate 3 (go_big_quiet_step ((fail)))
                  refine wpQuiet_load_want (by rfl) 37 (.tmp 13) rfl N 0 rfl (msgA m').toList _ R13.out Try.underlying37 rfl (by kernel_rfl) ?_
                  go_simp
                  iterate 3 (go_big_quiet_step ((fail)))
                  refine wpQuiet_load_want (by rfl) 37 (.tmp 114) rfl g (o + i * 6) rfl (msgA y).toList _ RY.out Try.underlying37 rfl (by kernel_rfl) ?_
                  go_simp
                  go_big_quiet_step ((go_at_call 17; exact bel_call (HSa.out _)))
                  iterate 7 (go_big_quiet_step ((fail)))
                  refine wpQuiet_load_want (by rfl) 37 (.tmp 123) rfl g (o + i * 6) rfl (msgA y).toList _ RY.out Try.underlying37 rfl (by kernel_rfl) ?_
                  go_simp
                  go_big_quiet_step ((go_at_call 29; exact bel_call (HOf.out _)))
                  go_big_quiet_step ((go_at_call 28; exact bel_call (HLg.out _ _ _ _ _)))
                  repeat (go_big_quiet_step ((fail)))
                  refine wpQuiet_load_want (by rfl) 37 (.tmp 135) rfl g (o + i * 6) rfl (msgA y).toList _ RY.out Try.underlying37 rfl (by kernel_rfl) ?_
                  go_simp
                  go_big_quiet_step ((go_at_call 29; exact bel_call (HOf.out _)))
                  repeat (go_big_quiet_step ((fail)))
                  refine wpQuiet_load_want (by rfl) 37 (.tmp 141) rfl g (o + j * 6) rfl (msgA yp).toList _ RP.out Try.underlying37 rfl (by kernel_rfl) ?_
                  go_simp
                  go_big_quiet_step ((go_at_call 29; exact bel_call (HOp.out _)))
                  go_big_quiet_step ((go_at_call 28; exact bel_call (HLg.out _ _ _ _ _)))
                  repeat (go_big_quiet_step ((fail)))
                  refine wpQuiet_nil ?_
                  intro x5
                  have hb5 := bt HBc.out x5.prop
                  generalize x5.val = w5 at *
                  go_wp2
                  exact ⟨⟨i + 1, HY.out.2.2.2.2.1, by go_num, hb5⟩, measI HY.out.2.2.2.2.1⟩
              · have hbool3 : decide ((i : Int) < (n8 : Int)) = false := by simpa using hi2
                have hbool3' : decide (i < n8) = false := by simpa using hi2
                have HE := Lib.hid (bt HA.out.1 (bt H8.out.1.bel hB))
                have d1 : ((n8 : Int) == (n8 : Int)) = true := by simp
                clear hB
                go_wp2
                go_ret
                exact ⟨rfl, HE.out⟩
end Go.Proofs.Ytnjcebkdkklidaa
