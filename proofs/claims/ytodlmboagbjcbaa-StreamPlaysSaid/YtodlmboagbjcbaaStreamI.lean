/-
  The law StreamPlays.
  Conditions: none.
-/
import Derived.Test.YtodlmboagbjcbaaStreamH
import Derived.Test.YtodlmboagbjcbaaStreamV
namespace Go.Proofs.Ytodlmboagbjcbaa
set_option linter.unusedVariables false
set_option linter.unusedSimpArgs false
open Go.RowKit IM
set_option maxRecDepth 100000 in
set_option maxHeartbeats 2000000 in
theorem refNewS_any (size : Int) (w : World) : Calls Try.prog 16 #[.int .i64 size] w fun e w' => e = .returned (.agg #[.int .i64 (sizeZ size), .int .u32 0, .slice none 0 0]) ∧ Below w.heap.size w w' := by
  have hb := ba (br w) (.cells #[.int .i64 (sizeZ size), .int .u32 0, .slice none 0 0] 29)
  by_cases h1 : size < 1
  · have e : sizeZ size = 1 := by unfold sizeZ; omega
    rw [e] at hb ⊢
    have d1 : decide (size < 1) = true := by simpa using h1
    go_enter Try.func16, Try.ntmps16
    go_wp2
    refine bodyPost_ret (v := .agg #[.int .i64 1, .int .u32 0, .slice none 0 0]) (by simp [results, Try.results16, go_sem]) rfl ⟨rfl, hb⟩
  · have d1 : decide (size < 1) = false := by simpa using h1
    by_cases h2 : 64 < size
    · have e : sizeZ size = 64 := by unfold sizeZ; omega
      rw [e] at hb ⊢
      have d2 : decide (64 < size) = true := by simpa using h2
      go_enter Try.func16, Try.ntmps16
      go_wp2
      refine bodyPost_ret (v := .agg #[.int .i64 64, .int .u32 0, .slice none 0 0]) (by simp [results, Try.results16, go_sem]) rfl ⟨rfl, hb⟩
    · have e : sizeZ size = size := by unfold sizeZ; omega
      rw [e] at hb ⊢
      have d2 : decide (64 < size) = false := by simpa using h2
      go_enter Try.func16, Try.ntmps16
      go_wp2
      refine bodyPost_ret (v := .agg #[.int .i64 size, .int .u32 0, .slice none 0 0]) (by simp [results, Try.results16, go_sem]) rfl ⟨rfl, hb⟩
set_option maxRecDepth 100000 in
set_option maxHeartbeats 2000000 in
theorem refLacksS_any (z : Int) (c u : Nat) (v : Value) (w : World) (hc : c ≤ 1000000) (hu : u < 4294967296) : Calls Try.prog 20 #[.agg #[.int .i64 z, .int .u32 (c : Int), v], .int .u32 (u : Int)] w fun e w' => e = .returned (.tuple #[.int .u32 (if u ≤ c then 0 else (c : Int) + 1), .bool (decide (c < u))]) ∧ Below w.heap.size w w' := by
  have hb := ba (br w) (.cells #[.int .i64 z, .int .u32 (c : Int), v] 29)
  by_cases h : c < u
  · have d1 : decide ((c : Int) < (u : Int)) = true := by simpa using h
    rw [if_neg (by omega), decide_eq_true h]
    go_enter Try.func20, Try.ntmps20
    go_wp2
    go_ret2
    exact ⟨rfl, hb⟩
  · have d1 : decide ((c : Int) < (u : Int)) = false := by simpa using h
    rw [if_pos (by omega), decide_eq_false h]
    go_enter Try.func20, Try.ntmps20
    go_wp2
    go_ret2
    exact ⟨rfl, hb⟩
theorem takeS_sum (z : Int) (c : Nat) (H : Hel) (m : Msg) (hk : Keys H) : (takeS z c H m).1 ≤ c + H.length + 1 := by
  unfold takeS
  by_cases h : codeS z c H m = 0
  · rw [if_pos h]
    have hh := (codeS_zero h).2.1
    have := (drainF_inv (H.length + 1) c (H ++ [(m.seq, m)]) [] (hk.add hh m)).2.1
    simp at this
    omega
  · rw [if_neg h]
    show c ≤ _
    omega
theorem sp_step (z : Int) (l : List Msg) (k : Nat) (hk : k < l.length) (hl : l.length ≤ 300) : Keys (stO z l k).2.1 ∧ KeyOk (stO z l k).2.1 ∧ (stO z l k).1 + (stO z l k).2.1.length ≤ 300 ∧ (stO z l (k + 1)).1 = (takeS z (stO z l k).1 (stO z l k).2.1 l[k]).1 ∧ (stO z l (k + 1)).2.1 = (takeS z (stO z l k).1 (stO z l k).2.1 l[k]).2.1 ∧ ∀ m ∈ (takeS z (stO z l k).1 (stO z l k).2.1 l[k]).2.2, m ∈ l := by
  have h1 := stO_inv z l k (by omega)
  have h2 := stO_inv z l (k + 1) (by omega)
  have hs := stO_sub z l (k + 1) (by omega)
  have hn := stO_len z l hl k (by omega)
  have e := stO_succ z l k hk
  refine ⟨h1.keys, fun x hx => (h1.held x hx).1.symm, by have := h1.cnt; omega, by rw [e]; rfl, by rw [e]; rfl, fun m hm => hs m (h2.sub m ?_)⟩
  rw [e]
  exact List.mem_append.2 (.inr hm)
theorem RowsAt.msgs {w : World} {v : Value} {J : List Msg} (h : RowsAt w v J) (hJ : ∀ m ∈ J, MsgOk w m) : MsgsAt w v J := by
  obtain ⟨ad, cap, rfl, h1, h2, hr⟩ := id h
  refine ⟨ad, cap, rfl, by omega, fun i hi => ?_⟩
  obtain ⟨cap', g, o, e, hg, hrow⟩ := h.msg hi
  injection e with e
  exact ⟨g, o, e, hg, hrow, hJ _ (List.getElem_mem hi)⟩
theorem RowsAt.keep2 {Z : Nat → Prop} {w w' : World} {v : Value} {J : List Msg} (h : RowsAt w v J) (hk : Kept Z w w') (hs : ∀ p m c, v = .slice (some p) m c → ¬ Z p.block) : RowsAt w' v J := by
  obtain ⟨ad, cap, rfl, h1, h2, hr⟩ := h
  refine ⟨ad, cap, rfl, h1, h2, hr.1, fun hn => ?_⟩
  obtain ⟨a, rfl, hb, hc⟩ := hr.2 hn
  refine ⟨a, rfl, Nat.lt_of_lt_of_le hb hk.size, fun j u hu => ?_⟩
  have hbl : (a.add j).block = a.block := by unfold Addr.add; split <;> rfl
  exact (hk.cell (p := a.add j) (by rw [hbl]; exact hb) (by rw [hbl]; exact hs a _ _ rfl)).trans (hc j u hu)
set_option maxRecDepth 100000 in
set_option maxHeartbeats 4000000 in
theorem law_streamPlays (size : Int) (v : Value) (l : List Msg) (u : Nat) (w : World) (h : MsgsAt w v l) (hu : u < 4294967296) :
    Calls Try.prog 3 #[.int .i64 size, v, .int .u32 (u : Int)] w fun e w' => e = .returned (.bool true) ∧ Below w.heap.size w w' := by
  have HF := Lib.hid (fun (W : World) (hW : MsgsAt W v l) => Few_any v l W hW)
  have HA := Lib.hid h
  obtain ⟨ad, cap, rfl, hl, hc⟩ := h
  have HC := Lib.hid hc
  clear hc
  go_enter Try.func3, Try.ntmps3
  go_wp2_with fail
  refine (awake10_any _).mono ?_
  rintro e w1 ⟨rfl, hb1⟩
  go_wp2_with fail
  refine (HF.out _ (HA.out.below hb1)).mono ?_
  rintro e w2 ⟨⟨b, rfl, hb⟩, hb2'⟩
  have hb2 := hb1.trans (hb2'.mono hb1.size)
  clear hb2'
  cases b
  · go_wp2
    go_ret
    exact ⟨rfl, hb2⟩
  have hlen := (hb rfl).1
  clear hb
  go_wp2_with fail
  refine (sNew_any size _).mono ?_
  rintro e w3 ⟨D, M, rfl, h3, hb3', hD, hM⟩
  have hDw : w.heap.size ≤ D := Nat.le_trans hb2.size hD
  have hMw : w.heap.size ≤ M := Nat.le_trans hb2.size hM
  have hb3 := hb2.trans (hb3'.mono hb2.size)
  clear hb3' hD hM hb1 hb2
  go_wp2_with fail
  refine (refNewS_any size _).mono ?_
  rintro e w4 ⟨rfl, hb4⟩
  go_wp2
  have hz := sizeZ_in size
  generalize sizeZ size = z at *
  have hS : ∀ k, k < w.heap.size → ¬ Two D M k := by unfold Two; intro k hk; omega
  have hD3 := h3.lt
  have h30 : StrAt w3 D M z (stO z l 0).1 (stO z l 0).2.1 := h3
  have h40 := h30.below hb4
  have hb44 := hb3.trans (hb4.mono hb3.size)
  have hl4 := hb4.size
  have hx4 := heap_alloc_new w4 (.cells #[.int .i64 z, .int .u32 0, .slice none 0 0] 29)
  have hb5 := ba hb44 (.cells #[.int .i64 z, .int .u32 0, .slice none 0 0] 29)
  have h50 := h40.below (ba (br w4) (.cells #[.int .i64 z, .int .u32 0, .slice none 0 0] 29))
  obtain ⟨E, hE⟩ : ∃ E, E = w4.heap.size := ⟨_, rfl⟩
  rw [← hE] at hx4 ⊢
  have hDE : D < E := by omega
  have hME : M < E := by omega
  have hEw : w.heap.size ≤ E := by rw [hE]; exact hb44.size
  generalize w4.alloc (.cells #[.int .i64 z, .int .u32 0, .slice none 0 0] 29) = w5 at *
  have HS := Lib.hid (And.intro hS (And.intro hDw (And.intro hMw (And.intro hDE (And.intro hME hEw)))))
  have HZ := Lib.hid hz
  have HL := Lib.hid hlen
  have HST := Lib.hid (fun k hk hk2 => sp_step z l k hk hk2)
  clear hS hD3 h3 h30 h40 hb44 hl4 hb3 hb4 hE hz hlen hDw hMw hDE hME hEw
  go_loopw [9] (fun i wr => ∃ (k : Nat) (v : Value), k ≤ l.length ∧ i = .int .i64 (k : Int) ∧ StrAt wr D M z (stO z l k).1 (stO z l k).2.1 ∧ wr.heap[E]? = some (.cells #[.int .i64 z, .int .u32 ((stO z l k).1 : Int), v] 29) ∧ RowsAt wr v (HM (stO z l k).2.1) ∧ (∀ p m c, v = .slice (some p) m c → p.block ≠ D ∧ p.block ≠ M ∧ p.block ≠ E ∧ p.block < wr.heap.size) ∧ Below w.heap.size w wr) (fun i _ => l.length - (intOf i).toNat)
  case atStart => exact ⟨0, _, by omega, rfl, h50, hx4, RowsAt.nil _, (fun p m c e => by cases e), hb5⟩
  case round =>
    clear h50 hx4 hb5
    obtain ⟨k, v, hk, rfl, hAr, hEr, hLr, hfr, hbr⟩ := hrel
    by_cases hlt : k < l.length
    · have hbool : decide ((k : Int) < (l.length : Int)) = true := by simpa using hlt
      have hki : (k : Int) < (l.length : Int) := by omega
      obtain ⟨B, OO, rfl, hB, hr0, hmo⟩ := HC.out k hlt
      obtain ⟨s1, s2, s3, s4, s5, s6⟩ := HST.out k hlt HL.out
      have hMl : ∀ m ∈ l, MsgOk w m := by
        intro m hm
        obtain ⟨q, hq, rfl⟩ := List.mem_iff_getElem.1 hm
        obtain ⟨_, _, _, _, _, h⟩ := HC.out q hq
        exact h
      have hx : l[k] ∈ l := List.getElem_mem hlt
      have hxq := hmo.2.2.1
      generalize hst : stO z l k = p at *
      obtain ⟨c, H, F, A⟩ := p
      simp only at *
      generalize hxx : l[k] = x at *
      obtain ⟨c3, H3, O3, hT3⟩ : ∃ c3 H3 O3, takeS z c H x = (c3, H3, O3) := ⟨_, _, _, rfl⟩
      rw [hT3] at s4 s5 s6
      simp only at s4 s5 s6
      have hcd2 : codeS z c H x = codeS z c H x := rfl
      have HT := Lib.hid (show ∀ W, StrAt W D M z c H → _ from fun W hW => sTake_any D M c z H x W hW s1 (by omega) HZ.out (by omega) hxq)
      have HR := Lib.hid (show ∀ W, Below w.heap.size w W → W.rangeAt B (OO + k * 6) (msgA x).toList from fun W hb j u hu => (hb.cell (p := ⟨B, OO + k * 6 + j, none⟩) hB).trans (hr0 j u hu))
      have HG := Lib.hid (And.intro s1 (And.intro s2 (And.intro s4 (And.intro s5 (fun m hm => hMl m (s6 m hm))))))
      have HB := Lib.hid (show H.length ≤ 900 ∧ c ≤ 1000000 ∧ (1 ≤ z ∧ z ≤ 64) ∧ x.seq < 4294967296 from ⟨by omega, by omega, HZ.out, hxq⟩)
      have HT3 := Lib.hid hT3
      have HW := Lib.hid (And.intro hAr (And.intro hEr (And.intro hLr (And.intro hfr hbr))))
      obtain ⟨kd, hkd⟩ : ∃ kd, kd = codeS z c H x := ⟨_, rfl⟩
      have HKD := Lib.hid hkd
      have hs3 : c3 ≤ 1000000 := by
        have h1 := HST.out
        have := s3
        have hsum := takeS_sum z c H x s1
        rw [hT3] at hsum
        simp only at hsum
        omega
      have HC3 := Lib.hid hs3
      clear s1 s2 s3 s4 s5 s6 hMl hx hxq hst hxx hT3 hcd2 hr0 hmo hAr hEr hLr hfr hbr hkd hs3
      have HR1 := Lib.hid (HR.out _ HW.out.2.2.2.2)
      go_wp2_with (refine wpList_load_mid rfl 37 (.tmp 38) rfl B (OO + k * 6) rfl (msgA x).toList _ HR1.out Try.underlying37 rfl (by kernel_rfl) ?_)
      refine (HT.out _ HW.out.1).mono ?_
      unfold STakePost
      rw [HT3.out, ← HKD.out]
      rintro e w6 ⟨vO, rfl, ho6, hA6, hk6⟩
      simp only at ho6 hA6
      have hE6 : w6.heap[E]? = some (.cells #[.int .i64 z, .int .u32 (c : Int), v] 29) := hk6.keep HW.out.2.1 (by have := HS.out; unfold Two; omega)
      have hL6 : RowsAt w6 v (HM H) := HW.out.2.2.1.keep2 hk6 (fun p m c e => by have := HW.out.2.2.2.1 p m c e; unfold Two; omega)
      have hb6 : Below w.heap.size w w6 := hk6.out HW.out.2.2.2.2 HW.out.2.2.2.2.size HS.out.1
      have hR6 := HR.out _ hb6
      obtain ⟨adO, capO, rfl⟩ := own_slice ho6
      have H6 := Lib.hid (And.intro hA6 (And.intro hk6 (And.intro hb6 (And.intro hL6 ho6))))
      clear hA6 hk6 hb6 ho6
      go_wp2_with fail
      go_cut [12, 13, 14] (fun s12 s13 s14 wx => ∃ X v2 o, s12 = .pointer (some ⟨X, 0, none⟩) ∧ s13 = o ∧ s14 = .int .i64 kd ∧ wx.heap[X]? = some (.cells #[.int .i64 z, .int .u32 (c3 : Int), v2] 29) ∧ w6.heap.size ≤ X ∧ RowsAt wx v2 (HM H3) ∧ RowsAt wx o O3 ∧ (v2 = v ∨ ∀ p m c, v2 = .slice (some p) m c → w6.heap.size ≤ p.block ∧ p.block ≠ X ∧ p.block < wx.heap.size) ∧ (∀ p m c, o = .slice (some p) m c → w6.heap.size ≤ p.block ∧ p.block ≠ X ∧ p.block < wx.heap.size) ∧ Below w6.heap.size w6 wx)
      case first =>
        have HS6 := Lib.hid (show ∀ w', Below w6.drew.heap.size w6.drew w' → w'.rangeAt E 0 [.int .i64 z, .int .u32 (c : Int), v] ∧ w'.rangeAt B (OO + k * 6) (msgA x).toList from fun w' hb => by
          have e0 := (hb.block _ (Array.getElem?_eq_some_iff.1 hE6).1).trans hE6
          exact ⟨fun j u hu => (cell_of_row _ _ _ _ _ _ e0).trans (by simpa using hu), fun j u hu => ((show Below w6.heap.size w6 w' from ⟨hb.os, hb.tape, hb.output, hb.size, hb.block⟩).cell (p := ⟨B, OO + k * 6 + j, none⟩) (Nat.lt_of_lt_of_le hB H6.out.2.2.1.size)).trans (hR6 j u hu)⟩)
        have HM6 := Lib.hid (show ∀ w', Below w6.drew.heap.size w6.drew w' → RowsAt w' v (HM H) from fun w' hb => hL6.below ⟨hb.os, hb.tape, hb.output, hb.size, hb.block⟩)
        have HF10 := Lib.hid (show ∀ (X : Nat) (wx : World) (v2 o : Value), wx.heap[X]? = some (.cells #[.int .i64 0, .int .u32 0, .slice none 0 0] 29) → w6.drew.heap.size ≤ X → RowsAt wx v2 (HM H3) → RowsAt wx o O3 → (v2 = v ∨ ∀ p m c, v2 = .slice (some p) m c → w6.drew.heap.size ≤ p.block ∧ p.block ≠ X ∧ p.block < wx.heap.size) → (∀ p m c, o = .slice (some p) m c → w6.drew.heap.size ≤ p.block ∧ p.block ≠ X ∧ p.block < wx.heap.size) → Below w6.drew.heap.size w6.drew wx →
            ((((wx.setCell ⟨X, 0, none⟩ (.int .i64 z)).setCell ⟨X, 1, none⟩ (.int .u32 (c3 : Int))).setCell ⟨X, 2, none⟩ v2).heap[X]? = some (.cells #[.int .i64 z, .int .u32 (c3 : Int), v2] 29) ∧ w6.heap.size ≤ X ∧ RowsAt (((wx.setCell ⟨X, 0, none⟩ (.int .i64 z)).setCell ⟨X, 1, none⟩ (.int .u32 (c3 : Int))).setCell ⟨X, 2, none⟩ v2) v2 (HM H3) ∧ RowsAt (((wx.setCell ⟨X, 0, none⟩ (.int .i64 z)).setCell ⟨X, 1, none⟩ (.int .u32 (c3 : Int))).setCell ⟨X, 2, none⟩ v2) o O3 ∧ (v2 = v ∨ ∀ p m c, v2 = .slice (some p) m c → w6.heap.size ≤ p.block ∧ p.block ≠ X ∧ p.block < (((wx.setCell ⟨X, 0, none⟩ (.int .i64 z)).setCell ⟨X, 1, none⟩ (.int .u32 (c3 : Int))).setCell ⟨X, 2, none⟩ v2).heap.size) ∧ (∀ p m c, o = .slice (some p) m c → w6.heap.size ≤ p.block ∧ p.block ≠ X ∧ p.block < (((wx.setCell ⟨X, 0, none⟩ (.int .i64 z)).setCell ⟨X, 1, none⟩ (.int .u32 (c3 : Int))).setCell ⟨X, 2, none⟩ v2).heap.size) ∧ Below w6.heap.size w6 (((wx.setCell ⟨X, 0, none⟩ (.int .i64 z)).setCell ⟨X, 1, none⟩ (.int .u32 (c3 : Int))).setCell ⟨X, 2, none⟩ v2)) ∧ Below w6.drew.heap.size w6.drew (((wx.setCell ⟨X, 0, none⟩ (.int .i64 z)).setCell ⟨X, 1, none⟩ (.int .u32 (c3 : Int))).setCell ⟨X, 2, none⟩ v2) from fun X wx v2 o hX hXl hL hO hv ho hb => by
          have kk := setCell_block (setCell_block (setCell_block hX 0 (.int .i64 z)) 1 (.int .u32 (c3 : Int))) 2 v2
          have hk : Kept (fun q => q = X) wx (((wx.setCell ⟨X, 0, none⟩ (.int .i64 z)).setCell ⟨X, 1, none⟩ (.int .u32 (c3 : Int))).setCell ⟨X, 2, none⟩ v2) :=
            (((show Kept (fun q => q = X) wx wx from Kept.of_below (br wx)).setCell (p := ⟨X, 0, none⟩) rfl _).setCell (p := ⟨X, 1, none⟩) rfl _).setCell (p := ⟨X, 2, none⟩) rfl _
          have hsz : (((wx.setCell ⟨X, 0, none⟩ (.int .i64 z)).setCell ⟨X, 1, none⟩ (.int .u32 (c3 : Int))).setCell ⟨X, 2, none⟩ v2).heap.size = wx.heap.size := by simp [World.setCell]
          have hbb := hk.out hb hb.size (by intro q hq; omega)
          refine ⟨⟨kk, hXl, hL.keep2 hk ?_, hO.keep2 hk (fun p m c e he => (ho p m c e).2.1 he), by rw [hsz]; exact hv, by rw [hsz]; exact ho, ⟨hbb.os, hbb.tape, hbb.output, hbb.size, hbb.block⟩⟩, hbb⟩
          intro p m c e he
          rcases hv with rfl | hv
          · have h1 := (HW.out.2.2.2.1 p m c e).2.2.2
            have h3 := H6.out.2.1.size
            have h4 : w6.heap.size ≤ X := hXl
            omega
          · exact (hv p m c e).2.1 he)
        refine wp_region_mask (fun w' => w'.rangeAt E 0 [.int .i64 z, .int .u32 (c : Int), v] ∧ w'.rangeAt B (OO + k * 6) (msgA x).toList) 13 9 [true, true, true, true, true, false, false, false, false, false, false, false, false, false] #[true, true, true, true, true, false, false, false, false, false, false, false, false, false] (by kernel_rfl) (by kernel_rfl) (by kernel_rfl) (HS6.out _ (br _)) ?_
        generalize w6.drew = W6 at *
        refine wpMask_take _ (yieldsIf_load_mid (by rfl) 29 (.tmp 8) rfl E 0 rfl [.int .i64 z, .int .u32 (c : Int), v] _ (fun w' hS => hS.1) Try.underlying29 rfl (by kernel_rfl)) ?_
        simp only [Act.put, List.setIfInBounds_toArray, List.set_cons_zero, List.set_cons_succ]
        refine wpMask_take _ (Or.inl ⟨by rfl, fun w' hS => by (try dsimp only at hS); go_simp; try with_reducible rfl⟩) ?_
        simp only [Act.put, List.setIfInBounds_toArray, List.set_cons_zero, List.set_cons_succ]
        refine wpMask_take _ (Or.inl ⟨by rfl, fun w' hS => by (try dsimp only at hS); go_simp; try with_reducible rfl⟩) ?_
        simp only [Act.put, List.setIfInBounds_toArray, List.set_cons_zero, List.set_cons_succ]
        refine wpMask_take _ (Or.inl ⟨by rfl, fun w' hS => by (try dsimp only at hS); go_simp; try with_reducible rfl⟩) ?_
        simp only [Act.put, List.setIfInBounds_toArray, List.set_cons_zero, List.set_cons_succ]
        refine wpMask_take _ (yieldsIf_load_mid (by rfl) 37 (.tmp 47) rfl B (OO + k * 6) rfl (msgA x).toList _ (fun w' hS => hS.2) Try.underlying37 rfl (by kernel_rfl)) ?_
        simp only [Act.put, List.setIfInBounds_toArray, List.set_cons_zero, List.set_cons_succ]
        refine wpMask_skip (wpMask_skip (wpMask_skip (wpMask_skip (wpMask_skip (wpMask_skip (wpMask_skip (wpMask_skip (wpMask_skip (wpMask_nil ?_)))))))))
        have b6 := br W6
        refine wpAnyS_ready (rs := [5, 10]) (by kernel_rfl) (by simp) ?_
        refine AllReadyS.cons rfl (fun K hK => ?_) ?_
        · -- the document's Take first
          go_simp
          refine (refTakeS_any z c v H x _ (HM6.out _ b6) HG.out.2.1 HG.out.1 HB.out.1 HB.out.2.1 HB.out.2.2.1 HB.out.2.2.2).mono ?_
          rintro e w8 ⟨v2, o, hv2, rfl, hL2, hO2, ho2, hr2⟩
          rw [HT3.out] at hL2 hO2
          simp only [HT3.out]
          have hbw8 := bt b6 hr2
          go_wp2_with fail
          refine hK.out _ _ (fun _ => HS6.out _ hbw8) ?_
          clear hK K
          simp only [Act.put, List.setIfInBounds_toArray, List.set_cons_zero, List.set_cons_succ]
          refine wpAnyS_take (i := 6) _ rfl (by kernel_rfl) (Or.inl ⟨by rfl, fun w' hS => by (try dsimp only at hS); go_simp; try with_reducible rfl⟩) (HS6.out _ hbw8) ?_
          simp only [Act.put, List.setIfInBounds_toArray, List.set_cons_zero, List.set_cons_succ]
          refine wpAnyS_take (i := 7) _ rfl (by kernel_rfl) (Or.inl ⟨by rfl, fun w' hS => by (try dsimp only at hS); go_simp; try with_reducible rfl⟩) (HS6.out _ hbw8) ?_
          simp only [Act.put, List.setIfInBounds_toArray, List.set_cons_zero, List.set_cons_succ]
          refine wpAnyS_take (i := 8) _ rfl (by kernel_rfl) (Or.inl ⟨by rfl, fun w' hS => by (try dsimp only at hS); go_simp; try with_reducible rfl⟩) (HS6.out _ hbw8) ?_
          simp only [Act.put, List.setIfInBounds_toArray, List.set_cons_zero, List.set_cons_succ]
          refine wpAnyS_take (i := 9) _ rfl (by kernel_rfl) (Or.inl ⟨by rfl, fun w' hS => by (try dsimp only at hS); go_simp; try with_reducible rfl⟩) (HS6.out _ hbw8) ?_
          simp only [Act.put, List.setIfInBounds_toArray, List.set_cons_zero, List.set_cons_succ]
          refine wpAnyS_ready (rs := [10]) (by kernel_rfl) (by simp) ?_
          refine AllReadyS.cons rfl (fun K hK => ?_) AllReadyS.nil
          go_simp
          refine hK.out _ _ (fun _ => HS6.out _ (ba hbw8 _)) ?_
          clear hK K
          simp only [Act.put, List.setIfInBounds_toArray, List.set_cons_zero, List.set_cons_succ]
          have hX := heap_alloc_new w8 (.cells #[.int .i64 0, .int .u32 0, .slice none 0 0] 29)
          have hXl := hbw8.size
          have hbF := ba hbw8 (.cells #[.int .i64 0, .int .u32 0, .slice none 0 0] 29)
          have hv3 := hv2.imp id (fun h (p : Addr) m c e => (show W6.heap.size ≤ p.block ∧ p.block ≠ w8.heap.size ∧ p.block < (w8.alloc (.cells #[.int .i64 0, .int .u32 0, .slice none 0 0] 29)).heap.size from by have := h p m c e; have hz : (w8.alloc (.cells #[.int .i64 0, .int .u32 0, .slice none 0 0] 29)).heap.size = w8.heap.size + 1 := (by simp); omega))
          have ho3 := fun (p : Addr) m c e => (show W6.heap.size ≤ p.block ∧ p.block ≠ w8.heap.size ∧ p.block < (w8.alloc (.cells #[.int .i64 0, .int .u32 0, .slice none 0 0] 29)).heap.size from by have := ho2 p m c e; have hz : (w8.alloc (.cells #[.int .i64 0, .int .u32 0, .slice none 0 0] 29)).heap.size = w8.heap.size + 1 := (by simp); omega)
          replace hL2 := hL2.below (ba (br w8) (.cells #[.int .i64 0, .int .u32 0, .slice none 0 0] 29))
          replace hO2 := hO2.below (ba (br w8) (.cells #[.int .i64 0, .int .u32 0, .slice none 0 0] 29))
          generalize w8.alloc (.cells #[.int .i64 0, .int .u32 0, .slice none 0 0] 29) = w9 at *
          have c0 := cell_of_row _ _ 0 _ _ _ hX
          have c1 := cell_of_row _ _ 1 _ _ _ hX
          have c2 := cell_of_row _ _ 2 _ _ _ hX
          have f0 := frozen_of_row _ _ 0 _ _ hX
          have f1 := frozen_of_row _ _ 1 _ _ hX
          have f2 := frozen_of_row _ _ 2 _ _ hX
          obtain ⟨ad2, cap2, rfl⟩ : ∃ ad2 cap2, v2 = .slice ad2 (HM H3).length cap2 := by
            obtain ⟨q1, q2, e, _⟩ := hL2
            exact ⟨q1, q2, e⟩
          have hE := HF10.out _ _ _ _ hX hXl hL2 hO2 hv3 ho3 hbF
          refine wpAnyS_ready (rs := [11]) (by kernel_rfl) (by simp) ?_
          refine AllReadyS.cons rfl (fun K hK => ?_) AllReadyS.nil
          go_simp
          refine hK.out _ _ (fun _ => HS6.out _ hE.2) ?_
          clear hK K
          simp only [Act.put, List.setIfInBounds_toArray, List.set_cons_zero, List.set_cons_succ]
          refine wpAnyS_ready (rs := [12]) (by kernel_rfl) (by simp) ?_
          refine AllReadyS.cons rfl (fun K hK => ?_) AllReadyS.nil
          go_simp
          refine hK.out _ _ (fun _ => HS6.out _ hE.2) ?_
          clear hK K
          simp only [Act.put, List.setIfInBounds_toArray, List.set_cons_zero, List.set_cons_succ]
          refine wpAnyS_ready (rs := [13]) (by kernel_rfl) (by simp) ?_
          refine AllReadyS.cons rfl (fun K hK => ?_) AllReadyS.nil
          go_simp
          refine hK.out _ _ (fun h => absurd h (by omega)) ?_
          clear hK K
          simp only [Act.put, List.setIfInBounds_toArray, List.set_cons_zero, List.set_cons_succ]
          refine wpAnyS_done (by kernel_rfl) ?_ _
          go_wp2
          go_meet
          exact ⟨_, _, _, rfl, rfl, congrArg (Value.int IntKind.i64) HKD.out.symm, hE.1⟩
        refine AllReadyS.cons rfl (fun K hK => ?_) ?_
        · -- the variable first
          go_simp
          refine hK.out _ _ (fun _ => HS6.out _ (ba b6 _)) ?_
          clear hK K
          simp only [Act.put, List.setIfInBounds_toArray, List.set_cons_zero, List.set_cons_succ]
          have hX0 := heap_alloc_new W6 (.cells #[.int .i64 0, .int .u32 0, .slice none 0 0] 29)
          have hb7 := ba b6 (.cells #[.int .i64 0, .int .u32 0, .slice none 0 0] 29)
          refine wpAnyS_ready (rs := [5]) (by kernel_rfl) (by simp) ?_
          refine AllReadyS.cons rfl (fun K hK => ?_) AllReadyS.nil
          go_simp
          refine (refTakeS_any z c v H x _ (HM6.out _ hb7) HG.out.2.1 HG.out.1 HB.out.1 HB.out.2.1 HB.out.2.2.1 HB.out.2.2.2).mono ?_
          rintro e w9 ⟨v2, o, hv2, rfl, hL2, hO2, ho2, hr2⟩
          rw [HT3.out] at hL2 hO2
          simp only [HT3.out]
          have hbw9 := bt hb7 hr2
          go_wp2_with fail
          refine hK.out _ _ (fun _ => HS6.out _ hbw9) ?_
          clear hK K
          simp only [Act.put, List.setIfInBounds_toArray, List.set_cons_zero, List.set_cons_succ]
          refine wpAnyS_take (i := 6) _ rfl (by kernel_rfl) (Or.inl ⟨by rfl, fun w' hS => by (try dsimp only at hS); go_simp; try with_reducible rfl⟩) (HS6.out _ hbw9) ?_
          simp only [Act.put, List.setIfInBounds_toArray, List.set_cons_zero, List.set_cons_succ]
          refine wpAnyS_take (i := 7) _ rfl (by kernel_rfl) (Or.inl ⟨by rfl, fun w' hS => by (try dsimp only at hS); go_simp; try with_reducible rfl⟩) (HS6.out _ hbw9) ?_
          simp only [Act.put, List.setIfInBounds_toArray, List.set_cons_zero, List.set_cons_succ]
          refine wpAnyS_take (i := 8) _ rfl (by kernel_rfl) (Or.inl ⟨by rfl, fun w' hS => by (try dsimp only at hS); go_simp; try with_reducible rfl⟩) (HS6.out _ hbw9) ?_
          simp only [Act.put, List.setIfInBounds_toArray, List.set_cons_zero, List.set_cons_succ]
          refine wpAnyS_take (i := 9) _ rfl (by kernel_rfl) (Or.inl ⟨by rfl, fun w' hS => by (try dsimp only at hS); go_simp; try with_reducible rfl⟩) (HS6.out _ hbw9) ?_
          simp only [Act.put, List.setIfInBounds_toArray, List.set_cons_zero, List.set_cons_succ]
          have hX := (hr2.block _ (Array.getElem?_eq_some_iff.1 hX0).1).trans hX0
          have hXl := Nat.le_refl W6.heap.size
          have hbF := hbw9
          have hv3 := hv2.imp id (fun h (p : Addr) m c e => (show W6.heap.size ≤ p.block ∧ p.block ≠ W6.heap.size ∧ p.block < w9.heap.size from by have := h p m c e; have := (Array.getElem?_eq_some_iff.1 hX0).1; omega))
          have ho3 := fun (p : Addr) m c e => (show W6.heap.size ≤ p.block ∧ p.block ≠ W6.heap.size ∧ p.block < w9.heap.size from by have := ho2 p m c e; have := (Array.getElem?_eq_some_iff.1 hX0).1; omega)
          have c0 := cell_of_row _ _ 0 _ _ _ hX
          have c1 := cell_of_row _ _ 1 _ _ _ hX
          have c2 := cell_of_row _ _ 2 _ _ _ hX
          have f0 := frozen_of_row _ _ 0 _ _ hX
          have f1 := frozen_of_row _ _ 1 _ _ hX
          have f2 := frozen_of_row _ _ 2 _ _ hX
          obtain ⟨ad2, cap2, rfl⟩ : ∃ ad2 cap2, v2 = .slice ad2 (HM H3).length cap2 := by
            obtain ⟨q1, q2, e, _⟩ := hL2
            exact ⟨q1, q2, e⟩
          have hE := HF10.out _ _ _ _ hX hXl hL2 hO2 hv3 ho3 hbF
          refine wpAnyS_ready (rs := [11]) (by kernel_rfl) (by simp) ?_
          refine AllReadyS.cons rfl (fun K hK => ?_) AllReadyS.nil
          go_simp
          refine hK.out _ _ (fun _ => HS6.out _ hE.2) ?_
          clear hK K
          simp only [Act.put, List.setIfInBounds_toArray, List.set_cons_zero, List.set_cons_succ]
          refine wpAnyS_ready (rs := [12]) (by kernel_rfl) (by simp) ?_
          refine AllReadyS.cons rfl (fun K hK => ?_) AllReadyS.nil
          go_simp
          refine hK.out _ _ (fun _ => HS6.out _ hE.2) ?_
          clear hK K
          simp only [Act.put, List.setIfInBounds_toArray, List.set_cons_zero, List.set_cons_succ]
          refine wpAnyS_ready (rs := [13]) (by kernel_rfl) (by simp) ?_
          refine AllReadyS.cons rfl (fun K hK => ?_) AllReadyS.nil
          go_simp
          refine hK.out _ _ (fun h => absurd h (by omega)) ?_
          clear hK K
          simp only [Act.put, List.setIfInBounds_toArray, List.set_cons_zero, List.set_cons_succ]
          refine wpAnyS_done (by kernel_rfl) ?_ _
          go_wp2
          go_meet
          exact ⟨_, _, _, rfl, rfl, congrArg (Value.int IntKind.i64) HKD.out.symm, hE.1⟩
        exact AllReadyS.nil
      case rest =>
        obtain ⟨X, v2, o, rfl, rfl, rfl, hX, hXl, hL7, hO7, hv7, ho7, hb7⟩ := hcut
        have hlm := HM_len H3
        obtain ⟨ad2, cap2, rfl⟩ : ∃ ad2 cap2, v2 = .slice ad2 H3.length cap2 := by
          obtain ⟨q1, q2, e, _⟩ := hL7
          exact ⟨q1, q2, by rw [e, hlm]⟩
        have hE7 : wc.heap[E]? = some (.cells #[.int .i64 z, .int .u32 (c : Int), v] 29) := (hb7.block _ (Array.getElem?_eq_some_iff.1 hE6).1).trans hE6
        obtain ⟨adv, capv, rfl⟩ : ∃ adv capv, v = .slice adv (HM H).length capv := by
          obtain ⟨q1, q2, e, _⟩ := H6.out.2.2.2.1
          exact ⟨q1, q2, e⟩
        have hEl : E < wr.heap.size := (Array.getElem?_eq_some_iff.1 HW.out.2.1).1
        have hz6 := H6.out.2.1.size
        have kk := setCell_block (setCell_block (setCell_block hE7 0 (.int .i64 z)) 1 (.int .u32 (c3 : Int))) 2 (.slice ad2 H3.length cap2)
        have hk8 : Kept (fun q => q = E) wc (((wc.setCell ⟨E, 0, none⟩ (.int .i64 z)).setCell ⟨E, 1, none⟩ (.int .u32 (c3 : Int))).setCell ⟨E, 2, none⟩ (.slice ad2 H3.length cap2)) :=
          (((show Kept (fun q => q = E) wc wc from Kept.of_below (br wc)).setCell (p := ⟨E, 0, none⟩) rfl _).setCell (p := ⟨E, 1, none⟩) rfl _).setCell (p := ⟨E, 2, none⟩) rfl _
        have hs8 : (((wc.setCell ⟨E, 0, none⟩ (.int .i64 z)).setCell ⟨E, 1, none⟩ (.int .u32 (c3 : Int))).setCell ⟨E, 2, none⟩ (.slice ad2 H3.length cap2)).heap.size = wc.heap.size := by simp [World.setCell]
        have hA8 : StrAt (((wc.setCell ⟨E, 0, none⟩ (.int .i64 z)).setCell ⟨E, 1, none⟩ (.int .u32 (c3 : Int))).setCell ⟨E, 2, none⟩ (.slice ad2 H3.length cap2)) D M z c3 H3 := (H6.out.1.below hb7).kept hk8 (by have := HS.out; omega) (by have := HS.out; omega)
        have hL8 := hL7.keep2 hk8 (fun p m c e he => by
          rcases hv7 with e2 | h
          · exact (HW.out.2.2.2.1 p m c (e2 ▸ e)).2.2.1 he
          · have := (h p m c e).1
            omega)
        have hO8 := hO7.keep2 hk8 (fun p m c e he => by have := (ho7 p m c e).1; omega)
        have hr8 := ownKept (hown_below H6.out.2.2.2.2 hb7) hk8 (fun b hb e => by have := (H6.out.2.2.2.2.lt b hb).1; omega)
        have hb8 := hk8.out (H6.out.2.2.1.trans (hb7.mono H6.out.2.2.1.size)) (Nat.le_trans H6.out.2.2.1.size hb7.size) (by intro q hq; have := HS.out; omega)
        have hf8 : ∀ p m c, Value.slice ad2 H3.length cap2 = .slice (some p) m c → p.block ≠ D ∧ p.block ≠ M ∧ p.block ≠ E ∧ p.block < (((wc.setCell ⟨E, 0, none⟩ (.int .i64 z)).setCell ⟨E, 1, none⟩ (.int .u32 (c3 : Int))).setCell ⟨E, 2, none⟩ (.slice ad2 H3.length cap2)).heap.size := by
          intro p m c e
          rw [hs8]
          have hz7 := hb7.size
          have hlt := HW.out.1.lt
          rcases hv7 with e2 | h
          · have := HW.out.2.2.2.1 p m c (e2 ▸ e)
            exact ⟨this.1, this.2.1, this.2.2.1, by omega⟩
          · have := h p m c e
            exact ⟨by omega, by omega, by omega, by omega⟩
        have cX0 : wc.cell? ⟨X, 0, none⟩ = some (.int .i64 z) := cell_of_row _ _ 0 _ _ _ hX
        have cX1 : wc.cell? ⟨X, 1, none⟩ = some (.int .u32 (c3 : Int)) := cell_of_row _ _ 1 _ _ _ hX
        have cX2 : wc.cell? ⟨X, 2, none⟩ = some (.slice ad2 H3.length cap2) := cell_of_row _ _ 2 _ _ _ hX
        have cE0 : wc.cell? ⟨E, 0, none⟩ = some (.int .i64 z) := cell_of_row _ _ 0 _ _ _ hE7
        have cE1 : wc.cell? ⟨E, 1, none⟩ = some (.int .u32 (c : Int)) := cell_of_row _ _ 1 _ _ _ hE7
        have cE2 : wc.cell? ⟨E, 2, none⟩ = some (.slice adv (HM H).length capv) := cell_of_row _ _ 2 _ _ _ hE7
        have f0 := frozen_of_row _ _ 0 _ _ hE7
        have f1 := frozen_of_row _ _ 1 _ _ hE7
        have f2 := frozen_of_row _ _ 2 _ _ hE7
        have H8 := Lib.hid (And.intro hA8 (And.intro kk (And.intro hL8 (And.intro hO8 (And.intro hr8 (And.intro hb8 hf8))))))
        clear hA8 kk hL8 hO8 hr8 hb8 hf8 hk8 hs8 hX hXl hL7 hO7 hv7 ho7 hb7 hE7 hE6 hL6 hR6 hlm
        go_wp2_with fail
        generalize (((wc.setCell ⟨E, 0, none⟩ (.int .i64 z)).setCell ⟨E, 1, none⟩ (.int .u32 (c3 : Int))).setCell ⟨E, 2, none⟩ (.slice ad2 H3.length cap2)) = w8 at *
        obtain ⟨n5, hn5⟩ : ∃ n5 : Int, (if u ≤ c3 then 0 else (c3 : Int) + 1) = n5 := ⟨_, rfl⟩
        obtain ⟨b5, hb5⟩ : ∃ b5 : Bool, decide (c3 < u) = b5 := ⟨_, rfl⟩
        have hla := sLacks_any D M c3 u z H3 w8 H8.out.1 HC3.out hu
        have hlb := refLacksS_any z c3 u (.slice ad2 H3.length cap2) w8 HC3.out hu
        rw [hn5, hb5] at hla hlb
        have HLA := Lib.hid hla
        have HLB := Lib.hid hlb
        clear hla hlb hn5 hb5
        refine HLA.out.mono ?_
        rintro e w9 ⟨rfl, rfl⟩
        clear cX0 cX1 cX2 cE0 cE1 cE2 f0 f1 f2
        have cE0 : w8.cell? ⟨E, 0, none⟩ = some (.int .i64 z) := cell_of_row _ _ 0 _ _ _ H8.out.2.1
        have cE1 : w8.cell? ⟨E, 1, none⟩ = some (.int .u32 (c3 : Int)) := cell_of_row _ _ 1 _ _ _ H8.out.2.1
        have cE2 : w8.cell? ⟨E, 2, none⟩ = some (.slice ad2 H3.length cap2) := cell_of_row _ _ 2 _ _ _ H8.out.2.1
        go_wp2_with fail
        refine HLB.out.mono ?_
        rintro e w9 ⟨rfl, hb9⟩
        have hEl8 : E < w8.heap.size := (Array.getElem?_eq_some_iff.1 H8.out.2.1).1
        have hEl9 := Nat.lt_of_lt_of_le hEl8 hb9.size
        have q1 := Bel.cell ((hb9.cell (p := ⟨E, 1, none⟩) hEl8).trans cE1) hEl9
        have q2 := Bel.cell ((hb9.cell (p := ⟨E, 2, none⟩) hEl8).trans cE2) hEl9
        have HQ := Lib.hid (show (∀ y : Bel w9, Calls Try.prog 21 #[.slice adO O3.length capO, u13] y.val fun e w' => e = .returned (.bool true) ∧ Below y.val.heap.size y.val w') ∧ (∀ y : Bel w9, Calls Try.prog 22 #[.pointer (some ⟨D, 0, none⟩)] y.val fun e w' => e = .returned (.int .u32 (c3 : Int)) ∧ y.val = w') ∧ (∀ y : Bel w9, Calls Try.prog 23 #[.pointer (some ⟨D, 0, none⟩)] y.val fun e w' => e = .returned (.int .i64 (H3.length : Int)) ∧ y.val = w') from
          ⟨fun y => by
            have hby := bt hb9 y.prop
            have hbw := H8.out.2.2.2.2.2.1.trans (hby.mono H8.out.2.2.2.2.2.1.size)
            have := All_any _ _ O3 O3 y.val ((RowsAt.of_own (hown_below H8.out.2.2.2.2.1 hby)).msgs (fun m hm => (HG.out.2.2.2.2 m hm).below hbw)) ((H8.out.2.2.2.1.below hby).msgs (fun m hm => (HG.out.2.2.2.2 m hm).below hbw))
            rwa [allM_self] at this,
          fun y => sCount_any D M c3 z H3 y.val (H8.out.1.below (bt hb9 y.prop)), fun y => sHeld_any D M c3 z H3 y.val (H8.out.1.below (bt hb9 y.prop))⟩)
        clear cE0 cE1 cE2
        go_wp2_with fail
        refine wp_region_bel (by kernel_rfl) (by kernel_rfl) ?_
        repeat (go_big_quiet_step ((first | (go_at_call 21; exact bel_call (HQ.out.1 _)) | (go_at_call 22; exact bel_same (HQ.out.2.1 _)) | (go_at_call 23; exact bel_same (HQ.out.2.2 _)))))
        refine wpQuiet_nil ?_
        intro w5 hw5
        obtain ⟨x5, rfl⟩ := hw5
        have hq5 := bt hb9 x5.prop
        generalize x5.val = w10 at *
        have H10 := Lib.hid hq5
        clear hq5
        go_wp2
        refine ⟨⟨k + 1, .slice ad2 H3.length cap2, by omega, by go_num, ?_, ?_, ?_, ?_, ?_⟩, by simp [intOf]; omega⟩
        · rw [HG.out.2.2.1, HG.out.2.2.2.1]
          exact H8.out.1.below H10.out
        · rw [HG.out.2.2.1]
          exact (H10.out.block _ hEl8).trans H8.out.2.1
        · rw [HG.out.2.2.2.1]
          exact H8.out.2.2.1.below H10.out
        · intro p m c e
          have := H8.out.2.2.2.2.2.2 p m c e
          have := H10.out.size
          omega
        · exact H8.out.2.2.2.2.2.1.trans (H10.out.mono H8.out.2.2.2.2.2.1.size)
    · have hbool : decide ((k : Int) < (l.length : Int)) = false := by simpa using hlt
      go_wp2
      go_ret
      exact ⟨rfl, hbr⟩
end Go.Proofs.Ytodlmboagbjcbaa
