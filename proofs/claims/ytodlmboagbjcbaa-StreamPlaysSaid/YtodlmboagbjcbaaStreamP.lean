/-
  The law StreamCopies.
  Conditions: none.
-/
import Derived.Test.YtodlmboagbjcbaaStreamO
import Derived.Test.YtodlmboagbjcbaaMsgC
namespace Go.Proofs.Ytodlmboagbjcbaa
set_option linter.unusedVariables false
open Go.RowKit IM
theorem sizeZ_in (n : Int) : 1 ≤ sizeZ n ∧ sizeZ n ≤ 64 := by unfold sizeZ; omega
theorem sStep_any (z : Int) (l : List Msg) (hz : 1 ≤ z ∧ z ≤ 64) (hl : l.length ≤ 300) (k : Nat) (hk : k < l.length) (hq : l[k].seq < 4294967296) (D M : Nat) (W : World) (hW : StrAt W D M z (stS z l k).1 (stS z l k).2) :
    Calls Try.prog 17 #[.pointer (some ⟨D, 0, none⟩), .agg (msgA l[k]).toList.toArray] W fun e w' => ∃ ad n cap q, e = .returned (.tuple #[.slice ad n cap, .int .i64 q]) ∧ StrAt w' D M z (stS z l (k + 1)).1 (stS z l (k + 1)).2 ∧ Kept (Two D M) W w' := by
  obtain ⟨g1, g2⟩ := stS_inv z l k (by omega)
  refine (sTake_any D M _ z _ l[k] W hW g1 (by omega) hz (by omega) hq).mono ?_
  rintro e w' ⟨v, rfl, ho, hS, hK⟩
  obtain ⟨ad, cap, rfl⟩ := own_slice ho
  rw [stS_succ z l k hk]
  exact ⟨_, _, _, _, rfl, hS, hK⟩
set_option maxRecDepth 100000 in
set_option maxHeartbeats 4000000 in
theorem law_streamCopies (size : Int) (v : Value) (l : List Msg) (at0 : Int) (w : World) (h : MsgsAt w v l) :
    Calls Try.prog 6 #[.int .i64 size, v, .int .i64 at0] w fun e w' => e = .returned (.bool true) ∧ Below w.heap.size w w' := by
  have hFew := fun (W : World) (hW : MsgsAt W v l) => Few_any v l W hW
  have HF := Lib.hid hFew
  have HA := Lib.hid h
  obtain ⟨ad, cap, rfl, hl, hc⟩ := h
  have h00 : ∀ z, stS z l 0 = (0, []) := fun _ => rfl
  have HC := Lib.hid hc
  clear hFew hc
  go_enter Try.func6, Try.ntmps6
  go_wp2_with fail
  refine (awake10_any _).mono ?_
  rintro e w1 ⟨rfl, hb1⟩
  go_wp2_with fail
  refine (HF.out _ (HA.out.below (hb1))).mono ?_
  rintro e w2 ⟨⟨b, rfl, hb⟩, hb2'⟩
  have hb2 := hb1.trans (hb2'.mono hb1.size)
  clear hb2'
  cases b
  · go_wp2
    go_ret
    exact ⟨rfl, hb2⟩
  have hlen := (hb rfl).1
  clear hb
  by_cases hneg : at0 < 0
  · have dneg : decide (at0 < 0) = true := by simpa using hneg
    go_wp2
    go_ret
    exact ⟨rfl, hb2⟩
  by_cases hbig : (l.length : Int) < at0
  · have dneg : decide (at0 < 0) = false := by simpa using hneg
    have dbig : decide ((l.length : Int) < at0) = true := by simpa using hbig
    go_wp2
    go_ret
    exact ⟨rfl, hb2⟩
  obtain ⟨m, rfl⟩ : ∃ m : Nat, at0 = (m : Int) := ⟨at0.toNat, by omega⟩
  have dneg : decide ((m : Int) < 0) = false := by simp
  have dbig : decide ((l.length : Int) < (m : Int)) = false := by simpa using hbig
  have dbig2 : decide (l.length < m) = false := by simp; omega
  have hm : m ≤ l.length := by omega
  clear hneg hbig
  go_wp2_with fail
  refine (sNew_any size _).mono ?_
  rintro e w3 ⟨D, M, rfl, h3, hb3', hD, hM⟩
  have hDw : w.heap.size ≤ D := Nat.le_trans hb2.size hD
  have hMw : w.heap.size ≤ M := Nat.le_trans hb2.size hM
  have hb3 := hb2.trans (hb3'.mono hb2.size)
  have hS : ∀ k, k < w.heap.size → ¬ Two D M k := by unfold Two; intro k hk; omega
  have hz := sizeZ_in size
  have HT := Lib.hid (fun k hk hq => sStep_any (sizeZ size) l hz hlen k hk hq)
  generalize sizeZ size = z at *
  have h30 : StrAt w3 D M z (stS z l 0).1 (stS z l 0).2 := h3
  have HS := Lib.hid (And.intro hS (And.intro hDw hMw))
  have HL := Lib.hid hlen
  clear h00 dneg dbig dbig2 hb3' hD hM h3 hS hDw hMw hz hb1 hb2 hlen
  go_wp2
  go_loopw [8] (fun i wr => ∃ (k : Nat), k ≤ m ∧ i = .int .i64 (k : Int) ∧ StrAt wr D M z (stS z l k).1 (stS z l k).2 ∧ Below w.heap.size w wr) (fun i _ => m - (intOf i).toNat)
  case atStart => exact ⟨0, by omega, rfl, h30, hb3⟩
  case round =>
    obtain ⟨k, hk, rfl, hDk, hbr⟩ := hrel
    by_cases hlt : k < m
    · have hbool : decide ((k : Int) < (m : Int)) = true := by simpa using hlt
      have hkl : k < l.length := by omega
      obtain ⟨B, O, rfl, hB, hr0, hmo⟩ := HC.out k hkl
      have hr : wr.rangeAt B (O + k * 6) (msgA l[k]).toList := fun j u hu => (hbr.cell (p := ⟨B, O + k * 6 + j, none⟩) hB).trans (hr0 j u hu)
      have HDD := Lib.hid (HT.out k hkl hmo.2.2.1 D M wr hDk)
      have HR := Lib.hid hr
      have hki : (k : Int) < (l.length : Int) := by omega
      clear hr hr0 hmo
      generalize l[k] = x at *
      go_wp2_with (refine wpList_load_mid rfl 37 (.tmp 39) rfl B (O + k * 6) rfl (msgA x).toList _ HR.out Try.underlying37 rfl (by kernel_rfl) ?_)
      refine HDD.out.mono ?_
      rintro e w4 ⟨ad4, n4, cap4, q4, rfl, hD4, hk4⟩
      have hb4 := hk4.out hbr hbr.size HS.out.1
      go_wp2
      exact ⟨⟨k + 1, by omega, by go_num, hD4, hb4⟩, by simp [intOf]; omega⟩
    · have hbool : decide ((k : Int) < (m : Int)) = false := by simpa using hlt
      obtain rfl : k = m := by omega
      clear hbool hlt hk
      go_wp2_with fail
      refine (sCopy_any D M _ z _ _ hDk).mono ?_
      rintro e w5 ⟨C, N, rfl, hC5, hq5, hC, hN⟩
      have hD5 := hDk.below hq5
      have hlt5 := hDk.lt
      have hb5 := hbr.trans (hq5.mono hbr.size)
      have hX : ¬ Two D M C ∧ ¬ Two D M N ∧ ¬ Two C N D ∧ ¬ Two C N M := by unfold Two; omega
      have hS2 : ∀ k, k < w.heap.size → ¬ Two C N k := by have := hbr.size; unfold Two; intro k hk; omega
      have HX := Lib.hid (And.intro hX hS2)
      clear hq5 hlt5 hX hS2 hC hN hDk hbr
      go_wp2_with fail
      refine (sCount_any D M _ z _ _ hD5).mono ?_
      rintro e w6 ⟨rfl, rfl⟩
      go_wp2_with fail
      refine (sHeld_any D M _ z _ _ hD5).mono ?_
      rintro e w6 ⟨rfl, rfl⟩
      go_wp2
      go_loopw [12] (fun i wr => ∃ (j : Nat), j ≤ l.length ∧ i = .int .i64 (j : Int) ∧ StrAt wr D M z (stS z l j).1 (stS z l j).2 ∧ StrAt wr C N z (stS z l k).1 (stS z l k).2 ∧ Below w.heap.size w wr) (fun i _ => l.length - (intOf i).toNat)
      case atStart => exact ⟨k, hm, rfl, hD5, hC5, hb5⟩
      case round =>
        obtain ⟨j, hj, rfl, hDj, hCj, hbj⟩ := hrel
        by_cases hlt2 : j < l.length
        · have hbool : decide ((j : Int) < (l.length : Int)) = true := by simpa using hlt2
          obtain ⟨B, O, rfl, hB, hr0, hmo⟩ := HC.out j hlt2
          have hr : wr.rangeAt B (O + j * 6) (msgA l[j]).toList := fun i u hu => (hbj.cell (p := ⟨B, O + j * 6 + i, none⟩) hB).trans (hr0 i u hu)
          have HDD := Lib.hid (HT.out j hlt2 hmo.2.2.1 D M wr hDj)
          have HR := Lib.hid hr
          have hki : (j : Int) < (l.length : Int) := by omega
          clear hr hr0 hmo
          generalize l[j] = x at *
          go_wp2_with (refine wpList_load_mid rfl 37 (.tmp 58) rfl B (O + j * 6) rfl (msgA x).toList _ HR.out Try.underlying37 rfl (by kernel_rfl) ?_)
          refine HDD.out.mono ?_
          rintro e w4 ⟨ad4, n4, cap4, q4, rfl, hD4, hk4⟩
          have hb4 := hk4.out hbj hbj.size HS.out.1
          have hO := hCj.kept hk4 HX.out.1.1 HX.out.1.2.1
          go_wp2
          exact ⟨⟨j + 1, by omega, by go_num, hD4, hO, hb4⟩, by simp [intOf]; omega⟩
        · have hbool : decide ((j : Int) < (l.length : Int)) = false := by simpa using hlt2
          obtain rfl : j = l.length := by omega
          clear hbool hlt2 hj
          go_wp2_with fail
          refine (sCount_any C N _ z _ _ hCj).mono ?_
          rintro e w8 ⟨rfl, rfl⟩
          go_wp2_with fail
          refine (sHeld_any C N _ z _ _ hCj).mono ?_
          rintro e w8 ⟨rfl, rfl⟩
          go_wp2
          go_loopw [13] (fun i wr => ∃ (j : Nat), j ≤ l.length ∧ i = .int .i64 (j : Int) ∧ StrAt wr D M z (stS z l l.length).1 (stS z l l.length).2 ∧ StrAt wr C N z (stS z l j).1 (stS z l j).2 ∧ Below w.heap.size w wr) (fun i _ => l.length - (intOf i).toNat)
          case atStart => exact ⟨k, hm, rfl, hDj, hCj, hbj⟩
          case round =>
            clear hDj hCj hbj
            obtain ⟨j, hj, rfl, hDj, hCj, hbj⟩ := hrel
            by_cases hlt2 : j < l.length
            · have hbool : decide ((j : Int) < (l.length : Int)) = true := by simpa using hlt2
              obtain ⟨B, O, rfl, hB, hr0, hmo⟩ := HC.out j hlt2
              have hr : wr.rangeAt B (O + j * 6) (msgA l[j]).toList := fun i u hu => (hbj.cell (p := ⟨B, O + j * 6 + i, none⟩) hB).trans (hr0 i u hu)
              have HDD := Lib.hid (HT.out j hlt2 hmo.2.2.1 C N wr hCj)
              have HR := Lib.hid hr
              have hki : (j : Int) < (l.length : Int) := by omega
              clear hr hr0 hmo
              generalize l[j] = x at *
              go_wp2_with (refine wpList_load_mid rfl 37 (.tmp 81) rfl B (O + j * 6) rfl (msgA x).toList _ HR.out Try.underlying37 rfl (by kernel_rfl) ?_)
              refine HDD.out.mono ?_
              rintro e w4 ⟨ad4, n4, cap4, q4, rfl, hD4, hk4⟩
              have hb4 := hk4.out hbj hbj.size HX.out.2
              have hO := hDj.kept hk4 HX.out.1.2.2.1 HX.out.1.2.2.2
              go_wp2
              exact ⟨⟨j + 1, by omega, by go_num, hO, hD4, hb4⟩, by simp [intOf]; omega⟩
            · have hbool : decide ((j : Int) < (l.length : Int)) = false := by simpa using hlt2
              obtain rfl : j = l.length := by omega
              clear hbool hlt2 hj
              go_wp2_with fail
              refine (sCount_any C N _ z _ _ hCj).mono ?_
              rintro e w9 ⟨rfl, rfl⟩
              go_wp2_with fail
              refine (sCount_any D M _ z _ _ hDj).mono ?_
              rintro e w9 ⟨rfl, rfl⟩
              go_wp2_with fail
              refine (sHeld_any C N _ z _ _ hCj).mono ?_
              rintro e w9 ⟨rfl, rfl⟩
              go_wp2_with fail
              refine (sHeld_any D M _ z _ _ hDj).mono ?_
              rintro e w9 ⟨rfl, rfl⟩
              go_wp2
              go_ret
              exact ⟨rfl, hbj⟩
end Go.Proofs.Ytodlmboagbjcbaa
