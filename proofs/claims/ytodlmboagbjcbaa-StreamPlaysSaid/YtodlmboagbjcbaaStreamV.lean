/-
  The law StreamOrders.
  Conditions: none.
-/
import Derived.Test.YtodlmboagbjcbaaStreamN
import Derived.Test.YtodlmboagbjcbaaStreamP
import Derived.Test.YtodlmboagbjcbaaStreamU
namespace Go.Proofs.Ytodlmboagbjcbaa
set_option linter.unusedVariables false
open Go.RowKit IM
theorem stO_st (z : Int) (l : List Msg) : ∀ k, k ≤ l.length → (stO z l k).1 = (stS z l k).1 ∧ (stO z l k).2.1 = (stS z l k).2 := by
  intro k
  induction k with
  | zero => intro _; exact ⟨rfl, rfl⟩
  | succ k ih =>
    intro hk
    obtain ⟨h1, h2⟩ := ih (by omega)
    rw [stO_succ z l k (by omega), stS_succ z l k (by omega)]
    unfold stepO
    simp only [h1, h2]
    exact ⟨trivial, trivial⟩
theorem stO_sub (z : Int) (l : List Msg) : ∀ k, k ≤ l.length → ∀ m ∈ (stO z l k).2.2.1, m ∈ l := by
  intro k
  induction k with
  | zero => intro _ m hm; cases hm
  | succ k ih =>
    intro hk m hm
    rw [stO_succ z l k (by omega)] at hm
    unfold stepO at hm
    simp only at hm
    split at hm
    · rcases List.mem_append.1 hm with h | h
      · exact ih (by omega) m h
      · simp at h
        subst h
        exact List.getElem_mem _
    · exact ih (by omega) m hm
theorem stO_len (z : Int) (l : List Msg) (hl : l.length ≤ 300) (k : Nat) (hk : k ≤ l.length) : (stO z l k).2.2.2.length ≤ 300 ∧ (stO z l k).2.2.1.length ≤ 300 := by
  have h1 := stO_inv z l k hk
  obtain ⟨e1, e2⟩ := stO_st z l k hk
  obtain ⟨_, g2⟩ := stS_inv z l k hk
  have h2 := h1.len
  have h3 := h1.cnt
  rw [e1] at h2 h3
  rw [e2] at h3
  omega
theorem oStep_any (z : Int) (l : List Msg) (hz : 1 ≤ z ∧ z ≤ 64) (hl : l.length ≤ 300) (k : Nat) (hk : k < l.length) (hq : l[k].seq < 4294967296) (D M : Nat) (W : World) (hW : StrAt W D M z (stO z l k).1 (stO z l k).2.1) :
    Calls Try.prog 17 #[.pointer (some ⟨D, 0, none⟩), .agg (msgA l[k]).toList.toArray] W fun e w' => ∃ v O, e = .returned (.tuple #[v, .int .i64 (codeS z (stO z l k).1 (stO z l k).2.1 l[k])]) ∧
      w'.ownsRow W.heap.size 37 6 v O.length (rowsM O) ∧ (stO z l (k + 1)).2.2.2 = (stO z l k).2.2.2 ++ O ∧ (codeS z (stO z l k).1 (stO z l k).2.1 l[k] ≠ 0 → O = []) ∧ (stO z l (k + 1)).2.2.1 = (if codeS z (stO z l k).1 (stO z l k).2.1 l[k] = 0 then (stO z l k).2.2.1 ++ [l[k]] else (stO z l k).2.2.1) ∧ (stO z l (k + 1)).2.2.2.length ≤ 300 ∧ (stO z l (k + 1)).2.2.1.length ≤ 300 ∧ StrAt w' D M z (stO z l (k + 1)).1 (stO z l (k + 1)).2.1 ∧ Kept (Two D M) W w' := by
  obtain ⟨e1, e2⟩ := stO_st z l k (by omega)
  obtain ⟨g1, g2⟩ := stS_inv z l k (by omega)
  rw [← e1, ← e2] at g2
  rw [← e2] at g1
  refine (sTake_any D M _ z _ l[k] W hW g1 (by omega) hz (by omega) hq).mono ?_
  rintro e w' ⟨v, rfl, ho, hS, hK⟩
  obtain ⟨b1, b2⟩ := stO_len z l hl (k + 1) (by omega)
  rw [stO_succ z l k hk] at b1 b2 ⊢
  refine ⟨_, _, rfl, ho, rfl, ?_, rfl, b1, b2, hS, hK⟩
  intro hne
  unfold takeS
  rw [if_neg hne]
set_option maxRecDepth 100000 in
set_option maxHeartbeats 4000000 in
theorem law_streamOrders (size : Int) (v : Value) (l : List Msg) (w : World) (h : MsgsAt w v l) :
    Calls Try.prog 4 #[.int .i64 size, v] w fun e w' => e = .returned (.bool true) ∧ Below w.heap.size w w' := by
  have hFew := fun (W : World) (hW : MsgsAt W v l) => Few_any v l W hW
  have HF := Lib.hid hFew
  have HA := Lib.hid h
  obtain ⟨ad, cap, rfl, hl, hc⟩ := h
  have HC := Lib.hid hc
  clear hFew hc
  go_enter Try.func4, Try.ntmps4
  go_wp2_with fail
  refine (awake10_any _).mono ?_
  rintro e w1 ⟨rfl, hb1⟩
  go_wp2_with fail
  refine (HF.out _ (HA.out.below (hb1))).mono ?_
  rintro e w2 ⟨⟨b, rfl, hb⟩, hb2'⟩
  have hb2 := hb1.trans (hb2'.mono hb1.size)
  clear hb2'
  cases b
  · go_wp2
    go_ret
    exact ⟨rfl, hb2⟩
  have hlen := (hb rfl).1
  clear hb
  go_wp2_with fail
  refine (sNew_any size _).mono ?_
  rintro e w3 ⟨D, M, rfl, h3, hb3', hD, hM⟩
  have hDw : w.heap.size ≤ D := Nat.le_trans hb2.size hD
  have hMw : w.heap.size ≤ M := Nat.le_trans hb2.size hM
  have hb3 := hb2.trans (hb3'.mono hb2.size)
  have hS : ∀ k, k < w.heap.size → ¬ Two D M k := by unfold Two; intro k hk; omega
  have hz := sizeZ_in size
  have HT := Lib.hid (fun k hk hq => oStep_any (sizeZ size) l hz hlen k hk hq)
  have HZ := Lib.hid hz
  generalize sizeZ size = z at *
  have h30 : StrAt w3 D M z (stO z l 0).1 (stO z l 0).2.1 := h3
  have HS := Lib.hid (And.intro hS (And.intro hDw hMw))
  have HL := Lib.hid hlen
  clear hb3' hD hM h3 hS hDw hMw hz hb1 hb2 hlen
  go_wp2
  obtain ⟨i0, hi, hz0, hz1, hz2⟩ := info_parts info37
  have hw0 := hb3.size
  go_loopw [6, 7, 8] (fun uF uA i wr => ∃ (k : Nat), k ≤ l.length ∧ i = .int .i64 (k : Int) ∧ StrAt wr D M z (stO z l k).1 (stO z l k).2.1 ∧ OW w.heap.size D M (stO z l k).2.2.1 (stO z l k).2.2.2 uF uA wr ∧ Below w.heap.size w wr) (fun _ _ i _ => l.length - (intOf i).toNat)
  case atStart => exact ⟨0, by omega, rfl, h30, OW.zero _ _ _ _, hb3⟩
  case round =>
    obtain ⟨k, hk, rfl, hDk, hOk, hbr⟩ := hrel
    by_cases hlt : k < l.length
    · have hbool : decide ((k : Int) < (l.length : Int)) = true := by simpa using hlt
      obtain ⟨B, O, rfl, hB, hr0, hmo⟩ := HC.out k hlt
      have HR := Lib.hid (show ∀ W, Below w.heap.size w W → W.rangeAt B (O + k * 6) (msgA l[k]).toList from fun W hb j u hu => (hb.cell (p := ⟨B, O + k * 6 + j, none⟩) hB).trans (hr0 j u hu))
      have HDD := Lib.hid (HT.out k hlt hmo.2.2.1 D M _ hDk)
      have hki : (k : Int) < (l.length : Int) := by omega
      have HO := Lib.hid (And.intro hOk hbr)
      clear hr0 hmo hDk hOk hbr
      generalize hP' : stO z l (k + 1) = P' at *
      generalize hP : stO z l k = P at *
      generalize l[k] = x at *
      generalize codeS z P.1 P.2.1 x = q at *
      obtain ⟨c, H, F, A⟩ := P
      obtain ⟨c', H', F', A'⟩ := P'
      simp only at *
      have HR1 := Lib.hid (HR.out _ HO.out.2)
      go_wp2_with (refine wpList_load_mid rfl 37 (.tmp 31) rfl B (O + k * 6) rfl (msgA x).toList _ HR1.out Try.underlying37 rfl (by kernel_rfl) ?_)
      refine HDD.out.mono ?_
      rintro e w4 ⟨v4, O4, rfl, ho4, hA4, hn4, hF4, hl4, hl5, hD4, hk4⟩
      have hap := own_apart HO.out.1 ho4
      obtain ⟨ad4, cap4, rfl⟩ := own_slice ho4
      have hb4 := hk4.out HO.out.2 HO.out.2.size HS.out.1
      have hO4 := HO.out.1.two hk4
      subst hA4
      have HR4 := Lib.hid (HR.out _ hb4)
      have hx1 := rowsM_one O4
      by_cases hq : q = 0
      · subst hq
        rw [if_pos rfl] at hF4
        subst hF4
        have hlF : F.length + 1 ≤ 300 := by simpa using hl5
        have hlA : A.length + O4.length ≤ 300 := by simpa using hl4
        have H4 := Lib.hid (And.intro hO4 (And.intro hD4 hb4))
        have HO4 := Lib.hid ho4
        have HAP := Lib.hid hap
        have HBL := Lib.hid (And.intro hlF hlA)
        clear hO4 hD4 hb4 ho4 hap hn4 hl4 hl5 hk4 hlF hlA hx1
        have x0 : w4.cell? ⟨B, O + k * 6, none⟩ = some (.int .i64 x.frm) := HR4.out 0 _ rfl
        have x1 : w4.cell? ⟨B, O + k * 6 + 1, none⟩ = some (.int .u32 (x.seq : Int)) := HR4.out 1 _ rfl
        have x2 : w4.cell? ⟨B, O + k * 6 + 2, none⟩ = some (.int .u64 (x.stamp : Int)) := HR4.out 2 _ rfl
        have x3 : w4.cell? ⟨B, O + k * 6 + 3, none⟩ = some (.int .i64 x.service) := HR4.out 3 _ rfl
        have x4 : w4.cell? ⟨B, O + k * 6 + 4, none⟩ = some (.slice x.da x.ds.length x.dc) := HR4.out 4 _ rfl
        have x5 : w4.cell? ⟨B, O + k * 6 + 5, none⟩ = some (.string x.pay) := HR4.out 5 _ rfl
        go_wp2_with (at_builtin; refine wpList_append_any _ rfl (.tmp 45) (.tmp 50) 22 rfl w.heap.size 37 i0 _ 6 72 Try.underlying22 hi hz0 hz1 hz2 rfl (by decide) _ F.length (rowsM F) rfl (H4.out.1.f.alloc _) _ _ 1 1 (msgA x).toList rfl (reads_new w4 x) (msgA_one x) ?c3 ?c4 ?c5 ?_)
        case c3 => have := HBL.out.1; unfold maxLen; omega
        case c4 => have := HBL.out.1; omega
        case c5 => have := H4.out.2.2.size; simp; omega
        intro u5 w5 ho5 hg5 hu5
        clear x0 x1 x2 x3 x4 x5
        obtain ⟨g1, g2, g3⟩ := (H4.out.1.below (ba (br w4) _)).pushF (H4.out.2.1.below (ba (br w4) _)) (ba H4.out.2.2 _) (by have := H4.out.2.2.size; simp; omega) hg5 ho5 (by simpa using hu5)
        have ho45 := (HO4.out.alloc _).kept hg5 (by
          cases hv : (Value.slice ad4 O4.length cap4).ownBlock with
          | none => exact .inl rfl
          | some g => exact .inr (fun e => HAP.out g hv e.symm))
        have H5 := Lib.hid (And.intro g1 (And.intro g2 (And.intro g3 (Reads.of_own ho45))))
        clear g1 g2 g3 ho45 ho5 hg5 hu5
        go_wp2_with (at_builtin; refine wpList_append_any _ rfl (.tmp 52) (.tmp 53) 22 rfl w.heap.size 37 i0 _ 6 72 Try.underlying22 hi hz0 hz1 hz2 rfl (by decide) _ A.length (rowsM A) rfl H5.out.1.a _ _ O4.length _ (rowsM O4) rfl H5.out.2.2.2 (rowsM_one O4) ?c3 ?c4 ?c5 ?_)
        case c3 => have := HBL.out.2; unfold maxLen; omega
        case c4 => have := HBL.out.2; omega
        case c5 => exact H5.out.2.2.1.size
        intro v6 w6 ho6 hg6 hu6
        obtain ⟨k1, k2, k3⟩ := H5.out.1.pushA H5.out.2.1 H5.out.2.2.1 H5.out.2.2.1.size hg6 ho6 hu6
        clear ho6 hg6 hu6
        go_wp2
        exact ⟨⟨k + 1, by omega, by go_num, by rw [hP']; exact k2, by rw [hP']; exact k1, k3⟩, by simp [intOf]; omega⟩
      · have hO0 := hn4 hq
        subst hO0
        rw [if_neg hq] at hF4
        subst hF4
        have dq : decide (q = 0) = false := by simpa using hq
        have hlA : A.length ≤ 300 := by simpa using hl4
        have H4 := Lib.hid (And.intro hO4 (And.intro hD4 hb4))
        have HBL := Lib.hid hlA
        clear hO4 hD4 hb4 ho4 hap hn4 hl4 hl5 hk4 hlA hx1
        go_wp2_with (at_builtin; refine wpList_append_any _ rfl (.tmp 52) (.tmp 53) 22 rfl w.heap.size 37 i0 _ 6 72 Try.underlying22 hi hz0 hz1 hz2 rfl (by decide) _ A.length (rowsM A) rfl H4.out.1.a w4.heap.size _ 0 _ [] rfl Reads.none_ (by intro u hu; cases hu) ?c3 ?c4 ?c5 ?_)
        case c3 => have := HBL.out; unfold maxLen; omega
        case c4 => have := HBL.out; omega
        case c5 => exact H4.out.2.2.size
        intro v6 w6 ho6 hg6 hu6
        obtain ⟨k1, k2, k3⟩ := H4.out.1.pushA (O := []) H4.out.2.1 H4.out.2.2 H4.out.2.2.size hg6 (by simpa [rowsM] using ho6) hu6
        clear ho6 hg6 hu6
        go_wp2
        exact ⟨⟨k + 1, by omega, by go_num, by rw [hP']; exact k2, by rw [hP']; exact k1, k3⟩, by simp [intOf]; omega⟩
    · have hbool : decide ((k : Int) < (l.length : Int)) = false := by simpa using hlt
      obtain rfl : k = l.length := by omega
      have hI := stO_inv z l l.length (Nat.le_refl _)
      have hsub := stO_sub z l l.length (Nat.le_refl _)
      obtain ⟨hlA, hlF⟩ := stO_len z l HL.out l.length (Nat.le_refl _)
      have hh := held_le hI HZ.out
      have hmo : ∀ m ∈ l, MsgOk w m := by
        intro m hm
        obtain ⟨q, hq, rfl⟩ := List.mem_iff_getElem.1 hm
        obtain ⟨_, _, _, _, _, h⟩ := HC.out q hq
        exact h
      generalize stO z l l.length = P at *
      obtain ⟨c, H, F, A⟩ := P
      have hlenA : A.length = c := hI.len
      have hseq : ∀ i (h : i < A.length), A[i].seq = i + 1 := hI.seq
      have hAF : ∀ m ∈ A, m ∈ F := hI.sub
      have hcnt : F.length = c + H.length := hI.cnt
      have hH63 : H.length ≤ 63 := hh
      have hFl : ∀ m ∈ F, m ∈ l := hsub
      simp only at *
      have HI := Lib.hid (And.intro hseq (And.intro hAF (And.intro hFl hmo)))
      have HN := Lib.hid (And.intro hlenA (And.intro hcnt hH63))
      have hlA2 : A.length ≤ 300 := hlA
      have hlF2 : F.length ≤ 300 := hlF
      obtain ⟨adF, capF, rfl⟩ := own_slice hOk.f
      obtain ⟨adA, capA, rfl⟩ := own_slice hOk.a
      clear hI hsub hh hmo hseq hAF hFl hlenA hcnt hH63 hlA hlF hbool hlt hk HT HL HZ hi hz0 hz1 hz2 h30 hb3
      go_wp2
      go_loopw [11] (fun i wr => ∃ (j : Nat), j ≤ A.length ∧ i = .int .i64 (j : Int) ∧ StrAt wr D M z c H ∧ OW w.heap.size D M F A (.slice adF F.length capF) (.slice adA A.length capA) wr ∧ Below w.heap.size w wr) (fun i _ => A.length - (intOf i).toNat)
      case atStart => exact ⟨0, by omega, rfl, hDk, hOk, hbr⟩
      case round =>
        clear hDk hOk hbr
        obtain ⟨j, hj, rfl, hDj, hOj, hbj⟩ := hrel
        by_cases hlt2 : j < A.length
        · have hbool : decide ((j : Int) < (A.length : Int)) = true := by simpa using hlt2
          go_wp2
          have hji : (j : Int) < (A.length : Int) := by omega
          go_loopw [12, 13] (fun f i wr => ∃ (k : Nat) (b : Bool), k ≤ F.length ∧ i = .int .i64 (k : Int) ∧ f = .bool b ∧ (∀ q (hq : q < F.length), q < k → sameM F[q] A[j] = true → b = true) ∧ StrAt wr D M z c H ∧ OW w.heap.size D M F A (.slice adF F.length capF) (.slice adA A.length capA) wr ∧ Below w.heap.size w wr) (fun _ i _ => F.length - (intOf i).toNat)
          case atStart => exact ⟨0, false, by omega, rfl, rfl, by intro q hq h; omega, hDj, hOj, hbj⟩
          case round =>
            clear hDj hOj hbj hbool
            obtain ⟨k, b, hk, rfl, rfl, hf, hD3, hO3, hb3⟩ := hrel
            by_cases hlt3 : k < F.length
            · have hbool : decide ((k : Int) < (F.length : Int)) = true := by simpa using hlt3
              have hki : (k : Int) < (F.length : Int) := by omega
              obtain ⟨gF, rfl, hgF, rF⟩ := own_msg hO3.f hlt3
              obtain ⟨gA, rfl, hgA, rA⟩ := own_msg hO3.a hlt2
              have R1 := Lib.hid (Bel.range rF hgF)
              have R2 := Lib.hid (Bel.range rA hgA)
              have hmF : MsgOk w F[k] := HI.out.2.2.2 _ (HI.out.2.2.1 _ (List.getElem_mem hlt3))
              have hmA : MsgOk w A[j] := HI.out.2.2.2 _ (HI.out.2.2.1 _ (HI.out.2.1 _ (List.getElem_mem hlt2)))
              have hsame : ∀ y : Bel wr, Calls Try.prog 24 #[.agg (msgA F[k]).toList.toArray, .agg (msgA A[j]).toList.toArray] y.val fun e w' => e = .returned (.bool (sameM F[k] A[j])) ∧ Below y.val.heap.size y.val w' :=
                fun y => same_cells _ _ _ ((hmF.below hb3).below y.prop) ((hmA.below hb3).below y.prop)
              have HN3 := Lib.hid (show ∀ q (hq : q < F.length), q < k + 1 → sameM F[q] A[j] = true → (b || sameM F[k] A[j]) = true from fun q hq hq1 hs => by
                by_cases e : q = k
                · subst e; rw [hs]; simp
                · rw [hf q hq (by omega) hs]; rfl)
              have HS := Lib.hid hsame
              have HH := Lib.hid (And.intro hD3 (And.intro hO3 hb3))
              clear hf hD3 hO3 hb3 rF rA hmF hmA hsame
              have HR1 := R1
              generalize hsm : sameM F[k] A[j] = s at *
              cases b
              · go_wp2_with fail
                refine wp_region_bel (by kernel_rfl) (by kernel_rfl) ?_
                repeat (first
                  | (refine wpQuiet_load_want (by rfl) 37 (.tmp 71) rfl gF (k * 6) rfl (msgA F[k]).toList _ R1.out Try.underlying37 rfl (by kernel_rfl) ?_; go_simp)
                  | (refine wpQuiet_load_want (by rfl) 37 (.tmp 75) rfl gA (j * 6) rfl (msgA A[j]).toList _ R2.out Try.underlying37 rfl (by kernel_rfl) ?_; go_simp)
                  | go_big_quiet_step ((go_at_call 24; exact bel_call (HS.out _))))
                refine wpQuiet_nil ?_
                intro x5
                have hq5 := x5.prop
                generalize x5.val = w5 at *
                go_wp2
                exact ⟨⟨k + 1, s, by omega, by go_num, rfl, HN3.out, HH.out.1.below hq5, HH.out.2.1.below hq5, bt HH.out.2.2 hq5⟩, by simp [intOf]; omega⟩
              · go_wp2_with fail
                refine wp_region_bel (by kernel_rfl) (by kernel_rfl) ?_
                repeat (go_big_quiet_step ((fail)))
                refine wpQuiet_nil ?_
                intro w5 hw5
                obtain ⟨x5, rfl⟩ := hw5
                have hq5 := x5.prop
                generalize x5.val = w5 at *
                go_wp2
                exact ⟨⟨k + 1, true, by omega, by go_num, rfl, fun _ _ _ _ => rfl, HH.out.1.below hq5, HH.out.2.1.below hq5, bt HH.out.2.2 hq5⟩, by simp [intOf]; omega⟩
            · have hbool : decide ((k : Int) < (F.length : Int)) = false := by simpa using hlt3
              obtain ⟨q, hq, hqe⟩ := List.mem_iff_getElem.1 (HI.out.2.1 _ (List.getElem_mem hlt2))
              have hbt : b = true := hf q hq (by omega) (by rw [hqe]; exact sameM_self _)
              subst hbt
              obtain ⟨gA, rfl, hgA, rA⟩ := own_msg hO3.a hlt2
              have s1 : wr.cell? ⟨gA, j * 6 + 1, none⟩ = some (.int .u32 ((j : Int) + 1)) := by
                have := rA 1 (.int .u32 (A[j].seq : Int)) rfl
                rw [HI.out.1 j hlt2] at this
                simpa using this
              have HH := Lib.hid (And.intro hD3 (And.intro hO3 hb3))
              clear hf hD3 hO3 hb3 rA hq hqe
              go_wp2
              exact ⟨⟨j + 1, by omega, by go_num, HH.out.1, HH.out.2.1, HH.out.2.2⟩, by simp [intOf]; omega⟩
        · have hbool : decide ((j : Int) < (A.length : Int)) = false := by simpa using hlt2
          obtain rfl : j = A.length := by omega
          clear hbool hlt2 hj
          go_wp2_with fail
          refine (sCount_any D M _ z _ _ hDj).mono ?_
          rintro e w8 ⟨rfl, rfl⟩
          obtain ⟨hn1, hn2, hn3⟩ := HN.out
          subst hn1
          have d1 : decide ((F.length : Int) = (A.length : Int) + (H.length : Int)) = true := by simp; omega
          have d2 : decide ((H.length : Int) ≤ 63) = true := by simp; omega
          go_wp2_with fail
          refine (sHeld_any D M _ z _ _ hDj).mono ?_
          rintro e w9 ⟨rfl, rfl⟩
          go_wp2_with fail
          refine (sHeld_any D M _ z _ _ hDj).mono ?_
          rintro e w9 ⟨rfl, rfl⟩
          go_wp2
          go_ret
          exact ⟨rfl, hbj⟩
end Go.Proofs.Ytodlmboagbjcbaa
