/-
  What the reference's Sort returns of messages.
  Conditions: none.
-/
import Derived.Test.YtgjlcjbmcnofiaaDoorSortH
import Derived.Test.YtgjlcjbmcnofiaaDoorCmpB
namespace Go.Proofs.YtgjlcjbmcnofiaaDoor
set_option linter.unusedVariables false
set_option linter.unusedSimpArgs false
open Go.RowKit
def stepB (x : Msg) (P : List Msg) : Bool := match P.getLast? with | none => false | some p => ltM x p
theorem stepB_snoc (x p : Msg) (P : List Msg) : stepB x (P ++ [p]) = ltM x p := by simp [stepB]
set_option maxRecDepth 100000 in
set_option maxHeartbeats 4000000 in
theorem rSort_any (v : Value) (l : List Msg) (w : World) (h : RowsIn w v l) (hl : l.length ≤ 1000) : Calls Tryd.prog 12 #[v] w fun e w' => OwnEnd w (sortM l) e w' ∧ Below w.heap.size w w' := by
  have HH := Lib.hid h
  obtain ⟨ad, cap, rfl, hr⟩ := h
  obtain ⟨i0, hi, hz0, hz1, hz2⟩ := info_parts info42
  clear hr
  go_enter Tryd.func12, Tryd.ntmps12
  go_wp2
  go_loopw [3, 4, 5, 6] (fun u i _ _ wr => ∃ k : Nat, k ≤ l.length ∧ i = .int .i64 (k : Int) ∧ wr.ownsRow w.heap.size 42 6 u (sortM (l.take k)).length (rowsM (sortM (l.take k))) ∧ Below w.heap.size w wr) (fun _ i _ _ _ => l.length - (intOf i).toNat)
  case atStart => exact ⟨0, by omega, rfl, ⟨rfl, .inl ⟨rfl, rfl⟩⟩, br _⟩
  case round =>
    obtain ⟨k, hk, rfl, ho, hB⟩ := hrel
    by_cases hlt : k < l.length
    · have hbool : decide ((k : Int) < (l.length : Int)) = true := by simpa using hlt
      have hJl : (sortM (l.take k)).length = k := by rw [sortM_len]; simp; omega
      have hnext : sortM (l.take (k + 1)) = insM l[k] (sortM (l.take k)) := by rw [List.take_succ_eq_append_getElem hlt, sortM_snoc]
      have hsrt := sortM_srt (l.take k)
      obtain ⟨x, hx⟩ : ∃ x, x = l[k] := ⟨_, rfl⟩
      obtain ⟨J, hJ⟩ : ∃ J, J = sortM (l.take k) := ⟨_, rfl⟩
      obtain ⟨J2, hJ2⟩ : ∃ J, J = sortM (l.take (k + 1)) := ⟨_, rfl⟩
      rw [← hJ] at hJl hnext hsrt ho
      rw [← hx, ← hJ2] at hnext
      have HNX := Lib.hid (And.intro hnext (And.intro hsrt hJ2))
      have HO := Lib.hid ho
      obtain ⟨cap0, g0, o0, e0, hg0, hrow⟩ := (HH.out.below hB).msg hlt
      rw [← hx] at hrow
      injection e0 with e0 e1 e2
      subst e0
      subst e2
      clear e1
      obtain ⟨ad3, cap3, rfl⟩ := ownForm ho
      have hJ1 : J.length ≤ 1000 := by omega
      have hk1 : k ≤ 1000 := by omega
      have hi0 : (k : Int) < (l.length : Int) := by omega
      have HJL := Lib.hid hJl
      have HW := Lib.hid (And.intro hrow (And.intro hg0 hB))
      have HKL := Lib.hid hlt
      clear hJ hJ2 hx hnext hsrt ho hrow hg0 hB hJl hlt
      go_wp2_with fail
      obtain ⟨wo, rfl⟩ : ∃ wo : World, wo = wr := ⟨_, rfl⟩
      go_loopw [5] (fun i wx => ∃ (P1 P2 : List Msg) (t : Nat), i = .int .i64 (t : Int) ∧ Hid (J = P1 ++ P2 ∧ t = P1.length ∧ ∀ q ∈ P2, ltM x q = true) ∧ Below wo.heap.size wo wx) (fun i _ => (intOf i).toNat)
      case atStart => exact ⟨J, [], J.length, rfl, ⟨by simp, rfl, by simp⟩, br _⟩
      case round =>
        obtain ⟨P1, P2, t, rfl, HT, hb⟩ := hrel
        have ht1 : t ≤ 1000 := by
          have h1 := congrArg List.length HT.out.1
          have := HT.out.2.1
          rw [List.length_append] at h1
          omega
        obtain ⟨q, hq⟩ : ∃ q, q = stepB x P1 := ⟨_, rfl⟩
        have HQ := Lib.hid hq
        clear hq
        go_upto_region 6 with (fail)
        go_cut [30] (fun r wx => r = .bool q ∧ Below wo.heap.size wo wx)
        case first =>
          rcases List.eq_nil_or_concat P1 with rfl | ⟨P1', p, rfl⟩
          · obtain rfl : t = 0 := HT.out.2.1
            have hq : q = false := HQ.out
            subst hq
            have HB := Lib.hid hb
            clear hb
            refine wp_region_bel (by kernel_rfl) (by kernel_rfl) ?_
            repeat (go_big_quiet_step ((fail)))
            refine wpQuiet_nil ?_
            intro w5 hw5
            obtain ⟨x5, rfl⟩ := hw5
            have hb5 := bt HB.out x5.prop
            generalize x5.val = w5 at *
            go_wp2
            go_meet
            exact ⟨rfl, hb5⟩
          · rw [List.concat_eq_append] at *
            obtain ⟨c, hc⟩ : ∃ c, c = P1'.length := ⟨_, rfl⟩
            have ht : t = c + 1 := by have := HT.out.2.1; simp at this; omega
            have e1 : (t : Int) - 1 = (c : Int) := by omega
            have d1 : decide (0 < t) = true := by simp; omega
            have d1' : decide ((0 : Int) < (t : Int)) = true := by simp; omega
            have hcJ : c < J.length := by rw [HT.out.1]; simp; omega
            have hJc : J[c] = p := by
              have h1 := HT.out.1
              subst h1
              simp [hc]
            have hi1 : (c : Int) < (J.length : Int) := by omega
            obtain ⟨g3, rfl, hg3, hrow3⟩ := own_msg HO.out hcJ
            rw [hJc] at hrow3
            have R1 := Lib.hid (Bel.range (w := wr) (b := g0) (o := o0 + k * 6) (cs := (msgA x).toList) (fun j u hu => (hb.cell (p := ⟨g0, o0 + k * 6 + j, none⟩) HW.out.2.1).trans (HW.out.1 j u hu)) (Nat.lt_of_lt_of_le HW.out.2.1 hb.size))
            have R2 := Lib.hid (Bel.range (w := wr) (b := g3) (o := c * 6) (cs := (msgA p).toList) (fun j u hu => (hb.cell (p := ⟨g3, c * 6 + j, none⟩) hg3).trans (hrow3 j u hu)) (Nat.lt_of_lt_of_le hg3 hb.size))
            have HO1 := Lib.hid (fun (W : World) => rOf_any x W)
            have HO2 := Lib.hid (fun (W : World) => rOf_any p W)
            obtain ⟨v, hv⟩ : ∃ v, ltB x.stamp x.frm p.stamp p.frm = v := ⟨_, rfl⟩
            have HL := Lib.hid (fun (W : World) => rLess_any x.stamp x.frm p.stamp p.frm W)
            rw [hv] at HL
            rw [ltB_ltM] at hv
            have HV := Lib.hid (And.intro hv (And.intro hc ht))
            have HB := Lib.hid hb
            clear hv hc ht hcJ hJc hg3 hrow3 hb
            refine wp_region_bel (by kernel_rfl) (by kernel_rfl) ?_
            repeat (first
              | (refine wpQuiet_load_want (by rfl) 42 (.tmp 20) rfl g0 (o0 + k * 6) rfl (msgA x).toList _ R1.out Tryd.underlying42 rfl (by kernel_rfl) ?_; go_simp)
              | (refine wpQuiet_load_want (by rfl) 42 (.tmp 26) rfl g3 (c * 6) rfl (msgA p).toList _ R2.out Tryd.underlying42 rfl (by kernel_rfl) ?_; go_simp)
              | go_big_quiet_step ((first | (go_at_call 39; exact bel_call (HO1.out _)) | (go_at_call 39; exact bel_call (HO2.out _)) | (go_at_call 38; exact bel_call (HL.out _)))))
            refine wpQuiet_nil ?_
            intro x5
            have hb5 := bt HB.out x5.prop
            generalize x5.val = w5 at *
            go_wp2
            go_meet
            exact ⟨congrArg Value.bool (by rw [HQ.out, stepB_snoc]; exact HV.out.1.symm), hb5⟩
        case rest =>
          obtain ⟨rfl, hb6⟩ := hcut
          cases q
          · have hJ1 : J = P1 ++ P2 := HT.out.1
            have hJ2 : J.take t = P1 := by rw [hJ1, HT.out.2.1]; simp
            have hJ3 : J.drop t = P2 := by rw [hJ1, HT.out.2.1]; simp
            have htJ : t ≤ J.length := by rw [hJ1, HT.out.2.1]; simp
            have hp1 : ∀ y ∈ P1, ltM x y = false := by
              have hq := HQ.out
              rcases List.eq_nil_or_concat P1 with rfl | ⟨P1', p, rfl⟩
              · simp
              · rw [List.concat_eq_append, stepB_snoc] at hq
                have hs : Srt (P1' ++ [p]) := by
                  have := HNX.out.2.1
                  rw [hJ1, List.concat_eq_append] at this
                  exact (List.pairwise_append.1 this).1
                intro y hy
                rw [ltM_not]
                have hpx := (ltM_not x p).1 hq.symm
                rw [List.concat_eq_append] at hy
                rcases List.mem_append.1 hy with h | h
                · exact fun hh => hpx (lt_le hh ((List.pairwise_append.1 hs).2.2 y h p (by simp)))
                · simp at h
                  rw [h]; exact hpx
            have hsp : J2 = P1 ++ x :: P2 := by
              have h2 := HNX.out.2.1
              rw [hJ1] at h2
              rw [HNX.out.1, hJ1, insM_split (List.pairwise_append.1 h2).1 HT.out.2.2 hp1]
            have hro := (Reads.of_own HO.out).below hb6
            have hr1 := reads_take hro htJ
            have hc3 : J.length ≤ cap3 := (by
              rcases HO.out.2 with ⟨e, h0⟩ | ⟨g, cap, cur, e, _, _, h1, _⟩
              · injection e with _ _ e3; omega
              · injection e with _ _ e3; omega)
            have hw7 := hb6.size
            have hr2 := reads_drop (cap := cap3) hro htJ hc3
            rw [hJ2] at hr1
            rw [hJ3] at hr2
            have e5 : t ≤ cap3 := by omega
            have e7 : (t : Int) ≤ (cap3 : Int) := by omega
            have e8 : (t : Int) ≤ (J.length : Int) := by omega
            have HR12 := Lib.hid (And.intro hr1 hr2)
            clear hJ1 hJ2 hJ3 hp1 hro hr1 hr2
            have hbw := HW.out.2.2.trans (hb6.mono HW.out.2.2.size)
            have hzc := hbw.size
            go_wp2_with (at_builtin; refine wpList_append_any _ rfl (.tmp 33) (.tmp 36) 27 rfl w.heap.size 42 i0 _ 6 72 Tryd.underlying27 hi hz0 hz1 hz2 rfl (by decide) (.slice none 0 0) 0 [] rfl ⟨rfl, .inl ⟨rfl, rfl⟩⟩ wo.heap.size ad3 t cap3 _ rfl HR12.out.1 (rowsM_one _) ?c3 ?c4 ?c5 ?_)
            case c3 => unfold maxLen; omega
            case c4 => omega
            case c5 => exact hzc
            intro v7 w7 ho7 hg7 hu7
            have hbc7 : Below wc.heap.size wc w7 := grownB (br wc) (Nat.le_refl _) hg7 (by intro b hb; cases hb)
            have hb7 := hbw.trans (hbc7.mono hbw.size)
            have hr7 := HR12.out.2.below (hbc7.mono (Nat.le_trans hb6.size (Nat.le_refl _)))
            have hrow7 : w7.rangeAt g0 (o0 + k * 6) (msgA x).toList := fun j u hu => ((hb6.trans (hbc7.mono hb6.size)).cell (p := ⟨g0, o0 + k * 6 + j, none⟩) HW.out.2.1).trans (HW.out.1 j u hu)
            have x0 : w7.cell? ⟨g0, o0 + k * 6, none⟩ = some (.int .i64 x.frm) := hrow7 0 _ rfl
            have x1 : w7.cell? ⟨g0, o0 + k * 6 + 1, none⟩ = some (.int .u32 (x.seq : Int)) := hrow7 1 _ rfl
            have x2 : w7.cell? ⟨g0, o0 + k * 6 + 2, none⟩ = some (.int .u64 (x.stamp : Int)) := hrow7 2 _ rfl
            have x3 : w7.cell? ⟨g0, o0 + k * 6 + 3, none⟩ = some (.int .i64 x.service) := hrow7 3 _ rfl
            have x4 : w7.cell? ⟨g0, o0 + k * 6 + 4, none⟩ = some (.slice x.da x.ds.length x.dc) := hrow7 4 _ rfl
            have x5 : w7.cell? ⟨g0, o0 + k * 6 + 5, none⟩ = some (.string x.pay) := hrow7 5 _ rfl
            have hg7b : ∀ b, v7.ownBlock = some b → wo.heap.size ≤ b := fun b hb => by
              rcases hu7 with h | h
              · rw [h] at hb; cases hb
              · rw [h] at hb; injection hb with hb; have := hb6.size; omega
            have HR7 := Lib.hid (And.intro ho7 (And.intro hb7 (And.intro hr7 (And.intro hbc7 hg7b))))
            clear hg7b hbw hg7 hu7 ho7 hb7 hr7 hrow7 hbc7 hzc
            have hz7 := HR7.out.2.1.size
            go_wp2_with (at_builtin; go_loud (refine wpList_append_any _ rfl (.tmp 38) (.tmp 43) 27 rfl w.heap.size 42 i0 _ 6 72 Tryd.underlying27 hi hz0 hz1 hz2 rfl (by decide) v7 t (rowsM P1) rfl (HR7.out.1.alloc _) (w7.heap.size + 1) (some ⟨w7.heap.size, 0, none⟩) 1 1 (msgA x).toList rfl (reads_new w7 x) (msgA_one x) ?d3 ?d4 ?d5 ?_))
            case d3 => unfold maxLen; omega
            case d4 => omega
            case d5 => simp; omega
            intro v8 w8 ho8 hg8 hu8
            clear x0 x1 x2 x3 x4 x5
            have hzo : wo.heap.size ≤ w7.heap.size := Nat.le_trans hw7 HR7.out.2.2.2.1.size
            have hb78 : Below wo.heap.size w7 w8 := grownB ((ba (br w7) _).mono hzo) (Nat.le_trans hzo (ba (br w7) _).size) hg8 (fun b hb => HR7.out.2.2.2.2 b hb)
            have hbw8 : Below w.heap.size w w8 := grownB (HR7.out.2.1.trans ((ba (br w7) _).mono hz7)) (Nat.le_trans hz7 (ba (br w7) _).size) hg8 (fun b hb => (HR7.out.1.lt b hb).1)
            have hz8 := hbw8.size
            have H8 := Lib.hid (And.intro ho8 (And.intro hb78 hbw8))
            clear hg8 hu8 ho8 hb78 hbw8 hzo
            go_wp2_with (at_builtin; refine wpList_append_any _ rfl (.tmp 45) (.tmp 48) 27 rfl w.heap.size 42 i0 _ 6 72 Tryd.underlying27 hi hz0 hz1 hz2 rfl (by decide) v8 (t + 1) (rowsM P1 ++ (msgA x).toList) rfl H8.out.1 wo.heap.size _ (J.length - t) (cap3 - t) (rowsM P2) rfl (HR7.out.2.2.1.keep fun p hp => H8.out.2.1.cell hp) (rowsM_one _) (by unfold maxLen; omega) (by omega) hz8 ?_)
            all_goals
              intro v9 w9 ho9 hg9 hu9
              have hbw9 : Below w.heap.size w w9 := grownB H8.out.2.2 hz8 hg9 (fun b hb => (H8.out.1.lt b hb).1)
              have hown : w9.ownsRow w.heap.size 42 6 v9 (sortM (l.take (k + 1))).length (rowsM (sortM (l.take (k + 1)))) := by
                rw [← HNX.out.2.2]
                have e1 : J2.length = t + 1 + (J.length - t) := by
                  have := congrArg List.length hsp
                  have h2 := congrArg List.length HT.out.1
                  have h3 := HT.out.2.1
                  simp at this h2
                  omega
                have e2 : rowsM J2 = rowsM P1 ++ ((msgA x).toList ++ rowsM P2) := by
                  rw [hsp, rowsM_append]; rfl
                rw [e1, e2]
                exact ho9
              have HE := Lib.hid (And.intro hown (And.intro hbw9 HKL.out))
              clear ho9 hg9 hu9 hbw9 hown
              go_wp2
              exact ⟨⟨k + 1, HE.out.2.2, by go_num, HE.out.1, HE.out.2.1⟩, measI HE.out.2.2⟩
          · rcases List.eq_nil_or_concat P1 with rfl | ⟨P1', p, rfl⟩
            · exact absurd HQ.out (by simp [stepB])
            · obtain ⟨c, hc⟩ : ∃ c, c = P1'.length := ⟨_, rfl⟩
              have ht : t = c + 1 := by have := HT.out.2.1; simp at this; omega
              have e1 : (t : Int) - 1 = (c : Int) := by omega
              have HE := Lib.hid (show J = P1' ++ (p :: P2) ∧ c = P1'.length ∧ ∀ q ∈ p :: P2, ltM x q = true from ⟨by rw [HT.out.1]; simp, hc, by
                intro q hq
                rcases List.mem_cons.1 hq with e | e
                · have := HQ.out
                  rw [List.concat_eq_append, stepB_snoc] at this
                  rw [e]; exact this.symm
                · exact HT.out.2.2 q e⟩)
              have HM := Lib.hid (show c < t by omega)
              clear hc ht
              go_wp2_with fail
              exact ⟨⟨P1', p :: P2, c, rfl, HE.out, hb6⟩, measL HM.out⟩
    · have hbool : decide ((k : Int) < (l.length : Int)) = false := by simpa using hlt
      have HO := Lib.hid (show OwnEnd w (sortM l) (.returned u3) wr from ⟨_, rfl, by rw [List.take_of_length_le (by omega)] at ho; exact ho⟩)
      clear ho
      go_wp2
      go_ret
      exact ⟨HO.out, hB⟩
end Go.Proofs.YtgjlcjbmcnofiaaDoor
