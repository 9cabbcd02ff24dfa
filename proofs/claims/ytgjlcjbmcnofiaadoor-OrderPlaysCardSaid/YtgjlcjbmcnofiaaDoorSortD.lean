/-
  What the library's insertion sort leaves of messages.
  Conditions: none.
-/
import Derived.Test.YtgjlcjbmcnofiaaDoorSortA
import Derived.Test.YtgjlcjbmcnofiaaDoorSortC
namespace Go.Proofs.YtgjlcjbmcnofiaaDoor
set_option linter.unusedVariables false
set_option linter.unusedSimpArgs false
open Go.RowKit
/-- a message's cells, each there and free -/
theorem rowM_cells {W : World} {g : Nat} {A B : List Msg} {p : Msg} (h : RowM W g (A ++ p :: B)) (i : Nat) (hi : i = A.length) :
    ((W.cell? ⟨g, i * 6, none⟩ = some (.int .i64 p.frm) ∧ W.frozen? ⟨g, i * 6, none⟩ = false) ∧
     (W.cell? ⟨g, i * 6 + 1, none⟩ = some (.int .u32 (p.seq : Int)) ∧ W.frozen? ⟨g, i * 6 + 1, none⟩ = false) ∧
     (W.cell? ⟨g, i * 6 + 2, none⟩ = some (.int .u64 (p.stamp : Int)) ∧ W.frozen? ⟨g, i * 6 + 2, none⟩ = false)) ∧
    ((W.cell? ⟨g, i * 6 + 3, none⟩ = some (.int .i64 p.service) ∧ W.frozen? ⟨g, i * 6 + 3, none⟩ = false) ∧
     (W.cell? ⟨g, i * 6 + 4, none⟩ = some (.slice p.da p.ds.length p.dc) ∧ W.frozen? ⟨g, i * 6 + 4, none⟩ = false) ∧
     (W.cell? ⟨g, i * 6 + 5, none⟩ = some (.string p.pay) ∧ W.frozen? ⟨g, i * 6 + 5, none⟩ = false)) := by
  have r := h.one i hi
  have t : W.there g (i * 6) 6 := h.some (by rw [hi]; simp)
  exact ⟨⟨⟨r 0 _ rfl, (t 0 (by omega)).2⟩, ⟨r 1 _ rfl, (t 1 (by omega)).2⟩, ⟨r 2 _ rfl, (t 2 (by omega)).2⟩⟩, ⟨r 3 _ rfl, (t 3 (by omega)).2⟩, ⟨r 4 _ rfl, (t 4 (by omega)).2⟩, ⟨r 5 _ rfl, (t 5 (by omega)).2⟩⟩
theorem rowM_bel {W : World} {g : Nat} {A B : List Msg} {p : Msg} (h : RowM W g (A ++ p :: B)) (i : Nat) (hi : i = A.length) : ∀ w' : World, (∃ x : Bel W, w' = x.val) → w'.rangeAt g (i * 6) (msgA p).toList :=
  Bel.range (h.one i hi) h.lt
set_option maxRecDepth 100000 in
set_option maxHeartbeats 2000000 in
theorem kInsert_any (g cap n a b : Nat) (X L Y : List Msg) (w : World) (hn : n = (X ++ (L ++ Y)).length) (hn1 : n ≤ 1000) (ha : a = X.length) (hb : b = X.length + L.length) (h : RowM w g (X ++ (L ++ Y))) :
    Calls Tryd.prog 102 #[.slice (some ⟨g, 0, none⟩) n cap, .int .i64 a, .int .i64 b, .func (.func 94) #[] #[]] w fun e w' => e = .returned (.tuple #[]) ∧ RowM w' g (X ++ (sortM L ++ Y)) ∧ Kept (fun q => q = g) w w' := by
  have ha1 : a ≤ 1000 := by rw [hn] at hn1; simp at hn1; omega
  have hb1 : b ≤ 1000 := by rw [hn] at hn1; simp at hn1; omega
  have HH := Lib.hid (And.intro hn (And.intro ha (And.intro hb h)))
  clear hn ha hb h
  go_enter Tryd.func102, Tryd.ntmps102
  go_wp2
  go_loopw [8, 9] (fun i j wr => ∃ (P Q : List Msg) (k : Nat), i = .int .i64 (k : Int) ∧ Hid (L = P ++ Q ∧ k = a + max 1 P.length ∧ (L ≠ [] → 0 < P.length)) ∧ RowM wr g (X ++ (sortM P ++ (Q ++ Y))) ∧ Kept (fun q => q = g) w wr) (fun i _ _ => b - (intOf i).toNat)
  case atStart =>
    obtain ⟨hn, ha, hb, h⟩ := HH.out
    rcases L with _ | ⟨x, L⟩
    · exact ⟨[], [], a + 1, by go_num, ⟨by simp, by simp, by simp⟩, h, .of_below (br _)⟩
    · exact ⟨[x], L, a + 1, by go_num, ⟨by simp, by simp, by simp⟩, h, .of_below (br _)⟩
  case round =>
    obtain ⟨P, Q, k, rfl, HI, hr, hK⟩ := hrel
    by_cases hlt : k < b
    · have hbool : decide ((k : Int) < (b : Int)) = true := by simpa using hlt
      obtain ⟨x, Q', rfl⟩ : ∃ x Q', Q = x :: Q' := by
        rcases Q with _ | ⟨x, Q'⟩
        · obtain ⟨h1, h2, h3⟩ := HI.out
          obtain ⟨_, g2, g3, _⟩ := HH.out
          subst h1
          simp only [List.append_nil] at g3
          omega
        · exact ⟨_, _, rfl⟩
      have HR := Lib.hid (And.intro hr hK)
      have HI2 := Lib.hid (show L = (P ++ [x]) ++ Q' ∧ k + 1 = a + max 1 (P ++ [x]).length ∧ (L ≠ [] → 0 < (P ++ [x]).length) from by
        obtain ⟨h1, h2, h3⟩ := HI.out
        have : 0 < P.length := h3 (by rw [h1]; simp)
        exact ⟨by rw [h1]; simp, by simp; omega, by simp⟩)
      clear hr hK
      go_wp2
      go_loopw [9] (fun j wr => ∃ (P1 P2 : List Msg) (t : Nat), j = .int .i64 (t : Int) ∧ Hid (sortM P = P1 ++ P2 ∧ t = a + P1.length ∧ ∀ q ∈ P2, ltM x q = true) ∧ RowM wr g (X ++ (P1 ++ x :: (P2 ++ (Q' ++ Y)))) ∧ Kept (fun q => q = g) w wr) (fun j _ => (intOf j).toNat)
      case atStart =>
        obtain ⟨h1, h2, h3⟩ := HI.out
        refine ⟨sortM P, [], k, rfl, ⟨by simp, ?_, by simp⟩, HR.out.1.len (by simp), HR.out.2⟩
        rw [sortM_len]
        have : 0 < P.length := h3 (by rw [h1]; simp)
        omega
      case round =>
        obtain ⟨P1, P2, t, rfl, HT, hr, hK⟩ := hrel
        have HN := Lib.hid (show sortM (P ++ [x]) = insM x (P1 ++ P2) from by rw [sortM_snoc, HT.out.1])
        have hs : Srt (P1 ++ P2) := HT.out.1 ▸ sortM_srt P
        have hs1 : Srt P1 := (List.pairwise_append.1 hs).1
        rcases List.eq_nil_or_concat P1 with rfl | ⟨P1', p, rfl⟩
        · have e0 : t = a := by have := HT.out.2.1; simpa using this
          subst e0
          have d1 : decide ((t : Int) < (t : Int)) = false := by simp
          have hz := hr.len (l' := X ++ (sortM (P ++ [x]) ++ (Q' ++ Y))) (by rw [HN.out, insM_split (P := []) .nil HT.out.2.2 (by simp)]; simp)
          have HZ := Lib.hid (And.intro hz hK)
          clear hr hK hz hs hs1
          go_wp2_with fail
          refine wp_region_bel (by kernel_rfl) (by kernel_rfl) ?_
          repeat (go_big_quiet_step ((fail)))
          refine wpQuiet_nil ?_
          intro w5 hw5
          obtain ⟨x5, rfl⟩ := hw5
          have HB := Lib.hid x5.prop
          generalize x5.val = w5 at *
          go_wp2
          exact ⟨⟨P ++ [x], Q', k + 1, by go_num, HI2.out, HZ.out.1.below HB.out, HZ.out.2.trans (.of_below HB.out)⟩, measI hlt⟩
        · rw [List.concat_eq_append] at *
          obtain ⟨c, hc⟩ : ∃ c, c = a + P1'.length := ⟨_, rfl⟩
          have ht : t = c + 1 := by have := HT.out.2.1; simp at this; omega
          have hr1 := hr.len (l' := (X ++ P1') ++ p :: ([] ++ x :: (P2 ++ (Q' ++ Y)))) (by simp)
          have hr2 := hr.len (l' := (X ++ (P1' ++ [p])) ++ x :: (P2 ++ (Q' ++ Y))) (by simp)
          have hax : a = X.length := HH.out.2.1
          have hcx : c = (X ++ P1').length := by simp; omega
          have htx : t = (X ++ (P1' ++ [p])).length := by simp; omega
          have htn : t < n := by
            obtain ⟨h1, h2, h3⟩ := HI.out
            obtain ⟨g1, g2, g3, _⟩ := HH.out
            have h4 := congrArg List.length HT.out.1
            rw [sortM_len] at h4
            rw [h1] at g1
            simp at h4 g1
            omega
          have R1 := Lib.hid (rowM_bel hr1 c hcx)
          have R2 := Lib.hid (rowM_bel hr2 t htx)
          have e1 : (t : Int) - 1 = (c : Int) := by omega
          have d1 : decide (a < t) = true := by simp; omega
          have hl : (msgA default).toList.length = 6 := rfl
          have hi1 : (c : Int) < (n : Int) := by omega
          have hi2 : (t : Int) < (n : Int) := by omega
          have HL := Lib.hid (fun (W : World) => kLess_any x p W)
          obtain ⟨v, hv⟩ : ∃ v, keyZ x.stamp x.frm p.stamp p.frm = v := ⟨_, rfl⟩
          have hlt2 : ltM x p = decide (v < 0) := by unfold ltM; rw [hv]
          rw [hv] at HL
          have HX := Lib.hid (And.intro hr (And.intro hK (And.intro hs1 (And.intro hlt2 (And.intro ht (And.intro hcx hc))))))
          clear hr hK hs hs1 hlt2 hr1 hr2 ht hcx htx htn hax hc hv
          go_wp2_with fail
          refine wp_region_bel (by kernel_rfl) (by kernel_rfl) ?_
          repeat (first
            | (refine wpQuiet_load_want (by rfl) 42 (.tmp 25) rfl g (t * 6) rfl (msgA x).toList _ R2.out Tryd.underlying42 rfl (by kernel_rfl) ?_; go_simp)
            | (refine wpQuiet_load_want (by rfl) 42 (.tmp 30) rfl g (c * 6) rfl (msgA p).toList _ R1.out Tryd.underlying42 rfl (by kernel_rfl) ?_; go_simp)
            | go_big_quiet_step ((go_at_call 94; exact bel_call (HL.out _))))
          refine wpQuiet_nil ?_
          intro x5
          have hb5 := x5.prop
          generalize x5.val = w5 at *
          obtain ⟨hr, hK, hs1, hlt2, ht, hcx, hc⟩ := HX.out
          have hr5 := hr.below hb5
          have hK5 := hK.trans (Kept.of_below (S := fun q => q = g) hb5)
          by_cases hv0 : v < 0
          · have d2 : decide (v < 0) = true := by simpa using hv0
            have hr6 := hr5.len (l' := (X ++ P1') ++ p :: ([] ++ x :: (P2 ++ (Q' ++ Y)))) (by simp)
            have hr7 := hr5.len (l' := (X ++ (P1' ++ [p])) ++ x :: (P2 ++ (Q' ++ Y))) (by simp)
            obtain ⟨⟨⟨y0, yf0⟩, ⟨y1, yf1⟩, ⟨y2, yf2⟩⟩, ⟨y3, yf3⟩, ⟨y4, yf4⟩, ⟨y5, yf5⟩⟩ := rowM_cells hr6 c hcx
            obtain ⟨⟨⟨z0, zf0⟩, ⟨z1, zf1⟩, ⟨z2, zf2⟩⟩, ⟨z3, zf3⟩, ⟨z4, zf4⟩, ⟨z5, zf5⟩⟩ := rowM_cells hr7 t (by simp at hcx ⊢; omega)
            have hap : c * 6 + 6 ≤ t * 6 := by omega
            have hs1 := hr6.swap' c t hcx (by rw [← hcx]; simp; omega)
            have hk1 := ((keptSetCells g (msgA p).toList (t * 6) w5).trans (keptSetCells g (msgA x).toList (c * 6) _))
            rw [putM_eq, putM_eq] at hs1 hk1
            have hz := And.intro hs1.drew (hK5.trans hk1).drew
            simp only [putM] at hz
            have HS1 := Lib.hid hz
            have HT2 := Lib.hid (show sortM P = P1' ++ (p :: P2) ∧ c = a + P1'.length ∧ ∀ q ∈ p :: P2, ltM x q = true from ⟨by rw [HT.out.1]; simp, hc, by
              intro q hq
              rcases List.mem_cons.1 hq with e | e
              · rw [e, hlt2, d2]
              · exact HT.out.2.2 q e⟩)
            have HLT := Lib.hid (show c < t by omega)
            clear hr6 hr7 hs1 hz hk1 hK hK5 hr hr5 hb5 ht hcx hc hlt2
            have mixed : Tryd.prog.follows .mixedOrders = true := by kernel_rfl
            go_wp2_with fail
            go_big_region_o
            go_wp2
            exact ⟨⟨P1', p :: P2, c, rfl, HT2.out, HS1.out.1.len (by simp), HS1.out.2⟩, measL HLT.out⟩
          · have d2 : decide (v < 0) = false := by simpa using hv0
            have hz := hr5.len (l' := X ++ (sortM (P ++ [x]) ++ (Q' ++ Y))) (by
              rw [HN.out, insM_split hs1 HT.out.2.2 ?_]
              · simp
              · intro y hy
                rw [ltM_not]
                have hpx := (ltM_not x p).1 (by rw [hlt2, d2])
                rcases List.mem_append.1 hy with h | h
                · have := (List.pairwise_append.1 hs1).2.2 y h p (by simp)
                  exact fun hh => hpx (lt_le hh this)
                · simp at h
                  rw [h]; exact hpx)
            have HZ := Lib.hid (And.intro hz hK5)
            clear hr hK hs1 hlt2 ht hcx hc hr5 hK5 hz hb5
            go_wp2
            exact ⟨⟨P ++ [x], Q', k + 1, by go_num, HI2.out, HZ.out.1, HZ.out.2⟩, measI hlt⟩
    · have hbool : decide ((k : Int) < (b : Int)) = false := by simpa using hlt
      have hz := hr.len (l' := X ++ (sortM L ++ Y)) (by
        obtain ⟨h1, h2, h3⟩ := HI.out
        obtain ⟨_, g2, g3, _⟩ := HH.out
        rw [h1] at g3 h3
        rcases Q with _ | ⟨x, Q'⟩
        · rw [h1]; simp
        · have := h3 (by simp)
          simp at g3
          omega)
      have HZ := Lib.hid hz
      clear hr hz
      go_wp2
      refine bodyPost_end (results_none rfl _ _ _) rfl ⟨rfl, HZ.out, hK⟩
end Go.Proofs.YtgjlcjbmcnofiaaDoor
