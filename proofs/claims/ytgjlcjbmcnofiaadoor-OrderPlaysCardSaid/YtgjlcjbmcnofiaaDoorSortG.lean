/-
  What the library's stable sort, and the key's Sort, leave of messages, however many.
  Conditions: none.
-/
import Derived.Test.YtgjlcjbmcnofiaaDoorSortF
namespace Go.Proofs.YtgjlcjbmcnofiaaDoor
set_option linter.unusedVariables false
set_option linter.unusedSimpArgs false
open Go.RowKit
theorem one_of_len {L : List Msg} (h : L.length = 1) : ∃ x, L = [x] := by
  rcases L with _ | ⟨x, _ | ⟨y, r⟩⟩
  · simp at h
  · exact ⟨x, rfl⟩
  · simp at h
theorem kMerge_all (g cap n : Nat) (hn1 : n ≤ 1000) : ∀ f, MergeAll g cap n f
  | 0 => fun a m b X L R Y w hf _ _ _ _ _ _ _ _ _ => by omega
  | f + 1 => fun a m b X L R Y w hf hn ha hm hb hl hr hL hR h => by
    by_cases h1 : L.length = 1
    · obtain ⟨x, rfl⟩ := one_of_len h1
      exact kMergeL_any g cap n a m b X R Y x w hn hn1 ha hm hb hR h
    · by_cases h2 : R.length = 1
      · obtain ⟨x, rfl⟩ := one_of_len h2
        exact kMergeR_any g cap n a m b X L Y x w hn hn1 ha hm hb h1 hL h
      · exact kMerge_step g cap n f hn1 (kMerge_all g cap n hn1 f) a m b X L R Y w (by omega) hn ha hm hb (by omega) (by omega) hL hR h
theorem kInsert_at (g cap n a b : Nat) (X L Y : List Msg) (w : World) (hn : n = (X ++ (L ++ Y)).length) (hn1 : n ≤ 1000) (ha : a = X.length) (hb : b = X.length + L.length) {H : List Msg} (hH : H = X ++ (L ++ Y)) (h : RowM w g H) :
    Calls Tryd.prog 102 #[.slice (some ⟨g, 0, none⟩) n cap, .int .i64 a, .int .i64 b, .func (.func 94) #[] #[]] w fun e w' => e = .returned (.tuple #[]) ∧ RowM w' g (X ++ (sortM L ++ Y)) ∧ Kept (fun q => q = g) w w' :=
  kInsert_any g cap n a b X L Y w hn hn1 ha hb (hH ▸ h)
theorem kMerge_at (g cap n a m b : Nat) (X L R Y : List Msg) (w : World) (hn1 : n ≤ 1000) (hn : n = (X ++ (L ++ (R ++ Y))).length) (ha : a = X.length) (hm : m = X.length + L.length) (hb : b = X.length + L.length + R.length) (hl : 0 < L.length) (hr : 0 < R.length) (hL : Srt L) (hR : Srt R)
    {H : List Msg} (hH : H = X ++ (L ++ (R ++ Y))) (h : RowM w g H) : MergeOk g cap n a m b X L R Y w :=
  kMerge_all g cap n hn1 (L.length + R.length + 1) a m b X L R Y w (by omega) hn ha hm hb hl hr hL hR (hH ▸ h)
set_option maxRecDepth 100000 in
set_option maxHeartbeats 4000000 in
theorem kStable_gen (g cap n : Nat) (L : List Msg) (w : World) (hn : n = L.length) (hn1 : n ≤ 1000) (h : RowM w g L) :
    Calls Tryd.prog 99 #[.slice (some ⟨g, 0, none⟩) n cap, .int .i64 n, .func (.func 94) #[] #[]] w fun e w' => e = .returned (.tuple #[]) ∧ RowM w' g (sortM L) ∧ Kept (fun q => q = g) w w' := by
  have HN := Lib.hid hn
  have HH := Lib.hid h
  clear hn h
  go_enter Tryd.func99, Tryd.ntmps99
  go_wp2
  go_loopw [7, 8] (fun i j wr => ∃ (P Q : List Msg) (a b : Nat), i = .int .i64 (a : Int) ∧ j = .int .i64 (b : Int) ∧ Hid (Full 20 P ∧ SameK L (P ++ Q) ∧ a = P.length ∧ b = a + 20) ∧ RowM wr g (P ++ Q) ∧ Kept (fun q => q = g) w wr) (fun _ j _ => n + 1 - (intOf j).toNat)
  case atStart => exact ⟨[], L, 0, 20, rfl, rfl, ⟨.nil, .refl _, rfl, rfl⟩, HH.out, .of_below (br _)⟩
  case round =>
    obtain ⟨P, Q, a, b, rfl, rfl, HI, hr, hK⟩ := hrel
    have ha1 : a ≤ 1000 := by
      have h1 := HI.out.2.1.len; have h2 := HI.out.2.2; have h3 := HN.out
      simp at h1; omega
    have hb1 : b ≤ 1020 := by have := HI.out.2.2; omega
    have hll : n = P.length + Q.length := by
      have h1 := HI.out.2.1.len; have h3 := HN.out
      simp at h1; omega
    have HLL := Lib.hid hll
    clear hll
    by_cases hle : b ≤ n
    · have hbool : decide (b ≤ n) = true := by simpa using hle
      have hl1 : (Q.take 20).length = 20 := by rw [List.length_take]; have := HLL.out; have := HI.out.2.2; omega
      have hl2 : (Q.take 20).length + (Q.drop 20).length = Q.length := by rw [← List.length_append, List.take_append_drop]
      have HC := Lib.hid (kInsert_at g cap n a b P (Q.take 20) (Q.drop 20) wr (by rw [List.take_append_drop, List.length_append]; exact HLL.out) hn1 HI.out.2.2.1 (by have := HI.out.2.2; omega) (by rw [List.take_append_drop]) hr)
      have HE := Lib.hid (show Full 20 (P ++ sortM (Q.take 20)) ∧ SameK L ((P ++ sortM (Q.take 20)) ++ Q.drop 20) ∧ b = (P ++ sortM (Q.take 20)).length ∧ b + 20 = b + 20 from by
        obtain ⟨h1, h2, h3, h4⟩ := HI.out
        refine ⟨h1.snoc (by rw [sortM_len, hl1]) (sortM_srt _), h2.trans ?_, by rw [List.length_append, sortM_len]; omega, rfl⟩
        have e : P ++ Q = P ++ (Q.take 20 ++ Q.drop 20) := by rw [List.take_append_drop]
        rw [e, List.append_assoc]
        exact SameK.app (.refl _) (SameK.app (sortM_same _) (.refl _)))
      clear hr hl1 hl2
      go_wp2_with fail
      refine HC.out.mono ?_
      rintro e5 w5 ⟨rfl, hr5, hK5⟩
      have HZ := Lib.hid (And.intro (hr5.len (l' := (P ++ sortM (Q.take 20)) ++ Q.drop 20) (by simp)) (hK.trans hK5))
      clear hr5 hK5 hK
      go_wp2
      exact ⟨⟨_, _, b, b + 20, rfl, by go_num, ⟨HE.out.1, HE.out.2.1, HE.out.2.2.1, rfl⟩, HZ.out.1, HZ.out.2⟩, by simp [intOf]; omega⟩
    · have hbool : decide (b ≤ n) = false := by simpa using hle
      have HC := Lib.hid (kInsert_at g cap n a n P Q [] wr (by rw [List.append_nil, List.length_append]; exact HLL.out) hn1 HI.out.2.2.1 HLL.out (by simp) hr)
      have HE := Lib.hid (show Blks 20 (P ++ sortM Q) ∧ SameK L (P ++ sortM Q) ∧ 20 ≤ 20 from by
        obtain ⟨h1, h2, h3, h4⟩ := HI.out
        refine ⟨h1.blk (.last (by rw [sortM_len]; have := HLL.out; omega) (sortM_srt _)), h2.trans (SameK.app (.refl _) (sortM_same _)), by omega⟩)
      clear hr hle
      go_wp2_with fail
      refine HC.out.mono ?_
      rintro e5 w5 ⟨rfl, hr5, hK5⟩
      have HZ := Lib.hid (And.intro (hr5.len (l' := P ++ sortM Q) (by simp)) (hK.trans hK5))
      clear hr5 hK5 hK HI HLL
      go_wp2_with fail
      go_loopw [6, 7, 8, 9] (fun i _ _ _ wr => ∃ (M : List Msg) (s : Nat), i = .int .i64 (s : Int) ∧ s ≤ 2000 ∧ Hid (Blks s M ∧ SameK L M ∧ 20 ≤ s) ∧ RowM wr g M ∧ Kept (fun q => q = g) w wr) (fun i _ _ _ _ => n - (intOf i).toNat)
      case atStart => exact ⟨P ++ sortM Q, 20, rfl, by omega, HE.out, HZ.out.1, HZ.out.2⟩
      case round =>
        clear HZ HE HC
        obtain ⟨M, s, rfl, hs2, HM, hr, hK⟩ := hrel
        by_cases hlt : s < n
        · have hbool : decide (s < n) = true := by simpa using hlt
          obtain ⟨s2, hs2e⟩ : ∃ s2 : Nat, (2 : Int) * (s : Int) = (s2 : Int) := ⟨2 * s, by omega⟩
          have hs2e' : (s : Int) * 2 = (s2 : Int) := by omega
          have hs22 : s2 ≤ 2000 := by omega
          have hs2p : s2 = 2 * s := by omega
          have HS2 := Lib.hid hs2p
          have HR := Lib.hid (And.intro hr hK)
          clear hr hK hs2p
          go_wp2_with fail
          go_loopw [7, 8] (fun i j wr => ∃ (P Q : List Msg) (a b : Nat), i = .int .i64 (a : Int) ∧ j = .int .i64 (b : Int) ∧ Hid (Full s2 P ∧ Blks s Q ∧ SameK L (P ++ Q) ∧ a = P.length ∧ b = a + s2) ∧ RowM wr g (P ++ Q) ∧ Kept (fun q => q = g) w wr) (fun _ j _ => n + 1 - (intOf j).toNat)
          case atStart => exact ⟨[], M, 0, s2, by go_num, rfl, ⟨.nil, HM.out.1, HM.out.2.1, rfl, by omega⟩, HR.out.1, HR.out.2⟩
          case round =>
            clear HR
            obtain ⟨P, Q, a, b, rfl, rfl, HI, hr, hK⟩ := hrel
            have hll : n = P.length + Q.length := by
              have h1 := HI.out.2.2.1.len; have h3 := HN.out
              simp at h1; omega
            have ha1 : a ≤ 1000 := by have := HI.out.2.2.2; omega
            have hb1 : b ≤ 3000 := by have := HI.out.2.2.2; omega
            obtain ⟨m, hm⟩ : ∃ m : Nat, (a : Int) + (s : Int) = (m : Int) := ⟨a + s, by omega⟩
            have hm1 : m ≤ 3000 := by omega
            have HLL := Lib.hid hll
            clear hll
            by_cases hle : b ≤ n
            · have hbool3 : decide (b ≤ n) = true := by simpa using hle
              obtain ⟨A, B, R, rfl, hA, hB, sA, sB, hR⟩ := HI.out.2.1.two (by have := HM.out.2.2; omega) (by have := HI.out.2.2.2; have := HLL.out; have := HS2.out; omega)
              have HC := Lib.hid (kMerge_at g cap n a m b P A B R wr hn1 (by have := HLL.out; simp at this ⊢; omega) HI.out.2.2.2.1 (by have := HI.out.2.2.2; omega) (by have := HI.out.2.2.2; have := HS2.out; omega) (by have := HM.out.2.2; omega) (by have := HM.out.2.2; omega) sA sB rfl hr)
              have HE := Lib.hid (show Full s2 (P ++ sortM (A ++ B)) ∧ Blks s R ∧ SameK L ((P ++ sortM (A ++ B)) ++ R) ∧ b = (P ++ sortM (A ++ B)).length ∧ b + s2 = b + s2 from by
                obtain ⟨h1, h2, h3, h4, h5⟩ := HI.out
                have := HS2.out
                refine ⟨h1.snoc (by rw [sortM_len, List.length_append]; omega) (sortM_srt _), hR, h3.trans ?_, by rw [List.length_append, sortM_len, List.length_append]; omega, rfl⟩
                rw [List.append_assoc, ← List.append_assoc A B R]
                exact SameK.app (.refl _) (SameK.app (sortM_same _) (.refl _)))
              have HPos := Lib.hid (show 0 < s2 by have := HM.out.2.2; have := HS2.out; omega)
              clear hr hA hB sA sB hR HI
              unfold MergeOk at HC
              go_wp2_with fail
              refine HC.out.mono ?_
              rintro e5 w5 ⟨rfl, hr5, hK5⟩
              have HZ := Lib.hid (And.intro (hr5.len (l' := (P ++ sortM (A ++ B)) ++ R) (by simp)) (hK.trans hK5))
              clear hr5 hK5 hK
              go_wp2
              exact ⟨⟨_, _, b, b + s2, rfl, by go_num, ⟨HE.out.1, HE.out.2.1, HE.out.2.2.1, HE.out.2.2.2.1, rfl⟩, HZ.out.1, HZ.out.2⟩, by have := HPos.out; simp [intOf]; omega⟩
            · have hbool3 : decide (b ≤ n) = false := by simpa using hle
              by_cases hmn : m < n
              · have hbool4 : decide (m < n) = true := by simpa using hmn
                obtain ⟨A, B, rfl, hA, hB, sA, sB⟩ := HI.out.2.1.few (by have := HI.out.2.2.2; have := HLL.out; have := HS2.out; omega) (by have := HI.out.2.2.2; have := HLL.out; omega)
                have HC := Lib.hid (kMerge_at g cap n a m n P A B [] wr hn1 (by have := HLL.out; simp at this ⊢; omega) HI.out.2.2.2.1 (by have := HI.out.2.2.2; omega) (by have := HLL.out; simp at this; omega) (by have := HM.out.2.2; omega) hB sA sB (by simp) hr)
                have HE := Lib.hid (show Blks s2 (P ++ sortM (A ++ B)) ∧ SameK L (P ++ sortM (A ++ B)) ∧ 20 ≤ s2 from by
                  obtain ⟨h1, h2, h3, h4, h5⟩ := HI.out
                  have := HS2.out
                  have := HM.out.2.2
                  have := HLL.out
                  refine ⟨h1.blk (.last (by rw [sortM_len]; omega) (sortM_srt _)), h3.trans (SameK.app (.refl _) (sortM_same _)), by omega⟩)
                have HPos := Lib.hid (show n - s2 < n - s by have := HM.out.2.2; have := HS2.out; omega)
                clear hr hA hB sA sB HI hle
                unfold MergeOk at HC
                go_wp2_with fail
                refine HC.out.mono ?_
                rintro e5 w5 ⟨rfl, hr5, hK5⟩
                have HZ := Lib.hid (And.intro (hr5.len (l' := P ++ sortM (A ++ B)) (by simp)) (hK.trans hK5))
                clear hr5 hK5 hK
                go_wp2
                exact ⟨⟨_, s2, rfl, hs22, HE.out, HZ.out.1, HZ.out.2⟩, by have := HPos.out; simpa [intOf] using this⟩
              · have hbool4 : decide (m < n) = false := by simpa using hmn
                have HE := Lib.hid (show Blks s2 (P ++ Q) ∧ SameK L (P ++ Q) ∧ 20 ≤ s2 from by
                  obtain ⟨h1, h2, h3, h4, h5⟩ := HI.out
                  have := HS2.out
                  have := HM.out.2.2
                  have := HLL.out
                  refine ⟨h1.blk (.last (by omega) (h2.small (by omega))), h3, by omega⟩)
                have HPos := Lib.hid (show n - s2 < n - s by have := HM.out.2.2; have := HS2.out; omega)
                have HZ := Lib.hid (And.intro hr hK)
                clear hr hK HI hle
                go_wp2
                exact ⟨⟨_, s2, rfl, hs22, HE.out, HZ.out.1, HZ.out.2⟩, by have := HPos.out; simpa [intOf] using this⟩
        · have hbool : decide (s < n) = false := by simpa using hlt
          have e : M = sortM L := sortM_uniq (HM.out.1.small (by have := HM.out.2.1.len; have := HN.out; omega)) HM.out.2.1
          have HZ := Lib.hid (hr.len e)
          clear hr e
          go_wp2
          refine bodyPost_end (results_none rfl _ _ _) rfl ⟨rfl, HZ.out, hK⟩
end Go.Proofs.YtgjlcjbmcnofiaaDoor
