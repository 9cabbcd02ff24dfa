/-
  The law KeyTurned.
  Conditions: none.
-/
import Derived.Test.YtodlmboagbjcbaaKeyH
import Derived.Test.YtodlmboagbjcbaaKeyG
namespace Go.Proofs.Ytodlmboagbjcbaa
set_option linter.unusedVariables false
set_option linter.unusedSimpArgs false
open Go.RowKit
theorem info56 : (Try.prog.info? 56).map (fun i => (i.zero, i.size, i.bytes)) = some (some (.agg #[.int .u64 0, .int .i64 0]), 2, 16) := by kernel_rfl
theorem info58 : (Try.prog.info? 58).map (fun i => (i.zero, i.size, i.bytes)) = some (some (.agg #[.int .u64 0, .int .i64 0]), 2, 16) := by kernel_rfl
theorem keysV_snoc (X : List (Int × Int)) (x : Int × Int) : keysV (X ++ [x]) = keysV X ++ [.int .u64 x.1, .int .i64 x.2] := by unfold keysV; simp
def pickL (l : List (Int × Int)) (f : Nat → Nat) (k : Nat) : List (Int × Int) := (List.range k).map fun i => l[f i]!
theorem pickL_succ (l : List (Int × Int)) (f : Nat → Nat) (k : Nat) (h : f k < l.length) : pickL l f (k + 1) = pickL l f k ++ [l[f k]] := by
  unfold pickL
  rw [List.range_succ, List.map_append]
  show _ ++ [l[f k]!] = _
  rw [getElem!_pos l (f k) h]
theorem pickL_len (l : List (Int × Int)) (f : Nat → Nat) (k : Nat) : (pickL l f k).length = k := by unfold pickL; simp
theorem pickL_at (l : List (Int × Int)) (f : Nat → Nat) (k i : Nat) (h : i < (pickL l f k).length) (hf : f i < l.length) : (pickL l f k)[i] = l[f i] := by
  simp only [pickL, List.getElem_map, List.getElem_range]
  exact getElem!_pos l (f i) hf
theorem turn_back (n t j : Nat) (hj : j < n) : ∃ i, i < n ∧ (i + t) % n = j := by
  refine ⟨(j + (n - t % n)) % n, Nat.mod_lt _ (by omega), ?_⟩
  have h := Nat.mod_lt t (show 0 < n by omega)
  rw [Nat.mod_add_mod, ← Nat.add_mod_mod, show j + (n - t % n) + t % n = j + n by omega, Nat.add_mod_right]
  exact Nat.mod_eq_of_lt hj
theorem turned_same (l : List (Int × Int)) (T : Nat) : bestK (pickL l (fun i => (i + T) % l.length) l.length) l.length = bestK l l.length := by
  have h := bestK_same l (pickL l (fun i => (i + T) % l.length) l.length) (by rw [pickL_len]) ?_ ?_
  · rwa [pickL_len] at h
  · intro j hj
    obtain ⟨i, hi, e⟩ := turn_back l.length T j hj
    refine ⟨i, by rw [pickL_len]; exact hi, ?_⟩
    rw [pickL_at _ _ _ _ _ (by show (i + T) % l.length < _; rw [e]; exact hj)]
    simp only [e]
  · intro i hi
    rw [pickL_len] at hi
    have hm : (i + T) % l.length < l.length := Nat.mod_lt _ (by omega)
    exact ⟨_, hm, (pickL_at l (fun i => (i + T) % l.length) l.length i (by rw [pickL_len]; exact hi) hm).symm⟩
theorem back_same (l : List (Int × Int)) : bestK (pickL l (fun i => l.length - 1 - i) l.length) l.length = bestK l l.length := by
  have h := bestK_same l (pickL l (fun i => l.length - 1 - i) l.length) (by rw [pickL_len]) ?_ ?_
  · rwa [pickL_len] at h
  · intro j hj
    refine ⟨l.length - 1 - j, by rw [pickL_len]; omega, ?_⟩
    rw [pickL_at _ _ _ _ _ (by show l.length - 1 - (l.length - 1 - j) < _; omega)]
    have e : l.length - 1 - (l.length - 1 - j) = j := by omega
    simp only [e]
  · intro i hi
    rw [pickL_len] at hi
    have hm : l.length - 1 - i < l.length := by omega
    exact ⟨_, hm, (pickL_at l (fun i => l.length - 1 - i) l.length i (by rw [pickL_len]; exact hi) hm).symm⟩
theorem readsTwo (w : World) (T : TypeId) (a b : Value) : Reads (w.alloc (.cells #[a, b] T)) (w.heap.size + 1) 2 (some ⟨w.heap.size, 0, none⟩) 1 [a, b] :=
  ⟨rfl, fun _ => ⟨_, rfl, by show w.heap.size < _; omega, fun j u hu => new_cells w [a, b] T j u hu⟩⟩
set_option maxRecDepth 100000 in
set_option maxHeartbeats 4000000 in
theorem law_keyTurned (l m : List (Int × Int)) (ad md : Option Addr) (cap mcap : Nat) (t : Int) (w : World) (h : Reads w w.heap.size 2 ad l.length (keysV l)) (hm : Reads w w.heap.size 2 md m.length (keysV m)) (ht : t ≤ 9223372036854775807) :
    Calls Try.prog 12 #[.slice ad l.length cap, .slice md m.length mcap, .int .i64 t] w fun e w' => e = .returned (.bool true) ∧ Below w.heap.size w w' := by
  have HR := Lib.hid h
  have HM := Lib.hid hm
  clear h hm
  go_enter Try.func12, Try.ntmps12
  go_wp2_with fail
  refine (awake03_any _).mono ?_
  rintro e w1 ⟨rfl, hb1⟩
  by_cases h1 : 200 < l.length
  · have d1 : decide ((200 : Int) < (l.length : Int)) = true := by simp; omega
    have d1' : decide (200 < l.length) = true := by simp; omega
    go_wp2
    go_ret
    exact ⟨rfl, hb1⟩
  have d1 : decide ((200 : Int) < (l.length : Int)) = false := by simp; omega
  have d1' : decide (200 < l.length) = false := by simp; omega
  by_cases h2 : 200 < m.length
  · have d2 : decide ((200 : Int) < (m.length : Int)) = true := by simp; omega
    have d2' : decide (200 < m.length) = true := by simp; omega
    go_wp2
    go_ret
    exact ⟨rfl, hb1⟩
  have d2 : decide ((200 : Int) < (m.length : Int)) = false := by simp; omega
  have d2' : decide (200 < m.length) = false := by simp; omega
  by_cases h3 : t < 0
  · have d3 : decide (t < 0) = true := by simpa using h3
    go_wp2
    go_ret
    exact ⟨rfl, hb1⟩
  have d3 : decide (t < 0) = false := by simpa using h3
  obtain ⟨T, rfl⟩ : ∃ T : Nat, t = (T : Int) := ⟨t.toNat, by omega⟩
  obtain ⟨i0, hi, hz0, hz1, hz2⟩ := info_parts info56
  obtain ⟨i1, hi1, hy0, hy1, hy2⟩ := info_parts info58
  clear d1 d1' d2 d2' d3
  go_wp2
  go_loopw [7, 9] (fun u i wr => ∃ k : Nat, k ≤ l.length ∧ i = .int .i64 (k : Int) ∧ wr.ownsRow w.heap.size 56 2 u k (keysV (pickL l (fun i => (i + T) % l.length) k)) ∧ Below w.heap.size w wr) (fun _ i _ => l.length - (intOf i).toNat)
  case atStart => exact ⟨0, by omega, rfl, World.ownsRow_nil _ _ _ _, hb1⟩
  case round =>
    obtain ⟨k, hk, rfl, ho, hbr⟩ := hrel
    by_cases hlt : k < l.length
    · have hbool : decide ((k : Int) < (l.length : Int)) = true := by simpa using hlt
      have hn0 : (l.length : Int) ≠ 0 := by omega
      obtain ⟨q, hq⟩ : ∃ q, q = T % l.length := ⟨_, rfl⟩
      have hq1 : q < l.length := by rw [hq]; exact Nat.mod_lt _ (by omega)
      have e1 : (T : Int) % (l.length : Int) = (q : Int) := by rw [hq]; rfl
      have e1' : (T : Int).tmod (l.length : Int) = (q : Int) := by rw [hq]; rfl
      obtain ⟨r, hr⟩ : ∃ r, r = (k + q) % l.length := ⟨_, rfl⟩
      have hr1 : r < l.length := by rw [hr]; exact Nat.mod_lt _ (by omega)
      have e2 : ((k : Int) + (q : Int)) % (l.length : Int) = (r : Int) := by rw [hr]; rfl
      have e2' : ((k : Int) + (q : Int)).tmod (l.length : Int) = (r : Int) := by rw [hr]; rfl
      have hri : (r : Int) < (l.length : Int) := by omega
      have hfr : (k + T) % l.length = r := by rw [hr, hq, Nat.add_mod_mod]
      have hps := pickL_succ l (fun i => (i + T) % l.length) k (by show (k + T) % l.length < _; rw [hfr]; exact hr1)
      have hps2 : pickL l (fun i => (i + T) % l.length) (k + 1) = pickL l (fun i => (i + T) % l.length) k ++ [l[r]] := by
        rw [hps]
        congr 2
        simp only [hfr]
      obtain ⟨g, o, rfl, hg, hc⟩ := HR.out.rowAt hr1 (by omega)
      have s0 : wr.cell? ⟨g, o + r * 2, none⟩ = some (.int .u64 l[r].1) := (hbr.cell (p := ⟨g, o + r * 2, none⟩) hg).trans (hc 0 _ (keysV_at l r hr1).1)
      have s1 : wr.cell? ⟨g, o + r * 2 + 1, none⟩ = some (.int .i64 l[r].2) := (hbr.cell (p := ⟨g, o + r * 2 + 1, none⟩) hg).trans (hc 1 _ (keysV_at l r hr1).2)
      have HP := Lib.hid hps2
      have HK := Lib.hid hlt
      have HO := Lib.hid (And.intro ho hbr)
      generalize l[r] = x at *
      obtain ⟨x1, x2⟩ := x
      clear hps hps2 hc ho hbr hq hr hfr
      go_wp2_with (at_builtin; refine wpList_append_any _ rfl (.tmp 31) (.tmp 44) 67 rfl w.heap.size 56 i0 _ 2 16 Try.underlying67 hi hz0 hz1 hz2 rfl (by decide) _ k _ rfl (HO.out.1.alloc _) _ _ 1 1 [.int .u64 x1, .int .i64 x2] rfl (readsTwo wr 56 _ _) (by intro u hu; simp at hu; rcases hu with rfl | rfl <;> rfl) ?c3 ?c4 ?c5 ?_)
      case c3 => unfold maxLen; omega
      case c4 => omega
      case c5 => have := HO.out.2.size; simp; omega
      intro v6 w6 ho6 hg6 hu6
      have hb6 := grownB (ba HO.out.2 (.cells #[.int .u64 x1, .int .i64 x2] 56)) (ba HO.out.2 (.cells #[.int .u64 x1, .int .i64 x2] 56)).size hg6 (fun b hb => (HO.out.1.lt b hb).1)
      have ho7 : w6.ownsRow w.heap.size 56 2 v6 (k + 1) (keysV (pickL l (fun i => (i + T) % l.length) (k + 1))) := by
        rw [HP.out, keysV_snoc]
        exact ho6
      clear ho6 hg6 hu6
      go_wp2
      exact ⟨⟨k + 1, HK.out, by go_num, ho7, hb6⟩, measI HK.out⟩
    · have hbool : decide ((k : Int) < (l.length : Int)) = false := by simpa using hlt
      obtain rfl : k = l.length := by omega
      have HX := Lib.hid ho
      clear hbool hlt hk ho
      obtain ⟨adx, capx, rfl⟩ := ownForm HX.out
      have HLx := Lib.hid (show ∀ W, Below wr.heap.size wr W → Calls Try.prog 31 #[.slice adx l.length capx] W fun e w' => e = .returned (.agg #[.int .u64 (bestK l l.length).1, .int .i64 (bestK l l.length).2]) ∧ Below W.heap.size W w' from fun W hW => by
        have := kLast_any (pickL l (fun i => (i + T) % l.length) l.length) adx capx W (by rw [pickL_len]; exact Reads.of_own (hown_below HX.out hW)) (by rw [pickL_len]; omega)
        rw [pickL_len, turned_same] at this
        exact this)
      have HLl := Lib.hid (show ∀ W, Below w.heap.size w W → Calls Try.prog 31 #[.slice ad l.length cap] W fun e w' => e = .returned (.agg #[.int .u64 (bestK l l.length).1, .int .i64 (bestK l l.length).2]) ∧ Below W.heap.size W w' from fun W hW => kLast_any l ad cap W ((HR.out.below hW).more hW.size) (by omega))
      have HNm := Lib.hid (show ∀ W, Below w.heap.size w W → Calls Try.prog 37 #[.slice md m.length mcap] W fun e w' => e = .returned (.agg #[.int .u64 (bestK m m.length).1, .int .i64 (bestK m m.length).2]) ∧ Below W.heap.size W w' from fun W hW => kNewest_any m md mcap W ((HM.out.below hW).more hW.size) (by omega))
      have HB := Lib.hid hbr
      clear hbr
      go_wp2
      obtain ⟨w3, rfl⟩ : ∃ w3, w3 = wr := ⟨_, rfl⟩
      go_loopw [8, 10] (fun u i ws => ∃ p : Nat, p ≤ m.length ∧ i = .int .i64 ((p : Int) - 1) ∧ ws.ownsRow w3.heap.size 58 2 u (m.length - p) (keysV (pickL m (fun i => m.length - 1 - i) (m.length - p))) ∧ Below w3.heap.size w3 ws) (fun _ i _ => ((intOf i) + 1).toNat)
      case atStart => exact ⟨m.length, Nat.le_refl _, rfl, by rw [Nat.sub_self]; exact World.ownsRow_nil _ _ _ _, br _⟩
      case round =>
        obtain ⟨p, hp, rfl, ho, hbs⟩ := hrel
        have hbw := HB.out.trans (hbs.mono HB.out.size)
        rcases Nat.eq_zero_or_pos p with hp0 | hp0
        · subst hp0
          rw [Nat.sub_zero] at ho
          obtain ⟨ady, capy, rfl⟩ := ownForm ho
          have HNy := Lib.hid (show ∀ W, Below wr.heap.size wr W → Calls Try.prog 37 #[.slice ady m.length capy] W fun e w' => e = .returned (.agg #[.int .u64 (bestK m m.length).1, .int .i64 (bestK m m.length).2]) ∧ Below W.heap.size W w' from fun W hW => by
            have := kNewest_any (pickL m (fun i => m.length - 1 - i) m.length) ady capy W (by rw [pickL_len]; exact Reads.of_own (hown_below ho hW)) (by rw [pickL_len]; omega)
            rw [pickL_len, back_same] at this
            exact this)
          clear ho
          generalize bestK l l.length = x at *
          generalize bestK m m.length = y at *
          obtain ⟨x1, x2⟩ := x
          obtain ⟨y1, y2⟩ := y
          go_wp2_with fail
          refine (HLx.out _ hbs).mono ?_
          rintro e w5 ⟨rfl, hb5⟩
          go_wp2_with fail
          refine (HLl.out _ (hbw.trans (hb5.mono hbw.size))).mono ?_
          rintro e w6 ⟨rfl, hb6'⟩
          have hb6 := bt hb5 hb6'
          clear hb5 hb6'
          go_wp2_with fail
          refine (HNy.out _ hb6).mono ?_
          rintro e w7 ⟨rfl, hb7'⟩
          have hb7 := bt hb6 hb7'
          clear hb6 hb7'
          go_wp2_with fail
          refine (HNm.out _ (hbw.trans (hb7.mono hbw.size))).mono ?_
          rintro e w8 ⟨rfl, hb8'⟩
          have hb8 := hbw.trans ((bt hb7 hb8').mono hbw.size)
          clear hb7 hb8'
          go_wp2
          go_ret
          exact ⟨rfl, hb8⟩
        · obtain ⟨r, rfl⟩ : ∃ r, p = r + 1 := ⟨p - 1, by omega⟩
          have er : ((r + 1 : Nat) : Int) - 1 = (r : Int) := by omega
          have hri : (r : Int) < (m.length : Int) := by omega
          have hr1 : r < m.length := by omega
          have d5 : decide ((0 : Int) ≤ (r : Int)) = true := by simp
          have ek : m.length - r = m.length - (r + 1) + 1 := by omega
          have hfr : m.length - 1 - (m.length - (r + 1)) = r := by omega
          have hps := pickL_succ m (fun i => m.length - 1 - i) (m.length - (r + 1)) (by show m.length - 1 - (m.length - (r + 1)) < _; omega)
          have hps2 : pickL m (fun i => m.length - 1 - i) (m.length - r) = pickL m (fun i => m.length - 1 - i) (m.length - (r + 1)) ++ [m[r]] := by
            rw [ek, hps]
            congr 2
            simp only [hfr]
          obtain ⟨g, o, rfl, hg, hc⟩ := HM.out.rowAt hr1 (by omega)
          have s0 : wr.cell? ⟨g, o + r * 2, none⟩ = some (.int .u64 m[r].1) := (hbw.cell (p := ⟨g, o + r * 2, none⟩) hg).trans (hc 0 _ (keysV_at m r hr1).1)
          have s1 : wr.cell? ⟨g, o + r * 2 + 1, none⟩ = some (.int .i64 m[r].2) := (hbw.cell (p := ⟨g, o + r * 2 + 1, none⟩) hg).trans (hc 1 _ (keysV_at m r hr1).2)
          have HP := Lib.hid (And.intro hps2 ek)
          have HK := Lib.hid (show r ≤ m.length from by omega)
          have HO := Lib.hid (And.intro ho (And.intro hbs hbw))
          rw [er]
          generalize m[r] = x at *
          obtain ⟨x1, x2⟩ := x
          clear hps hps2 hc ho hbs hbw hfr ek er hp hp0
          go_wp2_with (at_builtin; refine wpList_append_any _ rfl (.tmp 53) (.tmp 58) 68 rfl w3.heap.size 58 i1 _ 2 16 Try.underlying68 hi1 hy0 hy1 hy2 rfl (by decide) _ (m.length - (r + 1)) _ rfl (HO.out.1.alloc _) _ _ 1 1 [.int .u64 x1, .int .i64 x2] rfl (readsTwo wr 58 _ _) (by intro u hu; simp at hu; rcases hu with rfl | rfl <;> rfl) ?e3 ?e4 ?e5 ?_)
          case e3 => unfold maxLen; omega
          case e4 => omega
          case e5 => have := HO.out.2.1.size; simp; omega
          intro v6 w6 ho6 hg6 hu6
          have hb6 := grownB (ba HO.out.2.1 (.cells #[.int .u64 x1, .int .i64 x2] 58)) (ba HO.out.2.1 (.cells #[.int .u64 x1, .int .i64 x2] 58)).size hg6 (fun b hb => (HO.out.1.lt b hb).1)
          have ho7 : w6.ownsRow w3.heap.size 58 2 v6 (m.length - r) (keysV (pickL m (fun i => m.length - 1 - i) (m.length - r))) := by
            rw [HP.out.1, keysV_snoc, HP.out.2]
            exact ho6
          clear ho6 hg6 hu6
          go_wp2
          exact ⟨⟨r, HK.out, rfl, ho7, hb6⟩, by simp [intOf]⟩
end Go.Proofs.Ytodlmboagbjcbaa
