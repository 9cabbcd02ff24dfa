/-
  The law DiskLast.
  Conditions: none.
-/
import Derived.Test.YtchonlodehogpaaDiskE
namespace Go.Proofs.Ytchonlodehogpaa
set_option linter.unusedVariables false
open Go.RowKit
theorem ActsAt.uni {w : World} {v : Value} {l : List ActV} (h : ActsAt w v l) : ∃ ad cap, v = .slice ad l.length cap ∧ l.length ≤ 9223372036854775807 ∧ ∀ i (h : i < l.length), ∃ B O, ad = some ⟨B, O, none⟩ ∧ B < w.heap.size ∧ ActAt w B (O + i * 3) l[i] := by
  rcases h with ⟨ad, cap, rfl, rfl⟩ | ⟨B, O, cap, rfl, hl, hB, hc⟩
  · exact ⟨ad, cap, rfl, by simp, fun i h => absurd h (by simp)⟩
  · exact ⟨_, cap, rfl, hl, fun i h => ⟨B, O, rfl, hB, hc i h⟩⟩
theorem ActsAt.below {w w' : World} {n : Nat} {v : Value} {l : List ActV} (h : ActsAt w v l) (hb : Below n w w') (hn : w.heap.size ≤ n) : ActsAt w' v l := by
  rcases h with h | ⟨B, O, cap, rfl, hl, hB, hc⟩
  · exact .inl h
  · exact .inr ⟨B, O, cap, rfl, hl, by have := hb.size; omega, fun i h => (hc i h).below hb (by omega)⟩
theorem DkStep.cell {w w' : World} {D : Nat} {a b : ByteArray} (h : DkStep w D a b w') {p : Addr} (hp : p.block < w.heap.size) (hne : p.block ≠ D) : w'.cell? p = w.cell? p :=
  World.cell?_of_block (h.2.block _ hp (fun e => hne (by injection e)))
set_option maxRecDepth 100000 in
set_option maxHeartbeats 4000000 in
theorem law_diskLast (v : Value) (l : List ActV) (w : World) (h : ActsAt w v l) :
    Calls Try.prog 14 #[v] w fun e w' => e = .returned (.bool true) ∧ Below w.heap.size w w' := by
  have hFew := fun (W : World) (hW : ActsAt W v l) => Few_any v l W hW
  have HF := Lib.hid hFew
  have HA := Lib.hid h
  obtain ⟨ad, cap, rfl, hl, hc⟩ := h.uni
  have HC := Lib.hid hc
  clear hFew h hc
  go_enter Try.func14, Try.ntmps14
  go_wp2_with fail
  refine (awake08_any _).mono ?_
  rintro e w1 ⟨rfl, hb1⟩
  go_wp2_with fail
  refine (HF.out _ (HA.out.below hb1 (Nat.le_refl _))).mono ?_
  rintro e w2 ⟨⟨b, rfl, hb⟩, rfl⟩
  cases b
  · go_wp2
    go_ret
    exact ⟨rfl, hb1⟩
  have hlen := hb rfl
  clear hb
  go_wp2_with fail
  refine (dNew_any _).mono ?_
  rintro e w3 ⟨rfl, hw3⟩
  have h3 : DkAt w3 w1.heap.size ⟨#[]⟩ ⟨#[]⟩ := by rw [← hw3]; exact DkAt.new _ _ _ _
  have hb3 : Below w.heap.size w w3 := by rw [← hw3]; exact ba hb1 _
  have hDw : w.heap.size ≤ w1.heap.size := hb1.size
  generalize w1.heap.size = D at *
  clear hw3
  have s0 : numD ⟨#[]⟩ ⟨#[]⟩ ≤ 0 := by decide +kernel
  have s1 := awake_txt
  have s2 := awake_none
  go_wp2
  go_loopw [4, 5, 6] (fun last any i wr => ∃ (k : Nat) (a b : ByteArray), k ≤ l.length ∧ i = .int .i64 (k : Int) ∧ last = .string (txtD a b) ∧ any = .bool (anyD a b) ∧ numD a b ≤ k ∧ (a.size ≤ 10000 ∧ b.size ≤ 10000) ∧ DkAt wr D a b ∧ Below w.heap.size w wr) (fun _ _ i _ => l.length - (intOf i).toNat)
  case atStart => exact ⟨0, ⟨#[]⟩, ⟨#[]⟩, by omega, rfl, by rw [s1], by rw [s2], s0, by decide, h3, hb3⟩
  case round =>
    obtain ⟨k, a, b, hk, rfl, rfl, rfl, hn, hz, hDk, hbr⟩ := hrel
    by_cases hlt : k < l.length
    · have hbool : decide ((k : Int) < (l.length : Int)) = true := by simpa using hlt
      obtain ⟨B, O, rfl, hB, hact⟩ := HC.out k hlt
      obtain ⟨c0, c1, c2, c3⟩ := hact.below hbr hB
      generalize l[k] = x at c0 c1 c2 c3
      have hz' := act_size (a, b) x hz.1 hz.2
      have hne : wr.heap.size ≠ D := Nat.ne_of_gt hDk.lt
      have hDk1 := hDk.below (ba (br wr) (.cells #[.string x.data, .bool x.tear, .int .i64 x.keep] 56)) hDk.lt
      have hsz1 : w.heap.size ≤ (wr.alloc (.cells #[.string x.data, .bool x.tear, .int .i64 x.keep] 56)).heap.size := by have := hbr.size; simp; omega
      have hDo : ∀ W : World, DkAt W D a b → Calls Try.prog 32 #[.pointer (some ⟨D, 0, none⟩), .agg #[.string x.data, .bool x.tear, .int .i64 x.keep]] W fun e w' => e = .returned (.int .i64 (codeD x)) ∧ DkStep W D (actD (a, b) x).1 (actD (a, b) x).2 w' :=
        fun W hW => do_any D a b x W hW (by omega) (by omega) c3
      have key : (codeD x = 3 ∧ decide ((8192 : Int) < (x.data.size : Int)) = true ∧ txtD (actD (a, b) x).1 (actD (a, b) x).2 = txtD a b ∧ anyD (actD (a, b) x).1 (actD (a, b) x).2 = anyD a b ∧ numD (actD (a, b) x).1 (actD (a, b) x).2 ≤ k + 1)
          ∨ (codeD x = 0 ∧ decide ((8192 : Int) < (x.data.size : Int)) = false ∧ x.tear = true ∧ txtD (actD (a, b) x).1 (actD (a, b) x).2 = txtD a b ∧ anyD (actD (a, b) x).1 (actD (a, b) x).2 = anyD a b ∧ numD (actD (a, b) x).1 (actD (a, b) x).2 ≤ k + 1)
          ∨ (codeD x = 0 ∧ decide ((8192 : Int) < (x.data.size : Int)) = false ∧ x.tear = false ∧ txtD (actD (a, b) x).1 (actD (a, b) x).2 = x.data ∧ anyD (actD (a, b) x).1 (actD (a, b) x).2 = true ∧ numD (actD (a, b) x).1 (actD (a, b) x).2 ≤ k + 1) := by
        by_cases h8 : 8192 < x.data.size
        · rw [act_long _ _ h8]
          exact .inl ⟨if_pos h8, by simp; omega, rfl, rfl, by show numD a b ≤ _; omega⟩
        · cases ht : x.tear
          · obtain ⟨t1, t2, t3⟩ := act_whole (a, b) x ht h8 (by show numD a b < _; omega)
            exact .inr (.inr ⟨if_neg h8, by simp; omega, rfl, t1, t2, by rw [t3]; show numD a b + 1 ≤ _; omega⟩)
          · obtain ⟨t1, t2, t3⟩ := act_torn (a, b) x ht
            exact .inr (.inl ⟨if_neg h8, by simp; omega, rfl, t1, t2, by rw [t3]; show numD a b ≤ _; omega⟩)
      have hRd : ∀ W : World, DkAt W D (actD (a, b) x).1 (actD (a, b) x).2 → Calls Try.prog 35 #[.pointer (some ⟨D, 0, none⟩)] W fun e w' => e = .returned (.tuple #[.string (txtD (actD (a, b) x).1 (actD (a, b) x).2), .bool (anyD (actD (a, b) x).1 (actD (a, b) x).2)]) ∧ Below W.heap.size W w' :=
        fun W hW => dRead_any D _ _ W hW (by omega) (by omega)
      generalize actD (a, b) x = p' at *
      obtain ⟨a', b'⟩ := p'
      simp only at hDo key hRd hz'
      clear hact hn hz hlen
      generalize x.data = xs at *
      generalize x.tear = xt at *
      generalize x.keep = xk at *
      rcases key with ⟨kc, d1, e1, e2, e3⟩ | ⟨kc, d1, ht, e1, e2, e3⟩ | ⟨kc, d1, ht, e1, e2, e3⟩
      · rw [kc] at hDo
        rw [e1, e2] at hRd
        have d2 : decide (8192 < xs.size) = true := by have := d1; simp at this ⊢; omega
        have HD := Lib.hid hDo
        have HR := Lib.hid hRd
        have E := Lib.hid (And.intro e1 (And.intro e2 e3))
        clear hDo hRd kc e1 e2 e3
        go_wp2_with fail
        refine (HD.out _ hDk1).mono ?_
        rintro e w4 ⟨rfl, hst⟩
        have q0 : w4.cell? ⟨wr.heap.size, 0, none⟩ = some (.string xs) := (hst.cell (p := ⟨wr.heap.size, 0, none⟩) (by simp) hne).trans (cell3_0 _ _ _ _ _)
        have q1 : w4.cell? ⟨wr.heap.size, 1, none⟩ = some (.bool xt) := (hst.cell (p := ⟨wr.heap.size, 1, none⟩) (by simp) hne).trans (cell3_1 _ _ _ _ _)
        have hb4 := hst.out (ba hbr (.cells #[.string xs, .bool xt, .int .i64 xk] 56)) hDw hsz1
        go_wp2_with fail
        refine (HR.out _ hst.1).mono ?_
        rintro e w5 ⟨rfl, hb5⟩
        have hDk5 := hst.1.below hb5 hst.1.lt
        have hb5 := hb4.trans (hb5.mono hb4.size)
        go_wp2
        exact ⟨⟨k + 1, a', b', by omega, by go_num, by rw [E.out.1], by rw [E.out.2.1], E.out.2.2, hz', hDk5, hb5⟩, by simp [intOf]; omega⟩
      · subst ht
        rw [kc] at hDo
        rw [e1, e2] at hRd
        have d2 : decide (8192 < xs.size) = false := by have := d1; simp at this ⊢; omega
        have HD := Lib.hid hDo
        have HR := Lib.hid hRd
        have E := Lib.hid (And.intro e1 (And.intro e2 e3))
        clear hDo hRd kc e1 e2 e3
        go_wp2_with fail
        refine (HD.out _ hDk1).mono ?_
        rintro e w4 ⟨rfl, hst⟩
        have q0 : w4.cell? ⟨wr.heap.size, 0, none⟩ = some (.string xs) := (hst.cell (p := ⟨wr.heap.size, 0, none⟩) (by simp) hne).trans (cell3_0 _ _ _ _ _)
        have q1 : w4.cell? ⟨wr.heap.size, 1, none⟩ = some (.bool true) := (hst.cell (p := ⟨wr.heap.size, 1, none⟩) (by simp) hne).trans (cell3_1 _ _ _ _ _)
        have hb4 := hst.out (ba hbr (.cells #[.string xs, .bool true, .int .i64 xk] 56)) hDw hsz1
        go_wp2_with fail
        refine (HR.out _ hst.1).mono ?_
        rintro e w5 ⟨rfl, hb5⟩
        have hDk5 := hst.1.below hb5 hst.1.lt
        have hb5 := hb4.trans (hb5.mono hb4.size)
        go_wp2
        exact ⟨⟨k + 1, a', b', by omega, by go_num, by rw [E.out.1], by rw [E.out.2.1], E.out.2.2, hz', hDk5, hb5⟩, by simp [intOf]; omega⟩
      · subst ht
        rw [kc] at hDo
        rw [e1, e2] at hRd
        have d2 : decide (8192 < xs.size) = false := by have := d1; simp at this ⊢; omega
        have HD := Lib.hid hDo
        have HR := Lib.hid hRd
        have E := Lib.hid (And.intro e1 (And.intro e2 e3))
        clear hDo hRd kc e1 e2 e3
        go_wp2_with fail
        refine (HD.out _ hDk1).mono ?_
        rintro e w4 ⟨rfl, hst⟩
        have q0 : w4.cell? ⟨wr.heap.size, 0, none⟩ = some (.string xs) := (hst.cell (p := ⟨wr.heap.size, 0, none⟩) (by simp) hne).trans (cell3_0 _ _ _ _ _)
        have q1 : w4.cell? ⟨wr.heap.size, 1, none⟩ = some (.bool false) := (hst.cell (p := ⟨wr.heap.size, 1, none⟩) (by simp) hne).trans (cell3_1 _ _ _ _ _)
        have hb4 := hst.out (ba hbr (.cells #[.string xs, .bool false, .int .i64 xk] 56)) hDw hsz1
        go_wp2_with fail
        refine (HR.out _ hst.1).mono ?_
        rintro e w5 ⟨rfl, hb5⟩
        have hDk5 := hst.1.below hb5 hst.1.lt
        have hb5 := hb4.trans (hb5.mono hb4.size)
        go_wp2
        exact ⟨⟨k + 1, a', b', by omega, by go_num, by rw [E.out.1], by rw [E.out.2.1], E.out.2.2, hz', hDk5, hb5⟩, by simp [intOf]; omega⟩
    · have hbool : decide ((k : Int) < (l.length : Int)) = false := by simpa using hlt
      go_wp2
      go_ret
      exact ⟨rfl, hbr⟩
end Go.Proofs.Ytchonlodehogpaa
