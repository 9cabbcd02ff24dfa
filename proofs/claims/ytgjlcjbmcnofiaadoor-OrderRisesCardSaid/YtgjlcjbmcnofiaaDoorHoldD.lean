/-
  What hold's From, Get, Drop, Vector return and leave.
  Conditions: none.
-/
import Derived.Test.YtgjlcjbmcnofiaaDoorHoldC
namespace Go.Proofs.YtgjlcjbmcnofiaaDoor
set_option linter.unusedVariables false
set_option linter.unusedSimpArgs false
open Go.RowKit
/-- the place of a number in a process's row -/
def fromAt (l0 seq : Nat) : Nat := max seq (l0 + 1) - l0 - 1
def fromL (lo : Nat → Nat) (R : Nat → List Msg) (p : Nat) (seq : Nat) (most : Nat) : List Msg := ((R p).drop (fromAt (lo p) seq)).take most
theorem HoldAt.rows {w : World} {D : Nat} {lo : Nat → Nat} {R : Nat → List Msg} {V : Nat → Value} (h : HoldAt w D lo R V) {p : Nat} (hp : p < 64) : ∃ ad cap, V p = .slice ad (R p).length cap ∧ (R p).length ≤ cap ∧ cap ≤ 9223372036854775807 ∧ Reads w w.heap.size 6 ad (R p).length (rowsM (R p)) := by
  obtain ⟨ad, cap, e, h1, h2, h3⟩ := RowsAt.of_own (h.own p hp)
  exact ⟨ad, cap, e, h1, h2, h3⟩
theorem CopyEnd.up {w w5 w' : World} {l : List Msg} {e : Ending} (h : CopyEnd w5 l e w') (hz : w.heap.size ≤ w5.heap.size) : CopyEnd w l e w' := by
  obtain ⟨v, L, he, ho, hm, hf⟩ := h
  exact ⟨v, L, he, ownMore ho hz, hm, fun m hm' => (hf m hm').more hz⟩
set_option maxRecDepth 100000 in
set_option maxHeartbeats 4000000 in
theorem hFrom_in (D : Nat) (lo : Nat → Nat) (R : Nat → List Msg) (V : Nat → Value) (p seq most : Nat) (w : World) (h : HoldAt w D lo R V) (hb : HoldBd lo R) (hp : p < 64) (hseq : seq ≤ lo p + (R p).length) (hmost : 1 ≤ most) (hmost2 : most ≤ 9223372036854775807) (hd : ∀ m ∈ R p, m.ds.length ≤ 1000000) :
    Calls Tryd.prog 98 #[.pointer (some ⟨D, 0, none⟩), .int .i64 (p : Int), .int .u32 (seq : Int), .int .i64 (most : Int)] w fun e w' => CopyEnd w (fromL lo R p seq most) e w' ∧ Below w.heap.size w w' := by
  have HP := Lib.hid (process_any (p : Int) w)
  rw [show procB (p : Int) = true by simp [procB]; omega] at HP
  have HC := Lib.hid (hCount_in D lo R V p w h hp hb)
  obtain ⟨ad, cap, hv, hc1, hc2, hr⟩ := h.rows hp
  have HH := Lib.hid (And.intro h (And.intro hv (And.intro hr (And.intro hc1 hd))))
  have hi : (p : Int) < 64 := by omega
  obtain ⟨b1, b2⟩ := hb p hp
  obtain ⟨n, hn⟩ : ∃ n, n = (R p).length := ⟨_, rfl⟩
  obtain ⟨l0, hl0⟩ : ∃ n, n = lo p := ⟨_, rfl⟩
  rw [← hn] at b1 hc1
  rw [← hl0] at b2
  rw [← hn, ← hl0] at HC hseq
  obtain ⟨s, hs⟩ : ∃ s : Nat, s = l0 + n := ⟨_, rfl⟩
  rw [← hs] at HC hseq
  have hs9 : s ≤ 101000 := by omega
  have d1 : decide ((most : Int) < 1) = false := by simp; omega
  have d2 : decide ((s : Int) < (seq : Int)) = false := by simp; omega
  have d2' : decide (s < seq) = false := by simp; omega
  have d1' : decide (most < 1) = false := by simp; omega
  have d1'' : decide (most = 0) = false := by simp; omega
  obtain ⟨l1, hl1⟩ : ∃ l1 : Nat, IntKind.u32.wrap ((l0 : Int) + 1) = (l1 : Int) := ⟨l0 + 1, by rw [IntKind.wrap_u32]; omega⟩
  have hl1' : l1 = l0 + 1 := by rw [IntKind.wrap_u32] at hl1; omega
  obtain ⟨mx, hmx0⟩ : ∃ mx : Nat, mx = max seq l1 := ⟨_, rfl⟩
  have hmx : (if seq < l1 then (l1 : Int) else (seq : Int)) = (mx : Int) := by split <;> omega
  obtain ⟨m1, hm1⟩ : ∃ m1 : Nat, IntKind.u32.wrap ((mx : Int) - (l0 : Int)) = (m1 : Int) := ⟨mx - l0, by rw [IntKind.wrap_u32]; omega⟩
  obtain ⟨t, ht⟩ : ∃ t : Nat, IntKind.u32.wrap ((m1 : Int) - 1) = (t : Int) := ⟨m1 - 1, by rw [IntKind.wrap_u32] at *; omega⟩
  have htt : t = fromAt l0 seq := by unfold fromAt; rw [IntKind.wrap_u32] at *; omega
  have htn : t ≤ n := by rw [htt]; unfold fromAt; omega
  have HT := Lib.hid (And.intro htt (And.intro hn hl0))
  clear hn hl0 htt hl1' hs h hv hr hb hd hmx0
  go_enter Tryd.func98, Tryd.ntmps98
  go_wp2_with fail
  refine HP.out.mono ?_
  rintro e w' ⟨rfl, rfl⟩
  go_wp2_with fail
  refine HC.out.mono ?_
  rintro e w1 ⟨rfl, hb1⟩
  have h1 := HH.out.1.below hb1
  have c1 := Bel.cell (h1.clo hp) h1.lt
  have c2' := h1.cv hp
  rw [HH.out.2.1] at c2'
  have c2 := Bel.cell c2' h1.lt
  rw [← HT.out.2.2] at c1
  rw [← HT.out.2.1] at c2
  clear c2' h1
  go_wp2_with fail
  refine wp_region_bel (by kernel_rfl) (by kernel_rfl) ?_
  have q1 : (0 : Int) ≤ (t : Int) := by omega
  have q2 : (t : Int) ≤ (n : Int) := by omega
  have q3 : ((t : Int)).toNat = t := by omega
  repeat (go_big_quiet_step ((fail)))
  refine wpQuiet_nil ?_
  intro w5 hw5
  obtain ⟨x5, rfl⟩ := hw5
  have hb5 := bt hb1 x5.prop
  generalize x5.val = w5 at *
  have h5 := HH.out.1.below hb5
  have hr5 := reads_drop (t := t) (cap := cap) ((HH.out.2.2.1).below hb5) (by rw [← HT.out.2.1]; exact htn) (by rw [← HT.out.2.1]; exact hc1)
  rw [← HT.out.2.1] at hr5
  obtain ⟨F, hF⟩ : ∃ F, F = (R p).drop t := ⟨_, rfl⟩
  have hFl : F.length = n - t := by rw [hF, List.length_drop, ← HT.out.2.1]
  rw [← hF, ← hFl] at hr5
  have hFc : F.length ≤ cap - t := by omega
  have hc3 : cap - t ≤ 9223372036854775807 := by omega
  rw [← hFl]
  have HR5 := Lib.hid hr5
  clear hr5
  generalize (if cap = t then ad else Option.map (fun x => x.add (t * 6)) ad) = A2 at *
  generalize cap - t = c2 at *
  obtain ⟨k, hk⟩ : ∃ k, k = min F.length most := ⟨_, rfl⟩
  have hFn : F.length ≤ 1000 := by omega
  have HF := Lib.hid (And.intro hF hFl)
  clear hF hFl q1 q2 q3 hc1
  have HK := Lib.hid (show ∀ k, k = min F.length most → Calls Tryd.prog 74 #[.slice A2 k c2] w5 fun e w' => CopyEnd w (fromL lo R p seq most) e w' ∧ Below w.heap.size w w' from fun k hk => by
    have hrk := reads_take HR5.out (t := k) (by omega)
    have hFk : (F.take k).length = k := by rw [List.length_take]; omega
    have hin : RowsIn w5 (.slice A2 k c2) (F.take k) := ⟨A2, c2, by rw [hFk], by rw [hFk]; exact hrk.more hb5.size⟩
    have hms := hin.msgsAt (by omega) (fun m hm => (h5.ok p hp m (by have := List.mem_of_mem_take hm; rw [HF.out.1] at this; exact List.mem_of_mem_drop this)).1)
    have hfl : fromL lo R p seq most = F.take k := by
      unfold fromL
      rw [← HT.out.2.2, ← HT.out.1, ← HF.out.1, hk, Nat.min_comm, ← List.take_eq_take_min]
    rw [hfl]
    refine (copies_any _ (F.take k) w5 hms (by omega) (fun m hm => HH.out.2.2.2.2 m (by have := List.mem_of_mem_take hm; rw [HF.out.1] at this; exact List.mem_of_mem_drop this))).mono ?_
    rintro e w' ⟨hce, hb6⟩
    exact ⟨hce.up hb5.size, bt hb5 hb6⟩)
  clear hk h5
  go_wp2_with fail
  all_goals
    refine (HK.out _ (by omega)).mono ?_
    rintro e w6 ⟨⟨v6, L6, rfl, h6⟩, hb6⟩
    have H6 := Lib.hid (show CopyEnd w (fromL lo R p seq most) (.returned v6) w6 from ⟨v6, L6, rfl, h6⟩)
    clear h6
    go_wp2
    go_ret
    exact ⟨H6.out, hb6⟩
set_option maxRecDepth 100000 in
set_option maxHeartbeats 4000000 in
theorem hFrom_proc (D : Nat) (p most : Int) (seq : Nat) (w : World) (hp : procB p = false) :
    Calls Tryd.prog 98 #[.pointer (some ⟨D, 0, none⟩), .int .i64 p, .int .u32 (seq : Int), .int .i64 most] w fun e w' => e = .returned (.slice none 0 0) ∧ Below w.heap.size w w' := by
  have HP := Lib.hid (process_any p w)
  rw [hp] at HP
  clear hp
  go_enter Tryd.func98, Tryd.ntmps98
  go_wp2_with fail
  refine HP.out.mono ?_
  rintro e w' ⟨rfl, rfl⟩
  go_wp2
  go_ret
  exact ⟨rfl, br _⟩
set_option maxRecDepth 100000 in
set_option maxHeartbeats 4000000 in
theorem hFrom_most (D p : Nat) (most : Int) (seq : Nat) (w : World) (hp : p < 64) (hm : most < 1) :
    Calls Tryd.prog 98 #[.pointer (some ⟨D, 0, none⟩), .int .i64 (p : Int), .int .u32 (seq : Int), .int .i64 most] w fun e w' => e = .returned (.slice none 0 0) ∧ Below w.heap.size w w' := by
  have HP := Lib.hid (process_any (p : Int) w)
  rw [show procB (p : Int) = true by simp [procB]; omega] at HP
  have d1 : decide (most < 1) = true := by simpa using hm
  go_enter Tryd.func98, Tryd.ntmps98
  go_wp2_with fail
  refine HP.out.mono ?_
  rintro e w' ⟨rfl, rfl⟩
  go_wp2
  go_ret
  exact ⟨rfl, br _⟩
set_option maxRecDepth 100000 in
set_option maxHeartbeats 4000000 in
theorem hFrom_seq (D : Nat) (lo : Nat → Nat) (R : Nat → List Msg) (V : Nat → Value) (p seq : Nat) (most : Int) (w : World) (h : HoldAt w D lo R V) (hb : HoldBd lo R) (hp : p < 64) (hm : 1 ≤ most) (hseq : lo p + (R p).length < seq) :
    Calls Tryd.prog 98 #[.pointer (some ⟨D, 0, none⟩), .int .i64 (p : Int), .int .u32 (seq : Int), .int .i64 most] w fun e w' => e = .returned (.slice none 0 0) ∧ Below w.heap.size w w' := by
  have HP := Lib.hid (process_any (p : Int) w)
  rw [show procB (p : Int) = true by simp [procB]; omega] at HP
  have HC := Lib.hid (hCount_in D lo R V p w h hp hb)
  have d1 : decide (most < 1) = false := by simp; omega
  obtain ⟨s, hs⟩ : ∃ s, s = lo p + (R p).length := ⟨_, rfl⟩
  rw [← hs] at HC hseq
  have d2 : decide (s < seq) = true := by simpa using hseq
  clear h hb hs
  go_enter Tryd.func98, Tryd.ntmps98
  go_wp2_with fail
  refine HP.out.mono ?_
  rintro e w' ⟨rfl, rfl⟩
  go_wp2_with fail
  refine HC.out.mono ?_
  rintro e w1 ⟨rfl, hb1⟩
  go_wp2
  go_ret
  exact ⟨rfl, hb1⟩
/-- what From answers -/
def fromZ (lo : Nat → Nat) (R : Nat → List Msg) (p : Int) (seq : Nat) (most : Int) : List Msg :=
  if procB p = true ∧ 1 ≤ most ∧ seq ≤ lo p.toNat + (R p.toNat).length then fromL lo R p.toNat seq most.toNat else []
theorem hFrom_any (D : Nat) (lo : Nat → Nat) (R : Nat → List Msg) (V : Nat → Value) (p : Int) (seq : Nat) (most : Int) (w : World) (h : HoldAt w D lo R V) (hb : HoldBd lo R) (hmost : most ≤ 9223372036854775807) (hd : ∀ p, p < 64 → ∀ m ∈ R p, m.ds.length ≤ 1000000) :
    Calls Tryd.prog 98 #[.pointer (some ⟨D, 0, none⟩), .int .i64 p, .int .u32 (seq : Int), .int .i64 most] w fun e w' => CopyEnd w (fromZ lo R p seq most) e w' ∧ Below w.heap.size w w' := by
  have hnil : ∀ w', CopyEnd w [] (.returned (.slice none 0 0)) w' := fun w' => ⟨_, [], rfl, ⟨rfl, .inl ⟨rfl, rfl⟩⟩, rfl, by simp⟩
  unfold fromZ
  by_cases hp : procB p = true
  · have hpp : 0 ≤ p ∧ p < 64 := by simpa [procB] using hp
    obtain ⟨q, hq⟩ : ∃ q : Nat, p = (q : Int) := ⟨p.toNat, by omega⟩
    subst hq
    rw [Int.toNat_natCast]
    by_cases hm : 1 ≤ most
    · by_cases hs : seq ≤ lo q + (R q).length
      · rw [if_pos ⟨hp, hm, hs⟩]
        obtain ⟨k, hk⟩ : ∃ k : Nat, most = (k : Int) := ⟨most.toNat, by omega⟩
        subst hk
        rw [Int.toNat_natCast]
        exact hFrom_in D lo R V q seq k w h hb (by omega) hs (by omega) (by omega) (hd q (by omega))
      · rw [if_neg (fun hh => hs hh.2.2)]
        exact (hFrom_seq D lo R V q seq most w h hb (by omega) hm (by omega)).mono fun e w' ⟨he, hb'⟩ => ⟨he ▸ hnil w', hb'⟩
    · rw [if_neg (fun hh => hm hh.2.1)]
      exact (hFrom_most D q most seq w (by omega) (by omega)).mono fun e w' ⟨he, hb'⟩ => ⟨he ▸ hnil w', hb'⟩
  · rw [if_neg (fun hh => hp hh.1)]
    exact (hFrom_proc D p most seq w (by simpa using hp)).mono fun e w' ⟨he, hb'⟩ => ⟨he ▸ hnil w', hb'⟩
end Go.Proofs.YtgjlcjbmcnofiaaDoor
