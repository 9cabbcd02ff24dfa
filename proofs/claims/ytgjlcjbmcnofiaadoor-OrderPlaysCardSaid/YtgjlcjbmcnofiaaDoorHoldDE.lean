/-
  What hold's From, Get, Drop, Vector return and leave.
  Conditions: none.
-/
import Derived.Test.YtgjlcjbmcnofiaaDoorHoldC
import Derived.Lib.OwnKind
namespace Go.Proofs.YtgjlcjbmcnofiaaDoor
set_option linter.unusedVariables false
set_option linter.unusedSimpArgs false
open Go.RowKit
/-- the place of a number in a process's row -/
def fromAt (l0 seq : Nat) : Nat := max seq (l0 + 1) - l0 - 1
def fromL (lo : Nat → Nat) (R : Nat → List Msg) (p : Nat) (seq : Nat) (most : Nat) : List Msg := ((R p).drop (fromAt (lo p) seq)).take most
theorem HoldAt.rows {w : World} {D : Nat} {lo : Nat → Nat} {R : Nat → List Msg} {V : Nat → Value} (h : HoldAt w D lo R V) {p : Nat} (hp : p < 64) : ∃ ad cap, V p = .slice ad (R p).length cap ∧ (R p).length ≤ cap ∧ cap ≤ 9223372036854775807 ∧ Reads w w.heap.size 6 ad (R p).length (rowsM (R p)) := by
  obtain ⟨ad, cap, e, h1, h2, h3⟩ := RowsAt.of_own (h.own p hp)
  exact ⟨ad, cap, e, h1, h2, h3⟩
theorem CopyEnd.up {w w5 w' : World} {l : List Msg} {e : Ending} (h : CopyEnd w5 l e w') (hz : w.heap.size ≤ w5.heap.size) : CopyEnd w l e w' := by
  obtain ⟨v, L, he, ho, hm, hf⟩ := h
  exact ⟨v, L, he, ownMore ho hz, hm, fun m hm' => (hf m hm').more hz⟩
set_option maxRecDepth 100000 in
set_option maxHeartbeats 4000000 in
theorem hFrom_in (D : Nat) (lo : Nat → Nat) (R : Nat → List Msg) (V : Nat → Value) (p seq most : Nat) (w : World) (h : HoldAt w D lo R V) (hb : HoldBd lo R) (hp : p < 64) (hseq : seq ≤ lo p + (R p).length) (hmost : 1 ≤ most) (hmost2 : most ≤ 9223372036854775807) (hd : ∀ m ∈ R p, m.ds.length ≤ 1000000) :
    Calls Tryd.prog 98 #[.pointer (some ⟨D, 0, none⟩), .int .i64 (p : Int), .int .u32 (seq : Int), .int .i64 (most : Int)] w fun e w' => CopyEnd w (fromL lo R p seq most) e w' ∧ Below w.heap.size w w' := by
  have HP := Lib.hid (process_any (p : Int) w)
  rw [show procB (p : Int) = true by simp [procB]; omega] at HP
  have HC := Lib.hid (hCount_in D lo R V p w h hp hb)
  obtain ⟨ad, cap, hv, hc1, hc2, hr⟩ := h.rows hp
  have HH := Lib.hid (And.intro h (And.intro hv (And.intro hr (And.intro hc1 hd))))
  have hi : (p : Int) < 64 := by omega
  obtain ⟨b1, b2⟩ := hb p hp
  obtain ⟨n, hn⟩ : ∃ n, n = (R p).length := ⟨_, rfl⟩
  obtain ⟨l0, hl0⟩ : ∃ n, n = lo p := ⟨_, rfl⟩
  rw [← hn] at b1 hc1
  rw [← hl0] at b2
  rw [← hn, ← hl0] at HC hseq
  obtain ⟨s, hs⟩ : ∃ s : Nat, s = l0 + n := ⟨_, rfl⟩
  rw [← hs] at HC hseq
  have hs9 : s ≤ 101000 := by omega
  have d1 : decide ((most : Int) < 1) = false := by simp; omega
  have d2 : decide ((s : Int) < (seq : Int)) = false := by simp; omega
  have d2' : decide (s < seq) = false := by simp; omega
  have d1' : decide (most < 1) = false := by simp; omega
  have d1'' : decide (most = 0) = false := by simp; omega
  obtain ⟨l1, hl1⟩ : ∃ l1 : Nat, IntKind.u32.wrap ((l0 : Int) + 1) = (l1 : Int) := ⟨l0 + 1, by rw [IntKind.wrap_u32]; omega⟩
  have hl1' : l1 = l0 + 1 := by rw [IntKind.wrap_u32] at hl1; omega
  obtain ⟨mx, hmx0⟩ : ∃ mx : Nat, mx = max seq l1 := ⟨_, rfl⟩
  have hmx : (if seq < l1 then (l1 : Int) else (seq : Int)) = (mx : Int) := by split <;> omega
  obtain ⟨m1, hm1⟩ : ∃ m1 : Nat, IntKind.u32.wrap ((mx : Int) - (l0 : Int)) = (m1 : Int) := ⟨mx - l0, by rw [IntKind.wrap_u32]; omega⟩
  obtain ⟨t, ht⟩ : ∃ t : Nat, IntKind.u32.wrap ((m1 : Int) - 1) = (t : Int) := ⟨m1 - 1, by rw [IntKind.wrap_u32] at *; omega⟩
  have htt : t = fromAt l0 seq := by unfold fromAt; rw [IntKind.wrap_u32] at *; omega
  have htn : t ≤ n := by rw [htt]; unfold fromAt; omega
  have HT := Lib.hid (And.intro htt (And.intro hn hl0))
  clear hn hl0 htt hl1' hs h hv hr hb hd hmx0
  go_enter Tryd.func98, Tryd.ntmps98
  go_wp2_with fail
  refine HP.out.mono ?_
  rintro e w' ⟨rfl, rfl⟩
  go_wp2_with fail
  refine HC.out.mono ?_
  rintro e w1 ⟨rfl, hb1⟩
  have h1 := HH.out.1.below hb1
  have c1 := Bel.cell (h1.clo hp) h1.lt
  have c2' := h1.cv hp
  rw [HH.out.2.1] at c2'
  have c2 := Bel.cell c2' h1.lt
  rw [← HT.out.2.2] at c1
  rw [← HT.out.2.1] at c2
  clear c2' h1
  go_wp2_with fail
  refine wp_region_bel (by kernel_rfl) (by kernel_rfl) ?_
  have q1 : (0 : Int) ≤ (t : Int) := by omega
  have q2 : (t : Int) ≤ (n : Int) := by omega
  have q3 : ((t : Int)).toNat = t := by omega
  repeat (go_big_quiet_step ((fail)))
  refine wpQuiet_nil ?_
  intro w5 hw5
  obtain ⟨x5, rfl⟩ := hw5
  have hb5 := bt hb1 x5.prop
  generalize x5.val = w5 at *
  have h5 := HH.out.1.below hb5
  have hr5 := reads_drop (t := t) (cap := cap) ((HH.out.2.2.1).below hb5) (by rw [← HT.out.2.1]; exact htn) (by rw [← HT.out.2.1]; exact hc1)
  rw [← HT.out.2.1] at hr5
  obtain ⟨F, hF⟩ : ∃ F, F = (R p).drop t := ⟨_, rfl⟩
  have hFl : F.length = n - t := by rw [hF, List.length_drop, ← HT.out.2.1]
  rw [← hF, ← hFl] at hr5
  have hFc : F.length ≤ cap - t := by omega
  have hc3 : cap - t ≤ 9223372036854775807 := by omega
  rw [← hFl]
  have HR5 := Lib.hid hr5
  clear hr5
  generalize (if cap = t then ad else Option.map (fun x => x.add (t * 6)) ad) = A2 at *
  generalize cap - t = c2 at *
  obtain ⟨k, hk⟩ : ∃ k, k = min F.length most := ⟨_, rfl⟩
  have hFn : F.length ≤ 1000 := by omega
  have HF := Lib.hid (And.intro hF hFl)
  clear hF hFl q1 q2 q3 hc1
  have HK := Lib.hid (show ∀ k, k = min F.length most → Calls Tryd.prog 74 #[.slice A2 k c2] w5 fun e w' => CopyEnd w (fromL lo R p seq most) e w' ∧ Below w.heap.size w w' from fun k hk => by
    have hrk := reads_take HR5.out (t := k) (by omega)
    have hFk : (F.take k).length = k := by rw [List.length_take]; omega
    have hin : RowsIn w5 (.slice A2 k c2) (F.take k) := ⟨A2, c2, by rw [hFk], by rw [hFk]; exact hrk.more hb5.size⟩
    have hms := hin.msgsAt (by omega) (fun m hm => (h5.ok p hp m (by have := List.mem_of_mem_take hm; rw [HF.out.1] at this; exact List.mem_of_mem_drop this)).1)
    have hfl : fromL lo R p seq most = F.take k := by
      unfold fromL
      rw [← HT.out.2.2, ← HT.out.1, ← HF.out.1, hk, Nat.min_comm, ← List.take_eq_take_min]
    rw [hfl]
    refine (copies_any _ (F.take k) w5 hms (by omega) (fun m hm => HH.out.2.2.2.2 m (by have := List.mem_of_mem_take hm; rw [HF.out.1] at this; exact List.mem_of_mem_drop this))).mono ?_
    rintro e w' ⟨hce, hb6⟩
    exact ⟨hce.up hb5.size, bt hb5 hb6⟩)
  clear hk h5
  go_wp2_with fail
  all_goals
    refine (HK.out _ (by omega)).mono ?_
    rintro e w6 ⟨⟨v6, L6, rfl, h6⟩, hb6⟩
    have H6 := Lib.hid (show CopyEnd w (fromL lo R p seq most) (.returned v6) w6 from ⟨v6, L6, rfl, h6⟩)
    clear h6
    go_wp2
    go_ret
    exact ⟨H6.out, hb6⟩
set_option maxRecDepth 100000 in
set_option maxHeartbeats 4000000 in
theorem hFrom_proc (D : Nat) (p most : Int) (seq : Nat) (w : World) (hp : procB p = false) :
    Calls Tryd.prog 98 #[.pointer (some ⟨D, 0, none⟩), .int .i64 p, .int .u32 (seq : Int), .int .i64 most] w fun e w' => e = .returned (.slice none 0 0) ∧ Below w.heap.size w w' := by
  have HP := Lib.hid (process_any p w)
  rw [hp] at HP
  clear hp
  go_enter Tryd.func98, Tryd.ntmps98
  go_wp2_with fail
  refine HP.out.mono ?_
  rintro e w' ⟨rfl, rfl⟩
  go_wp2
  go_ret
  exact ⟨rfl, br _⟩
set_option maxRecDepth 100000 in
set_option maxHeartbeats 4000000 in
theorem hFrom_most (D p : Nat) (most : Int) (seq : Nat) (w : World) (hp : p < 64) (hm : most < 1) :
    Calls Tryd.prog 98 #[.pointer (some ⟨D, 0, none⟩), .int .i64 (p : Int), .int .u32 (seq : Int), .int .i64 most] w fun e w' => e = .returned (.slice none 0 0) ∧ Below w.heap.size w w' := by
  have HP := Lib.hid (process_any (p : Int) w)
  rw [show procB (p : Int) = true by simp [procB]; omega] at HP
  have d1 : decide (most < 1) = true := by simpa using hm
  go_enter Tryd.func98, Tryd.ntmps98
  go_wp2_with fail
  refine HP.out.mono ?_
  rintro e w' ⟨rfl, rfl⟩
  go_wp2
  go_ret
  exact ⟨rfl, br _⟩
set_option maxRecDepth 100000 in
set_option maxHeartbeats 4000000 in
theorem hFrom_seq (D : Nat) (lo : Nat → Nat) (R : Nat → List Msg) (V : Nat → Value) (p seq : Nat) (most : Int) (w : World) (h : HoldAt w D lo R V) (hb : HoldBd lo R) (hp : p < 64) (hm : 1 ≤ most) (hseq : lo p + (R p).length < seq) :
    Calls Tryd.prog 98 #[.pointer (some ⟨D, 0, none⟩), .int .i64 (p : Int), .int .u32 (seq : Int), .int .i64 most] w fun e w' => e = .returned (.slice none 0 0) ∧ Below w.heap.size w w' := by
  have HP := Lib.hid (process_any (p : Int) w)
  rw [show procB (p : Int) = true by simp [procB]; omega] at HP
  have HC := Lib.hid (hCount_in D lo R V p w h hp hb)
  have d1 : decide (most < 1) = false := by simp; omega
  obtain ⟨s, hs⟩ : ∃ s, s = lo p + (R p).length := ⟨_, rfl⟩
  rw [← hs] at HC hseq
  have d2 : decide (s < seq) = true := by simpa using hseq
  clear h hb hs
  go_enter Tryd.func98, Tryd.ntmps98
  go_wp2_with fail
  refine HP.out.mono ?_
  rintro e w' ⟨rfl, rfl⟩
  go_wp2_with fail
  refine HC.out.mono ?_
  rintro e w1 ⟨rfl, hb1⟩
  go_wp2
  go_ret
  exact ⟨rfl, hb1⟩
/-- what From answers -/
def fromZ (lo : Nat → Nat) (R : Nat → List Msg) (p : Int) (seq : Nat) (most : Int) : List Msg :=
  if procB p = true ∧ 1 ≤ most ∧ seq ≤ lo p.toNat + (R p.toNat).length then fromL lo R p.toNat seq most.toNat else []
theorem hFrom_any (D : Nat) (lo : Nat → Nat) (R : Nat → List Msg) (V : Nat → Value) (p : Int) (seq : Nat) (most : Int) (w : World) (h : HoldAt w D lo R V) (hb : HoldBd lo R) (hmost : most ≤ 9223372036854775807) (hd : ∀ p, p < 64 → ∀ m ∈ R p, m.ds.length ≤ 1000000) :
    Calls Tryd.prog 98 #[.pointer (some ⟨D, 0, none⟩), .int .i64 p, .int .u32 (seq : Int), .int .i64 most] w fun e w' => CopyEnd w (fromZ lo R p seq most) e w' ∧ Below w.heap.size w w' := by
  have hnil : ∀ w', CopyEnd w [] (.returned (.slice none 0 0)) w' := fun w' => ⟨_, [], rfl, ⟨rfl, .inl ⟨rfl, rfl⟩⟩, rfl, by simp⟩
  unfold fromZ
  by_cases hp : procB p = true
  · have hpp : 0 ≤ p ∧ p < 64 := by simpa [procB] using hp
    obtain ⟨q, hq⟩ : ∃ q : Nat, p = (q : Int) := ⟨p.toNat, by omega⟩
    subst hq
    rw [Int.toNat_natCast]
    by_cases hm : 1 ≤ most
    · by_cases hs : seq ≤ lo q + (R q).length
      · rw [if_pos ⟨hp, hm, hs⟩]
        obtain ⟨k, hk⟩ : ∃ k : Nat, most = (k : Int) := ⟨most.toNat, by omega⟩
        subst hk
        rw [Int.toNat_natCast]
        exact hFrom_in D lo R V q seq k w h hb (by omega) hs (by omega) (by omega) (hd q (by omega))
      · rw [if_neg (fun hh => hs hh.2.2)]
        exact (hFrom_seq D lo R V q seq most w h hb (by omega) hm (by omega)).mono fun e w' ⟨he, hb'⟩ => ⟨he ▸ hnil w', hb'⟩
    · rw [if_neg (fun hh => hm hh.2.1)]
      exact (hFrom_most D q most seq w (by omega) (by omega)).mono fun e w' ⟨he, hb'⟩ => ⟨he ▸ hnil w', hb'⟩
  · rw [if_neg (fun hh => hp hh.1)]
    exact (hFrom_proc D p most seq w (by simpa using hp)).mono fun e w' ⟨he, hb'⟩ => ⟨he ▸ hnil w', hb'⟩
end Go.Proofs.YtgjlcjbmcnofiaaDoor
namespace Go.Proofs.YtgjlcjbmcnofiaaDoor
set_option linter.unusedVariables false
set_option linter.unusedSimpArgs false
open Go.RowKit
theorem hLow_at (D : Nat) (lo : Nat → Nat) (R : Nat → List Msg) (V : Nat → Value) (p : Int) (w : World) (h : HoldAt w D lo R V) :
    Calls Tryd.prog 77 #[.pointer (some ⟨D, 0, none⟩), .int .i64 p] w fun e w' => e = .returned (.int .u32 ((if procB p = true then lo p.toNat else 0 : Nat) : Int)) ∧ Below w.heap.size w w' := by
  by_cases hp : procB p = true
  · have hpp : 0 ≤ p ∧ p < 64 := by simpa [procB] using hp
    obtain ⟨q, hq⟩ : ∃ q : Nat, p = (q : Int) := ⟨p.toNat, by omega⟩
    subst hq
    rw [if_pos hp, Int.toNat_natCast]
    exact (hLow_in D lo R V q w h (by omega)).mono fun e w' ⟨he, hb⟩ => ⟨he, hb ▸ br _⟩
  · rw [if_neg hp]
    exact (hLow_out D p w (by simpa using hp)).mono fun e w' ⟨he, hb⟩ => ⟨he, hb ▸ br _⟩
def cntZ (lo : Nat → Nat) (R : Nat → List Msg) (p : Int) : Nat := if procB p = true then lo p.toNat + (R p.toNat).length else 0
theorem hCount_at (D : Nat) (lo : Nat → Nat) (R : Nat → List Msg) (V : Nat → Value) (p : Int) (w : World) (h : HoldAt w D lo R V) (hb : HoldBd lo R) :
    Calls Tryd.prog 73 #[.pointer (some ⟨D, 0, none⟩), .int .i64 p] w fun e w' => e = .returned (.int .u32 (cntZ lo R p : Int)) ∧ Below w.heap.size w w' := by
  unfold cntZ
  by_cases hp : procB p = true
  · have hpp : 0 ≤ p ∧ p < 64 := by simpa [procB] using hp
    obtain ⟨q, hq⟩ : ∃ q : Nat, p = (q : Int) := ⟨p.toNat, by omega⟩
    subst hq
    rw [if_pos hp, Int.toNat_natCast]
    exact hCount_in D lo R V q w h (by omega) hb
  · rw [if_neg hp]
    exact (hCount_out D p w (by simpa using hp)).mono fun e w' ⟨he, hb⟩ => ⟨he, hb ▸ br _⟩
/-- what Get answers -/
def getZ (lo : Nat → Nat) (R : Nat → List Msg) (p : Int) (seq : Nat) : Option Msg :=
  if procB p = true ∧ lo p.toNat < seq ∧ seq ≤ lo p.toNat + (R p.toNat).length then some (gm (R p.toNat) (seq - lo p.toNat - 1)) else none
def GetEnd (o : Option Msg) (e : Ending) (w' : World) : Prop := match o with
  | none => e = .returned (.tuple #[.agg (msgA zeroM), .bool false])
  | some m => ∃ m', e = .returned (.tuple #[.agg (msgA m'), .bool true]) ∧ core m' = core m ∧ MsgOk w' m'
def GetEnd2 (B : Nat) (o : Option Msg) (e : Ending) (w' : World) : Prop := match o with
  | none => e = .returned (.tuple #[.agg (msgA zeroM), .bool false])
  | some m => ∃ m', e = .returned (.tuple #[.agg (msgA m'), .bool true]) ∧ core m' = core m ∧ MsgOk w' m' ∧ ∀ ad, m'.da = some ad → 0 < m'.ds.length → B ≤ ad.block
/-- a message's vector lies in a block of numbers -/
def VecT (w : World) (m : Msg) : Prop := ∀ ad, m.da = some ad → 0 < m.ds.length → ∃ cs fr, w.heap[ad.block]? = some (.cells cs 33 fr)
def GetEnd3 (B : Nat) (o : Option Msg) (e : Ending) (w' : World) : Prop := match o with
  | none => e = .returned (.tuple #[.agg (msgA zeroM), .bool false])
  | some m => ∃ m', e = .returned (.tuple #[.agg (msgA m'), .bool true]) ∧ core m' = core m ∧ MsgOk w' m' ∧ (∀ ad, m'.da = some ad → 0 < m'.ds.length → B ≤ ad.block) ∧ VecT w' m'
theorem from_one {lo : Nat → Nat} {R : Nat → List Msg} {p : Int} {seq : Nat} (h : procB p = true ∧ lo p.toNat < seq ∧ seq ≤ lo p.toNat + (R p.toNat).length) : fromZ lo R p seq 1 = [gm (R p.toNat) (seq - lo p.toNat - 1)] := by
  unfold fromZ
  rw [if_pos ⟨h.1, by omega, h.2.2⟩]
  unfold fromL fromAt
  have e : max seq (lo p.toNat + 1) - lo p.toNat - 1 = seq - lo p.toNat - 1 := by omega
  rw [e, gm_get (by omega)]
  have hd := List.drop_eq_getElem_cons (l := R p.toNat) (i := seq - lo p.toNat - 1) (by omega)
  rw [hd]
  rfl
set_option maxRecDepth 100000 in
set_option maxHeartbeats 4000000 in
theorem hGet_three (D : Nat) (lo : Nat → Nat) (R : Nat → List Msg) (V : Nat → Value) (p : Int) (seq : Nat) (w : World) (h : HoldAt w D lo R V) (hb : HoldBd lo R) (hd : ∀ p, p < 64 → ∀ m ∈ R p, m.ds.length ≤ 1000000) :
    Calls Tryd.prog 90 #[.pointer (some ⟨D, 0, none⟩), .int .i64 p, .int .u32 (seq : Int)] w fun e w' => GetEnd3 w.heap.size (getZ lo R p seq) e w' ∧ Below w.heap.size w w' := by
  have hbA := ba (br w) (.cells (msgA zeroM) 42)
  have hx := heap_alloc_new w (.cells (msgA zeroM) 42)
  have hz : msgA zeroM = #[.int .i64 0, .int .u32 0, .int .u64 0, .int .i64 0, .slice none 0 0, .string ⟨#[]⟩] := rfl
  rw [hz] at hbA hx
  obtain ⟨W, hW⟩ : ∃ W, W = w.alloc (.cells #[.int .i64 0, .int .u32 0, .int .u64 0, .int .i64 0, .slice none 0 0, .string ⟨#[]⟩] 42) := ⟨_, rfl⟩
  rw [← hW] at hbA hx
  have hh := h.below hbA
  have HLo := Lib.hid (fun (W' : World) (hW' : Below W.heap.size W W') => hLow_at D lo R V p W' (hh.below hW'))
  have HCo := Lib.hid (fun (W' : World) (hW' : Below W.heap.size W W') => hCount_at D lo R V p W' (hh.below hW') hb)
  have HFr := Lib.hid (fun (W' : World) (hW' : Below W.heap.size W W') => hFrom_any D lo R V p seq 1 W' (hh.below hW') hb (by omega) hd)
  obtain ⟨l0, hl0⟩ : ∃ l0, l0 = (if procB p = true then lo p.toNat else 0) := ⟨_, rfl⟩
  obtain ⟨c0, hc0⟩ : ∃ c0, c0 = cntZ lo R p := ⟨_, rfl⟩
  rw [← hl0] at HLo
  rw [← hc0] at HCo
  have hxl := (Array.getElem?_eq_some_iff.1 hx).1
  have HA := Lib.hid (And.intro hbA (And.intro hx (And.intro hl0 (And.intro hc0 hxl))))
  clear hbA hx hl0 hc0 hxl hh h
  go_enter Tryd.func90, Tryd.ntmps90
  go_upto_region 1 with (fail)
  rw [← hW]
  clear hW
  have hzv : ∀ W : World, (zeroValue 42).run Tryd.prog W = .ok (.agg #[.int .i64 0, .int .u32 0, .int .u64 0, .int .i64 0, .slice none 0 0, .string ⟨#[]⟩]) W := fun W => by kernel_rfl
  by_cases h1 : seq ≤ l0
  · have d1 : decide (seq ≤ l0) = true := by simpa using h1
    have HG := Lib.hid (show getZ lo R p seq = none from by
      unfold getZ
      rw [if_neg]
      rintro ⟨g1, g2, g3⟩
      have := HA.out.2.2.1
      rw [if_pos g1] at this
      omega)
    clear h1
    go_wp2_with fail
    refine (HLo.out _ (br _)).mono ?_
    rintro e w2 ⟨rfl, hb2⟩
    have hx2 := (hb2.block _ HA.out.2.2.2.2).trans HA.out.2.1
    have hbw := bt HA.out.1 hb2
    have c0 : w2.cell? ⟨w.heap.size, 0, none⟩ = some (.int .i64 0) := cell_of_row _ _ 0 _ _ _ hx2
    have c1 : w2.cell? ⟨w.heap.size, 1, none⟩ = some (.int .u32 0) := cell_of_row _ _ 1 _ _ _ hx2
    have c2 : w2.cell? ⟨w.heap.size, 2, none⟩ = some (.int .u64 0) := cell_of_row _ _ 2 _ _ _ hx2
    have c3 : w2.cell? ⟨w.heap.size, 3, none⟩ = some (.int .i64 0) := cell_of_row _ _ 3 _ _ _ hx2
    have c4 : w2.cell? ⟨w.heap.size, 4, none⟩ = some (.slice none 0 0) := cell_of_row _ _ 4 _ _ _ hx2
    have c5 : w2.cell? ⟨w.heap.size, 5, none⟩ = some (.string ⟨#[]⟩) := cell_of_row _ _ 5 _ _ _ hx2
    have f0 : w2.frozen? ⟨w.heap.size, 0, none⟩ = false := frozen_of_row _ _ _ _ _ hx2
    have f1 : w2.frozen? ⟨w.heap.size, 1, none⟩ = false := frozen_of_row _ _ _ _ _ hx2
    have f2 : w2.frozen? ⟨w.heap.size, 2, none⟩ = false := frozen_of_row _ _ _ _ _ hx2
    have f3 : w2.frozen? ⟨w.heap.size, 3, none⟩ = false := frozen_of_row _ _ _ _ _ hx2
    have f4 : w2.frozen? ⟨w.heap.size, 4, none⟩ = false := frozen_of_row _ _ _ _ _ hx2
    have f5 : w2.frozen? ⟨w.heap.size, 5, none⟩ = false := frozen_of_row _ _ _ _ _ hx2
    have HB := Lib.hid (bs (bs (bs (bs (bs (bs hbw (p := ⟨w.heap.size, 0, none⟩) (Nat.le_refl _) (.int .i64 0)) (p := ⟨w.heap.size, 1, none⟩) (Nat.le_refl _) (.int .u32 0)) (p := ⟨w.heap.size, 2, none⟩) (Nat.le_refl _) (.int .u64 0)) (p := ⟨w.heap.size, 3, none⟩) (Nat.le_refl _) (.int .i64 0)) (p := ⟨w.heap.size, 4, none⟩) (Nat.le_refl _) (.slice none 0 0)) (p := ⟨w.heap.size, 5, none⟩) (Nat.le_refl _) (.string ⟨#[]⟩))
    clear hb2 hbw
    go_wp2
    refine bodyPost_ret (v := .tuple #[.agg (msgA zeroM), .bool false]) (by simp [results, Tryd.results90, go_sem, c0, c1, c2, c3, c4, c5, hz]) rfl ⟨by rw [HG.out]; rfl, HB.out⟩
  · have d1 : decide (seq ≤ l0) = false := by simpa using h1
    by_cases h2 : c0 < seq
    · have d2 : decide (c0 < seq) = true := by simpa using h2
      have HG := Lib.hid (show getZ lo R p seq = none from by
        unfold getZ
        rw [if_neg]
        rintro ⟨g1, g2, g3⟩
        have := HA.out.2.2.2.1
        unfold cntZ at this
        rw [if_pos g1] at this
        omega)
      clear h1 h2
      go_wp2_with fail
      refine (HLo.out _ (br _)).mono ?_
      rintro e w1 ⟨rfl, hb1⟩
      have HB1 := Lib.hid hb1
      clear hb1
      go_wp2_with fail
      refine (HCo.out _ HB1.out).mono ?_
      rintro e w2 ⟨rfl, hb2'⟩
      have hb2 := bt HB1.out hb2'
      have hx2 := (hb2.block _ HA.out.2.2.2.2).trans HA.out.2.1
      have hbw := bt HA.out.1 hb2
      have c0 : w2.cell? ⟨w.heap.size, 0, none⟩ = some (.int .i64 0) := cell_of_row _ _ 0 _ _ _ hx2
      have c1 : w2.cell? ⟨w.heap.size, 1, none⟩ = some (.int .u32 0) := cell_of_row _ _ 1 _ _ _ hx2
      have c2 : w2.cell? ⟨w.heap.size, 2, none⟩ = some (.int .u64 0) := cell_of_row _ _ 2 _ _ _ hx2
      have c3 : w2.cell? ⟨w.heap.size, 3, none⟩ = some (.int .i64 0) := cell_of_row _ _ 3 _ _ _ hx2
      have c4 : w2.cell? ⟨w.heap.size, 4, none⟩ = some (.slice none 0 0) := cell_of_row _ _ 4 _ _ _ hx2
      have c5 : w2.cell? ⟨w.heap.size, 5, none⟩ = some (.string ⟨#[]⟩) := cell_of_row _ _ 5 _ _ _ hx2
      have f0 : w2.frozen? ⟨w.heap.size, 0, none⟩ = false := frozen_of_row _ _ _ _ _ hx2
      have f1 : w2.frozen? ⟨w.heap.size, 1, none⟩ = false := frozen_of_row _ _ _ _ _ hx2
      have f2 : w2.frozen? ⟨w.heap.size, 2, none⟩ = false := frozen_of_row _ _ _ _ _ hx2
      have f3 : w2.frozen? ⟨w.heap.size, 3, none⟩ = false := frozen_of_row _ _ _ _ _ hx2
      have f4 : w2.frozen? ⟨w.heap.size, 4, none⟩ = false := frozen_of_row _ _ _ _ _ hx2
      have f5 : w2.frozen? ⟨w.heap.size, 5, none⟩ = false := frozen_of_row _ _ _ _ _ hx2
      have HB := Lib.hid (bs (bs (bs (bs (bs (bs hbw (p := ⟨w.heap.size, 0, none⟩) (Nat.le_refl _) (.int .i64 0)) (p := ⟨w.heap.size, 1, none⟩) (Nat.le_refl _) (.int .u32 0)) (p := ⟨w.heap.size, 2, none⟩) (Nat.le_refl _) (.int .u64 0)) (p := ⟨w.heap.size, 3, none⟩) (Nat.le_refl _) (.int .i64 0)) (p := ⟨w.heap.size, 4, none⟩) (Nat.le_refl _) (.slice none 0 0)) (p := ⟨w.heap.size, 5, none⟩) (Nat.le_refl _) (.string ⟨#[]⟩))
      clear hb2 hb2' hbw
      go_wp2
      refine bodyPost_ret (v := .tuple #[.agg (msgA zeroM), .bool false]) (by simp [results, Tryd.results90, go_sem, c0, c1, c2, c3, c4, c5, hz]) rfl ⟨by rw [HG.out]; rfl, HB.out⟩
    · have d2 : decide (c0 < seq) = false := by simpa using h2
      have hcond : procB p = true ∧ lo p.toNat < seq ∧ seq ≤ lo p.toNat + (R p.toNat).length := by
        have e1 := HA.out.2.2.1
        have e2 := HA.out.2.2.2.1
        unfold cntZ at e2
        by_cases hp : procB p = true
        · rw [if_pos hp] at e1 e2
          exact ⟨hp, by omega, by omega⟩
        · rw [if_neg hp] at e1 e2
          omega
      have HG := Lib.hid (show getZ lo R p seq = some (gm (R p.toNat) (seq - lo p.toNat - 1)) from if_pos hcond)
      have hf1 := from_one hcond
      rw [hf1] at HFr
      clear h1 h2 hcond hf1
      go_wp2_with fail
      refine (HLo.out _ (br _)).mono ?_
      rintro e w1 ⟨rfl, hb1⟩
      have HB1 := Lib.hid hb1
      clear hb1
      go_wp2_with fail
      refine (HCo.out _ HB1.out).mono ?_
      rintro e w2 ⟨rfl, hb2'⟩
      have HB2 := Lib.hid (bt HB1.out hb2')
      clear hb2'
      go_wp2_with fail
      refine (HFr.out _ HB2.out).mono ?_
      rintro e w3 ⟨⟨v3, L3, rfl, ho3, hmap, hfr⟩, hb3'⟩
      obtain ⟨m', rfl⟩ : ∃ m', L3 = [m'] := by
        have := congrArg List.length hmap
        simp at this
        exact one_len this
      have hcore : core m' = core (gm (R p.toNat) (seq - lo p.toNat - 1)) := by simpa using hmap
      have hb3 := bt HB2.out hb3'
      have hx2 := (hb3.block _ HA.out.2.2.2.2).trans HA.out.2.1
      have hbw := bt HA.out.1 hb3
      obtain ⟨a3, cp3, rfl⟩ := ownForm ho3
      obtain ⟨g3, rfl, hg3, hrow⟩ := own_msg ho3 (j := 0) (by simp)
      have hne : g3 ≠ w.heap.size := by
        have := (ho3.lt g3 rfl).1
        have := HB2.out.size
        have := HA.out.2.2.2.2
        omega
      have y0 : w3.cell? ⟨g3, 0, none⟩ = some (.int .i64 m'.frm) := by simpa using hrow 0 _ rfl
      have y1 : w3.cell? ⟨g3, 1, none⟩ = some (.int .u32 (m'.seq : Int)) := by simpa using hrow 1 _ rfl
      have y2 : w3.cell? ⟨g3, 2, none⟩ = some (.int .u64 (m'.stamp : Int)) := by simpa using hrow 2 _ rfl
      have y3 : w3.cell? ⟨g3, 3, none⟩ = some (.int .i64 m'.service) := by simpa using hrow 3 _ rfl
      have y4 : w3.cell? ⟨g3, 4, none⟩ = some (.slice m'.da m'.ds.length m'.dc) := by simpa using hrow 4 _ rfl
      have y5 : w3.cell? ⟨g3, 5, none⟩ = some (.string m'.pay) := by simpa using hrow 5 _ rfl
      have c0 : w3.cell? ⟨w.heap.size, 0, none⟩ = some (.int .i64 0) := cell_of_row _ _ 0 _ _ _ hx2
      have c1 : w3.cell? ⟨w.heap.size, 1, none⟩ = some (.int .u32 0) := cell_of_row _ _ 1 _ _ _ hx2
      have c2 : w3.cell? ⟨w.heap.size, 2, none⟩ = some (.int .u64 0) := cell_of_row _ _ 2 _ _ _ hx2
      have c3 : w3.cell? ⟨w.heap.size, 3, none⟩ = some (.int .i64 0) := cell_of_row _ _ 3 _ _ _ hx2
      have c4 : w3.cell? ⟨w.heap.size, 4, none⟩ = some (.slice none 0 0) := cell_of_row _ _ 4 _ _ _ hx2
      have c5 : w3.cell? ⟨w.heap.size, 5, none⟩ = some (.string ⟨#[]⟩) := cell_of_row _ _ 5 _ _ _ hx2
      have f0 : w3.frozen? ⟨w.heap.size, 0, none⟩ = false := frozen_of_row _ _ _ _ _ hx2
      have f1 : w3.frozen? ⟨w.heap.size, 1, none⟩ = false := frozen_of_row _ _ _ _ _ hx2
      have f2 : w3.frozen? ⟨w.heap.size, 2, none⟩ = false := frozen_of_row _ _ _ _ _ hx2
      have f3 : w3.frozen? ⟨w.heap.size, 3, none⟩ = false := frozen_of_row _ _ _ _ _ hx2
      have f4 : w3.frozen? ⟨w.heap.size, 4, none⟩ = false := frozen_of_row _ _ _ _ _ hx2
      have f5 : w3.frozen? ⟨w.heap.size, 5, none⟩ = false := frozen_of_row _ _ _ _ _ hx2
      have HB := Lib.hid (bs (bs (bs (bs (bs (bs hbw (p := ⟨w.heap.size, 0, none⟩) (Nat.le_refl _) (.int .i64 m'.frm)) (p := ⟨w.heap.size, 1, none⟩) (Nat.le_refl _) (.int .u32 (m'.seq : Int))) (p := ⟨w.heap.size, 2, none⟩) (Nat.le_refl _) (.int .u64 (m'.stamp : Int))) (p := ⟨w.heap.size, 3, none⟩) (Nat.le_refl _) (.int .i64 m'.service)) (p := ⟨w.heap.size, 4, none⟩) (Nat.le_refl _) (.slice m'.da m'.ds.length m'.dc)) (p := ⟨w.heap.size, 5, none⟩) (Nat.le_refl _) (.string m'.pay))
      have hok := (hfr m' (by simp)).1
      have hk : Kept (fun b => b = w.heap.size) w3 (putM w3 w.heap.size 0 m') := by
        unfold putM
        exact ((((((show Kept (fun b => b = w.heap.size) w3 w3 from .refl _ _).setCell (p := ⟨w.heap.size, 0, none⟩) rfl _).setCell (p := ⟨w.heap.size, 0 + 1, none⟩) rfl _).setCell (p := ⟨w.heap.size, 0 + 2, none⟩) rfl _).setCell (p := ⟨w.heap.size, 0 + 3, none⟩) rfl _).setCell (p := ⟨w.heap.size, 0 + 4, none⟩) rfl _).setCell (p := ⟨w.heap.size, 0 + 5, none⟩) rfl _
      have hok2 := hok.kept hk (fun ad e hn hin => by
        obtain ⟨g, c, e2, e3, e4⟩ := (hfr m' (by simp)).2.form hn
        injection e2 with e2
        rw [e] at e2
        injection e2 with e2
        have := HB2.out.size
        have := HA.out.2.2.2.2
        rw [e2] at hin
        simp at hin
        omega)
      unfold putM at hok2
      simp only [Nat.zero_add] at hok2
      have hfre : ∀ ad, m'.da = some ad → 0 < m'.ds.length → w.heap.size ≤ ad.block := fun ad e hn => by
        obtain ⟨g, c, e2, e3, e4⟩ := (hfr m' (by simp)).2.form hn
        injection e2 with e2
        rw [e] at e2
        injection e2 with e2
        have := HB2.out.size
        have := HA.out.2.2.2.2
        rw [e2]
        show w.heap.size ≤ g
        omega
      have hvec : VecT (putM w3 w.heap.size 0 m') m' := fun ad e hn => by
        obtain ⟨c, fz, hc⟩ := Lib.ownsRow_kind (hfr m' (by simp)).2 ad.block (by rw [e]; rfl)
        refine ⟨c, fz, hk.keep hc (fun e2 => ?_)⟩
        obtain ⟨g, c, e3, e4, e5⟩ := (hfr m' (by simp)).2.form hn
        injection e3 with e3
        rw [e] at e3
        injection e3 with e3
        have := HB2.out.size
        have := HA.out.2.2.2.2
        rw [e3] at e2
        have e2 : g = w.heap.size := e2
        omega
      unfold putM at hvec
      simp only [Nat.zero_add] at hvec
      have HOK := Lib.hid (And.intro hok2 (And.intro hcore (And.intro hfre hvec)))
      clear hb3 hb3' hbw hok hk hok2 hcore hfr ho3 hmap hrow hfre hvec
      go_wp2
      refine bodyPost_ret (v := .tuple #[.agg (msgA m'), .bool true]) (by simp [results, Tryd.results90, go_sem, msgA, c0, c1, c2, c3, c4, c5]) rfl ⟨?_, HB.out⟩
      rw [HG.out]
      exact ⟨m', rfl, HOK.out.2.1, HOK.out.1, HOK.out.2.2.1, HOK.out.2.2.2⟩
theorem hGet_two (D : Nat) (lo : Nat → Nat) (R : Nat → List Msg) (V : Nat → Value) (p : Int) (seq : Nat) (w : World) (h : HoldAt w D lo R V) (hb : HoldBd lo R) (hd : ∀ p, p < 64 → ∀ m ∈ R p, m.ds.length ≤ 1000000) :
    Calls Tryd.prog 90 #[.pointer (some ⟨D, 0, none⟩), .int .i64 p, .int .u32 (seq : Int)] w fun e w' => GetEnd2 w.heap.size (getZ lo R p seq) e w' ∧ Below w.heap.size w w' :=
  (hGet_three D lo R V p seq w h hb hd).mono fun e w' ⟨h1, h2⟩ => ⟨by
    unfold GetEnd3 at h1
    unfold GetEnd2
    cases hg : getZ lo R p seq with
    | none => rw [hg] at h1; exact h1
    | some m =>
      rw [hg] at h1
      obtain ⟨m', a, b, c, d, _⟩ := h1
      exact ⟨m', a, b, c, d⟩, h2⟩
theorem hGet_any (D : Nat) (lo : Nat → Nat) (R : Nat → List Msg) (V : Nat → Value) (p : Int) (seq : Nat) (w : World) (h : HoldAt w D lo R V) (hb : HoldBd lo R) (hd : ∀ p, p < 64 → ∀ m ∈ R p, m.ds.length ≤ 1000000) :
    Calls Tryd.prog 90 #[.pointer (some ⟨D, 0, none⟩), .int .i64 p, .int .u32 (seq : Int)] w fun e w' => GetEnd (getZ lo R p seq) e w' ∧ Below w.heap.size w w' :=
  (hGet_two D lo R V p seq w h hb hd).mono fun e w' ⟨he, hb'⟩ => ⟨by
    revert he
    cases getZ lo R p seq with
    | none => exact fun h => h
    | some m => exact fun ⟨m', h1, h2, h3, _⟩ => ⟨m', h1, h2, h3⟩, hb'⟩
end Go.Proofs.YtgjlcjbmcnofiaaDoor
