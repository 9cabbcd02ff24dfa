/-
  What the key's Sort returns of messages, however many; what was handed in stays.
  Conditions: none.
-/
import Derived.Test.YtgjlcjbmcnofiaaDoorSortG
namespace Go.Proofs.YtgjlcjbmcnofiaaDoor
set_option linter.unusedVariables false
set_option linter.unusedSimpArgs false
open Go.RowKit
theorem rowM_of_own {w : World} {base g cap : Nat} {l : List Msg} (h : w.ownsRow base 42 6 (.slice (some ⟨g, 0, none⟩) l.length cap) l.length (rowsM l)) : RowM w g l := by
  obtain ⟨g3, cap3, cur, e1, e2, e3, e4, e5, e6, _⟩ := h.2.resolve_left (by rintro ⟨h, _⟩; cases h)
  injection e1 with e1 e7 e8
  injection e1 with e1
  injection e1 with e1
  subst e1
  refine ⟨fun i hi j u hu => ?_, fun j hj => ?_, (Array.getElem?_eq_some_iff.1 e3).1⟩
  · have := h.cells (g := g) rfl (i * 6 + j) u (rowsM_at l i hi j u hu)
    rw [← this]
    congr 1
    unfold Addr.add
    split <;> simp_all
  · refine ⟨?_, frozen_of_row _ _ _ _ _ e3⟩
    have hjs : 0 + j < cur.size := by omega
    rw [cell_of_row _ _ (0 + j) _ _ _ e3, Array.getElem?_eq_getElem hjs]
    rfl
theorem RowM.rowsAt {w : World} {g cap : Nat} {l : List Msg} (h : RowM w g l) (h1 : l.length ≤ cap) (h2 : cap ≤ 9223372036854775807) : RowsAt w (.slice (Option.some ⟨g, 0, none⟩) l.length cap) l := by
  refine ⟨_, cap, rfl, h1, h2, rowsM_len l, fun _ => ⟨_, rfl, h.lt, fun k u hu => ?_⟩⟩
  obtain ⟨i, hi, j, rfl, hj⟩ := rowsM_get hu
  rw [← h.at_ i hi j u hj]
  congr 1
  unfold Addr.add
  split <;> simp_all
theorem MsgsAt.rowsIn {w : World} {v : Value} {l : List Msg} (h : MsgsAt w v l) : RowsIn w v l := by
  obtain ⟨ad, cap, rfl, hl, h⟩ := h
  refine ⟨ad, cap, rfl, rowsM_len l, fun hn => ?_⟩
  obtain ⟨B, O, rfl, hB, _, _⟩ := h 0 hn
  refine ⟨_, rfl, hB, fun k u hu => ?_⟩
  obtain ⟨i, hi, j, rfl, hj⟩ := rowsM_get hu
  obtain ⟨B', O', e, _, hr, _⟩ := h i hi
  injection e with e
  injection e with e1 e2
  subst e1; subst e2
  rw [← hr j u hj]
  congr 1
  unfold Addr.add
  split <;> simp_all <;> omega
theorem RowsIn.msg {w : World} {v : Value} {J : List Msg} (h : RowsIn w v J) {j : Nat} (hj : j < J.length) : ∃ cap g o, v = .slice (some ⟨g, o, none⟩) J.length cap ∧ g < w.heap.size ∧ w.rangeAt g (o + j * 6) (msgA J[j]).toList := by
  obtain ⟨ad, cap, rfl, hr⟩ := h
  obtain ⟨⟨g, o, sp⟩, rfl, hb, hc⟩ := hr.2 (by omega)
  have h0 := hc 0 _ (rowsM_at J 0 (by omega) 0 _ rfl)
  have hsp : sp = none := by
    have := World.cell?_spot h0
    simpa [Addr.add] using this
  subst hsp
  refine ⟨cap, g, o, rfl, hb, fun i u hu => ?_⟩
  have := hc (j * 6 + i) u (rowsM_at J j hj i u hu)
  rw [← this]
  congr 1
  unfold Addr.add
  split <;> simp_all <;> omega
theorem RowsIn.msgsAt {w : World} {v : Value} {l : List Msg} (h : RowsIn w v l) (hl : l.length ≤ 9223372036854775807) (hm : ∀ m ∈ l, MsgOk w m) : MsgsAt w v l := by
  obtain ⟨ad, cap, e, hr⟩ := id h
  refine ⟨ad, cap, e, hl, fun i hi => ?_⟩
  obtain ⟨cap', g, o, e', hg, hrow⟩ := h.msg hi
  rw [e] at e'
  injection e' with e1 e2 e3
  exact ⟨g, o, e1, hg, hrow, hm _ (List.getElem_mem hi)⟩
set_option maxRecDepth 100000 in
set_option maxHeartbeats 2000000 in
theorem kInsert0 (w : World) : Calls Tryd.prog 102 #[.slice none 0 0, .int .i64 0, .int .i64 0, .func (.func 94) #[] #[]] w fun e w' => e = .returned (.tuple #[]) ∧ w = w' := by
  go_enter Tryd.func102, Tryd.ntmps102
  go_wp2
  go_loopw [8] (fun i wr => i = .int .i64 1 ∧ w = wr) (fun _ _ => 0)
  case atStart => exact ⟨rfl, rfl⟩
  case round =>
    obtain ⟨rfl, rfl⟩ := hrel
    go_wp2
    refine bodyPost_end (results_none rfl _ _ _) rfl ⟨rfl, rfl⟩
set_option maxRecDepth 100000 in
set_option maxHeartbeats 2000000 in
theorem kStable0 (w : World) : Calls Tryd.prog 99 #[.slice none 0 0, .int .i64 0, .func (.func 94) #[] #[]] w fun e w' => e = .returned (.tuple #[]) ∧ w = w' := by
  have HI := Lib.hid (kInsert0 w)
  go_enter Tryd.func99, Tryd.ntmps99
  go_wp2
  go_loopw [7, 8] (fun x y wr => x = .int .i64 0 ∧ y = .int .i64 20 ∧ w = wr) (fun _ _ _ => 0)
  case atStart => exact ⟨rfl, rfl, rfl⟩
  case round =>
    obtain ⟨rfl, rfl, rfl⟩ := hrel
    go_wp2_with fail
    refine HI.out.mono ?_
    rintro e w5 ⟨rfl, rfl⟩
    go_wp2
    go_loopw [6] (fun x wr => x = .int .i64 20 ∧ w = wr) (fun _ _ => 0)
    case atStart => exact ⟨rfl, rfl⟩
    case round =>
      obtain ⟨rfl, rfl⟩ := hrel
      go_wp2
      refine bodyPost_end (results_none rfl _ _ _) rfl ⟨rfl, rfl⟩
/-- where a slice lies -/
def inRow (v : Value) (q : Nat) : Prop := v.ownBlock = some q
set_option maxRecDepth 100000 in
set_option maxHeartbeats 2000000 in
theorem kSSF_gen (v : Value) (l : List Msg) (base : Nat) (w : World) (h : w.ownsRow base 42 6 v l.length (rowsM l)) (hl : l.length ≤ 1000) : Calls Tryd.prog 93 #[v, .func (.func 94) #[] #[]] w fun e w' => e = .returned (.tuple #[]) ∧ RowsAt w' v (sortM l) ∧ Kept (inRow v) w w' := by
  rcases id h.2 with ⟨rfl, h0⟩ | ⟨g, cap, cur, rfl, _, _, h1, h2, _⟩
  · have : l = [] := List.eq_nil_of_length_eq_zero h0
    subst this
    have HI := Lib.hid (kStable0 w)
    have HR := Lib.hid (show RowsAt w (.slice none 0 0) (sortM []) from RowsAt.nil w)
    clear h h0
    go_enter Tryd.func93, Tryd.ntmps93
    go_wp2_with fail
    refine HI.out.mono ?_
    rintro e w5 ⟨rfl, rfl⟩
    go_wp2
    refine bodyPost_end (results_none rfl _ _ _) rfl ⟨rfl, HR.out, .refl _ _⟩
  · have hr := rowM_of_own h
    have HI := Lib.hid (kStable_gen g cap l.length l w rfl hl hr)
    have HC := Lib.hid (And.intro h1 (show cap ≤ 9223372036854775807 by unfold maxLen at h2; exact h2))
    have HN := Lib.hid (sortM_len l)
    obtain ⟨n, hn⟩ : ∃ n, n = l.length := ⟨_, rfl⟩
    rw [← hn] at HI HC hl ⊢
    have HN2 := Lib.hid hn
    clear h h1 h2 hr hn
    go_enter Tryd.func93, Tryd.ntmps93
    go_wp2_with fail
    refine HI.out.mono ?_
    rintro e w5 ⟨rfl, hr, hK⟩
    have hz := hr.rowsAt (cap := cap) (by rw [HN.out, ← HN2.out]; exact HC.out.1) HC.out.2
    rw [HN.out, ← HN2.out] at hz
    have HZ := Lib.hid (And.intro hz (hK.more (T := inRow (.slice (some ⟨g, 0, none⟩) n cap)) (fun k _ (e : k = g) => by subst e; rfl)))
    clear hr hK hz
    go_wp2
    refine bodyPost_end (results_none rfl _ _ _) rfl ⟨rfl, HZ.out.1, HZ.out.2⟩
def OwnEnd (w : World) (l : List Msg) (e : Ending) (w' : World) : Prop := ∃ v, e = .returned v ∧ w'.ownsRow w.heap.size 42 6 v l.length (rowsM l)
set_option maxRecDepth 100000 in
set_option maxHeartbeats 2000000 in
theorem kClone_gen (v : Value) (l : List Msg) (w : World) (h : RowsIn w v l) (hl : l.length ≤ 1000) : Calls Tryd.prog 78 #[v] w fun e w' => OwnEnd w l e w' ∧ Below w.heap.size w w' := by
  obtain ⟨ad, cap, rfl, hr⟩ := h
  rcases ad with _ | p
  · have h0 : l.length = 0 := by
      rcases Nat.eq_zero_or_pos l.length with h | h
      · exact h
      · obtain ⟨_, e, _⟩ := hr.2 h; cases e
    have : l = [] := List.eq_nil_of_length_eq_zero h0
    subst this
    have hnil : ∀ W : World, (Go.binOp .eql 27 (.slice none 0 cap) (.slice none 0 0)).run Tryd.prog W = .ok (.bool true) W := fun W => Lib.run_eql_slice_nil W 27 42 none 0 cap 0 0 Tryd.underlying27
    have HO := Lib.hid (show OwnEnd w [] (.returned (.slice none 0 0)) w from ⟨_, rfl, rfl, .inl ⟨rfl, rfl⟩⟩)
    clear hr h0 hl
    go_enter Tryd.func78, Tryd.ntmps78
    go_wp2
    go_ret
    exact ⟨HO.out, br _⟩
  · exact (kClone_any l p cap w hr hl).mono fun e w' ⟨u, he, ho, hb⟩ => ⟨⟨u, he, ho⟩, hb⟩
def SortEnd (w : World) (l : List Msg) (e : Ending) (w' : World) : Prop := ∃ v, e = .returned v ∧ RowsAt w' v (sortM l) ∧ ∀ q, inRow v q → w.heap.size ≤ q
set_option maxRecDepth 100000 in
set_option maxHeartbeats 2000000 in
theorem kSort_gen (v : Value) (l : List Msg) (w : World) (h : RowsIn w v l) (hl : l.length ≤ 1000) : Calls Tryd.prog 80 #[v] w fun e w' => SortEnd w l e w' ∧ Below w.heap.size w w' := by
  have HC := Lib.hid (kClone_gen v l w h hl)
  clear h
  go_enter Tryd.func80, Tryd.ntmps80
  go_wp2_with fail
  refine HC.out.mono ?_
  rintro e w5 ⟨⟨u, rfl, ho⟩, hb5⟩
  have HS := Lib.hid (kSSF_gen u l _ w5 ho hl)
  have HF := Lib.hid (show ∀ q, inRow u q → w.heap.size ≤ q from fun q hq => (ho.lt q hq).1)
  clear ho
  go_wp2_with fail
  refine HS.out.mono ?_
  rintro e w6 ⟨rfl, hR, hK⟩
  have hb6 := hK.out hb5 hb5.size (by intro q hq hin; have := HF.out q hin; omega)
  have HR := Lib.hid hR
  clear hR
  go_wp2
  go_ret
  exact ⟨⟨_, rfl, HR.out, HF.out⟩, hb6⟩
end Go.Proofs.YtgjlcjbmcnofiaaDoor
