/-
  A row of what was sent changes in an owned monitor; sizes; what an event leaves of a monitor.
  Conditions: those that each theorem names.
-/
import Derived.Test.YtogagkgkmoppmaaMonP
namespace Go.Proofs.Ytogagkgkmoppmaa
set_option linter.unusedVariables false
set_option linter.unusedSimpArgs false
open Go.RowKit GM
theorem put_split {α β : Type} [DecidableEq α] : ∀ {L : List (α × β)} {k : α} {r : β}, (L.map (·.1)).Nodup → get L k = some r → ∃ l1 l2, L = l1 ++ (k, r) :: l2 ∧ ∀ v, put L k v = l1 ++ (k, v) :: l2
  | [], k, r, _, h => by cases h
  | (a, b) :: L, k, r, hn, h => by
    rw [List.map_cons, List.nodup_cons] at hn
    by_cases e : a = k
    · subst e
      have hb : b = r := by
        unfold GM.get at h
        simp only [List.find?_cons, decide_true, Option.map_some] at h
        injection h
      subst hb
      refine ⟨[], L, rfl, fun v => ?_⟩
      unfold put has
      simp only [List.find?_cons, decide_true, Option.isSome_some, if_true, List.map_cons, List.nil_append]
      congr 1
      refine (List.map_congr_left fun x hx => ?_).trans (List.map_id _)
      have : x.1 ≠ a := fun e => hn.1 (e ▸ List.mem_map.2 ⟨x, hx, rfl⟩)
      simp [this]
    · have h' : get L k = some r := by
        unfold GM.get at h ⊢
        rwa [List.find?_cons_of_neg (by simpa using e)] at h
      obtain ⟨l1, l2, e1, e2⟩ := put_split hn.2 h'
      refine ⟨(a, b) :: l1, l2, by rw [e1]; rfl, fun v => ?_⟩
      have h2 := e2 v
      have hh : has L k = true := by rw [has_get, h']; rfl
      have hh2 : has ((a, b) :: L) k = true := by
        unfold has at hh ⊢
        rwa [List.find?_cons_of_neg (by simpa using e)]
      unfold put at h2 ⊢
      rw [if_pos hh] at h2
      rw [if_pos hh2, List.map_cons, if_neg e, h2]
      rfl
theorem perm_sr (m s r : Pc) (X Y : List Pc) : (m :: s :: (X ++ r :: Y)).Perm (s :: r :: m :: (X ++ Y)) := by
  refine (List.Perm.swap s m _).trans (List.Perm.cons s ?_)
  exact (List.Perm.cons m List.perm_middle).trans (List.Perm.swap r m _)
def noRow : SR := ⟨[], none, 0⟩
def sentR (M : MM) (k : PlaceK) : SR := (get M.sends k).getD noRow
def MM.sent (M : MM) (k : PlaceK) (r : SR) : MM := { M with sends := put M.sends k r }
theorem noRow_ok (w : World) : RowOk w noRow := ⟨⟨rfl, .inl ⟨rfl, rfl⟩⟩, fun m hm => by cases hm⟩
theorem sent_ok {w : World} {B b0 : Nat} {M : MM} {R : List Pc} (h : Own w b0 (parts B M ++ R)) (k : PlaceK) : RowOk w (sentR M k) := by
  unfold sentR
  cases hg : get M.sends k with
  | none => exact noRow_ok w
  | some r =>
    unfold GM.get at hg
    cases hf : M.sends.find? (fun x => decide (x.1 = k)) with
    | none => rw [hf] at hg; cases hg
    | some p =>
      rw [hf] at hg
      injection hg with hg
      have hg : p.2 = r := hg
      have := own_snd h (List.mem_of_find?_eq_some hf)
      rw [hg] at this
      exact this
theorem map_ne_row {α : Type} [DecidableEq α] {f : α → Value} {w : World} {b : Nat} {L : List (α × Value)} (h : GMap f w b L) {r : SR} (hr : RowOk w r) : (rowPc r).blk ≠ some b := by
  intro e
  obtain ⟨c, fz, hc⟩ := Lib.ownsRow_kind hr.1 b e
  obtain ⟨_, es, clock, hb, _⟩ := h
  rw [hb] at hc
  cases hc
theorem own_send {w w' : World} {B b0 : Nat} {M : MM} {R : List Pc} {k : PlaceK} {r' : SR} (h : Own w b0 (parts B M ++ R)) (hb0 : b0 ≤ w.heap.size)
    (hk : Kept (fun b => b = M.c.sb ∨ (rowPc (sentR M k)).blk = some b) w w') (hm : GMap placeV w' M.c.sb (vals slV (put M.sends k r'))) (hr : RowOk w' r')
    (hB : ∀ b, (rowPc r').blk = some b → (rowPc (sentR M k)).blk = some b ∨ w.heap.size ≤ b) : Own w' b0 (parts B (M.sent k r') ++ R) ∧ Kept (fun k => b0 ≤ k) w w' := by
  have hnd : (M.sends.map (·.1)).Nodup := by
    have := (own_sends h).1
    unfold vals at this
    rw [List.map_map] at this
    exact this
  have hne : ∀ b, (sendsPc (M.sent k r')).blk = some b → (rowPc r').blk ≠ some b := fun b e => by
    injection e with e
    rw [← e]
    exact map_ne_row hm hr
  have hL' : Own w' 0 [sendsPc (M.sent k r'), rowPc r'] := by
    refine ⟨fun p hp => ?_, fun _ _ _ _ => Nat.zero_le _, ?_⟩
    · rcases List.mem_cons.1 hp with rfl | hp
      · exact hm
      · rw [List.mem_singleton.1 hp]
        exact hr
    · refine List.pairwise_cons.2 ⟨fun q hq b e => ?_, List.pairwise_singleton _ _⟩
      rw [List.mem_singleton.1 hq]
      exact hne b e
  let A := [seenPc M, memsPc M, livePc M, nowPc M, rowP M] ++ M.stays.flatMap stP
  unfold sentR at hk hB
  cases hg : get M.sends k with
  | none =>
    rw [hg] at hk hB
    have hput : put M.sends k r' = M.sends ++ [(k, r')] := by
      unfold put
      rw [has_get, hg]
      rfl
    have hp : (parts B M ++ R).Perm ([sendsPc M] ++ (monPc B M.c :: (A ++ ((M.sends.map fun p => rowPc p.2) ++ R)))) := by
      show ([monPc B M.c, sendsPc M] ++ (A ++ (M.sends.map fun p => rowPc p.2)) ++ R).Perm _
      rw [List.append_assoc, List.append_assoc]
      exact List.Perm.swap _ _ _
    have hk' : Kept (Reach w [sendsPc M]) w w' := hk.more fun b _ e => by
      rcases e with e | e
      · exact .inl ⟨_, List.mem_singleton.2 rfl, by rw [e]; rfl⟩
      · cases e
    have h1 := h.perm hp
    refine ⟨(Own.step h1 hb0 hk' hL' ?_).perm ?_, Own.low h1.left hb0 hk'⟩
    · intro p hp b e
      rcases List.mem_cons.1 hp with rfl | hp
      · exact .inl ⟨_, List.mem_singleton.2 rfl, e⟩
      · rw [List.mem_singleton.1 hp] at e
        rcases hB b e with e | e
        · cases e
        · exact .inr e
    · have e1 : parts B (M.sent k r') ++ R = monPc B M.c :: sendsPc (M.sent k r') :: ((A ++ (M.sends.map fun p => rowPc p.2)) ++ rowPc r' :: R) := by
        show monPc B M.c :: sendsPc (M.sent k r') :: (A ++ ((put M.sends k r').map fun p => rowPc p.2)) ++ R = _
        rw [hput, List.map_append]
        simp
      rw [e1]
      have := (perm_sr (monPc B M.c) (sendsPc (M.sent k r')) (rowPc r') (A ++ (M.sends.map fun p => rowPc p.2)) R).symm
      rw [List.append_assoc A _ R] at this
      exact this
  | some r =>
    rw [hg] at hk hB
    obtain ⟨l1, l2, e1, e2⟩ := put_split hnd hg
    have hpp : parts B M ++ R = monPc B M.c :: sendsPc M :: ((A ++ (l1.map fun p => rowPc p.2)) ++ rowPc r :: ((l2.map fun p => rowPc p.2) ++ R)) := by
      show monPc B M.c :: sendsPc M :: (A ++ (M.sends.map fun p => rowPc p.2)) ++ R = _
      rw [e1]
      simp
    have hpq : parts B (M.sent k r') ++ R = monPc B M.c :: sendsPc (M.sent k r') :: ((A ++ (l1.map fun p => rowPc p.2)) ++ rowPc r' :: ((l2.map fun p => rowPc p.2) ++ R)) := by
      show monPc B M.c :: sendsPc (M.sent k r') :: (A ++ ((put M.sends k r').map fun p => rowPc p.2)) ++ R = _
      rw [e2 r']
      simp
    have h1 : Own w b0 ([sendsPc M, rowPc r] ++ (monPc B M.c :: ((A ++ (l1.map fun p => rowPc p.2)) ++ ((l2.map fun p => rowPc p.2) ++ R)))) := by
      rw [hpp] at h
      exact h.perm (perm_sr _ _ _ _ _)
    have hk' : Kept (Reach w [sendsPc M, rowPc r]) w w' := hk.more fun b _ e => by
      rcases e with e | e
      · exact .inl ⟨_, List.mem_cons_self, by rw [e]; rfl⟩
      · exact .inl ⟨_, List.mem_cons_of_mem _ List.mem_cons_self, e⟩
    refine ⟨?_, Own.low h1.left hb0 hk'⟩
    rw [hpq]
    refine (Own.step h1 hb0 hk' hL' ?_).perm (perm_sr _ _ _ _ _).symm
    intro p hp b e
    rcases List.mem_cons.1 hp with rfl | hp
    · exact .inl ⟨_, List.mem_cons_self, e⟩
    · rw [List.mem_singleton.1 hp] at e
      rcases hB b e with e | e
      · exact .inl ⟨_, List.mem_cons_of_mem _ List.mem_cons_self, e⟩
      · exact .inr e
/-- how great a monitor is -/
structure Sz (n : Nat) (M : MM) : Prop where
  stays : M.stays.length ≤ n
  rows : ∀ x ∈ M.stays, x.s.p0.length ≤ n ∧ x.s.p1.length ≤ n
  cnt : ∀ x ∈ M.stays, ∀ i, 0 ≤ (get x.cnt i).getD 0 ∧ (get x.cnt i).getD 0 ≤ n
  sent : ∀ k, (sentR M k).l.length ≤ n
theorem Sz.more {n m : Nat} {M : MM} (h : Sz n M) (hn : n ≤ m) : Sz m M :=
  ⟨Nat.le_trans h.stays hn, fun x hx => ⟨Nat.le_trans (h.rows x hx).1 hn, Nat.le_trans (h.rows x hx).2 hn⟩, fun x hx i => ⟨(h.cnt x hx i).1, by have := (h.cnt x hx i).2; omega⟩, fun k => Nat.le_trans (h.sent k) hn⟩
/-- what has become of a monitor, in plain -/
def Res (w : World) (B b0 : Nat) (R : List Pc) (P : PM) (n : Nat) (w' : World) : Prop := ∃ M', Now w B b0 M' R w' ∧ MOk M' ∧ Sz n M' ∧ proj M' = P
theorem sentR_sent (M : MM) (k : PlaceK) (r : SR) (k' : PlaceK) : sentR (M.sent k r) k' = if k' = k then r else sentR M k' := by
  unfold sentR MM.sent
  simp only [get_put]
  split
  · rfl
  · rfl
theorem ecell {w : World} {X : Nat} {x : Ev} (h : EvAt w X x) (i : Nat) {v : Value} (hv : (evA x)[i]? = some v) : ∀ y : Bel w, y.val.cell? ⟨X, i, none⟩ = some v :=
  Bel.cell ((cell_of_row _ _ i _ _ _ h).trans hv) (Array.getElem?_eq_some_iff.1 h).1
theorem scell {w : World} {S : Nat} {s : ST} (h : StAt w S s) (i : Nat) {v : Value} (hv : (stC s)[i]? = some v) : ∀ y : Bel w, y.val.cell? ⟨S, i, none⟩ = some v :=
  Bel.cell ((cell_of_row _ _ i _ _ _ h).trans hv) h.lt
theorem at0 {w : World} {p : Addr} {v : Value} (h : ∀ y : Bel w, y.val.cell? p = some v) : w.cell? p = some v := h ⟨w, br w⟩
theorem mems_look {w : World} {B b0 : Nat} {M : MM} {R : List Pc} (h : Own w b0 (parts B M ++ R)) (c : ConfK) : (Instr.lookup 47 (.map (some M.c.eb)) (confV c) true).run Try.prog w = .ok (.tuple #[((get M.mems c).map (fun n : Nat => Value.int .u64 (n : Int))).getD (.int .u64 0), .bool (has M.mems c)]) w := by
  have := (own_mems h).lookup_ok (P := Try.prog) Try.underlying47 confLaw (z := .int .u64 0) (by kernel_rfl) c
  rw [get_vals, has_vals] at this
  exact this
theorem confEq (w : World) (a0 a1 b0 b1 : Int) : (Go.binOp .eql 30 (.agg #[.int .u64 a0, .int .i64 a1]) (.agg #[.int .u64 b0, .int .i64 b1])).run Try.prog w = .ok (.bool (a0 == b0 && a1 == b1)) w := confEql w a0 a1 b0 b1
theorem reads_one (w : World) (v : Value) (t : TypeId) : Reads (w.alloc (.cells #[v] t)) (w.heap.size + 1) 1 (some ⟨w.heap.size, 0, none⟩) 1 [v] :=
  ⟨rfl, fun _ => ⟨_, rfl, by show w.heap.size < w.heap.size + 1; omega, fun j u hu => new_cells w [v] t j u hu⟩⟩
theorem info57 : (Try.prog.info? 57).map (fun i => (i.zero, i.size, i.bytes)) = some (some (.pointer none), 1, 8) := by kernel_rfl
end Go.Proofs.Ytogagkgkmoppmaa
