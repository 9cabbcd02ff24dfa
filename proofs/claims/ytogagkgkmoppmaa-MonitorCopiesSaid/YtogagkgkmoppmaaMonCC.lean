/-
  Copy of a monitor: its own cells, a new map, three maps' copies.
  Conditions: those that each theorem names.
-/
import Derived.Test.YtogagkgkmoppmaaMonCE
import Derived.Test.YtogagkgkmoppmaaMonQ
import Derived.Test.YtogagkgkmoppmaaMaskB
import Derived.Deep.CutBlock
namespace Go.Proofs.Ytogagkgkmoppmaa
set_option linter.unusedVariables false
set_option linter.unusedSimpArgs false
open Go.RowKit GM
open Go.ChangeMaps (setBlock)
open Go.MapKept
/-- the copy's cells behind its first statements -/
def cpC (c : MC) (s h e l : Nat) : MC := { c with sb := s, hb := h, eb := e, lb := l }
/-- the copy's first parts -/
def cpP (C : Nat) (M : MM) (s h e l : Nat) : List Pc := [monPc C (cpC M.c s h e l), mapPc placeV s [], mapPc hadV h (vals (fun b : Bool => Value.bool b) M.seen), mapPc confV e (vals (fun n : Nat => Value.int .u64 (n : Int)) M.mems), mapPc intV l (vals (fun b : Bool => Value.bool b) M.live)]
structure MonB (B : Nat) (c : MC) (w : World) : Prop where
  c1 : w.cell? ⟨B, 1, none⟩ = some (.map (some c.hb))
  c2 : w.cell? ⟨B, 2, none⟩ = some (.map (some c.eb))
  c4 : w.cell? ⟨B, 4, none⟩ = some (.map (some c.lb))
theorem monB_of {w : World} {B : Nat} {c : MC} (h : MAt w B c) : MonB B c w := ⟨cell_of_row _ _ 1 _ _ _ h, cell_of_row _ _ 2 _ _ _ h, cell_of_row _ _ 4 _ _ _ h⟩
/-- the copy's cells are stored one by one -/
theorem cp_cells {w : World} {C : Nat} {c : MC} {s h e l : Nat} (hC : MAt w C c) :
    let w1 := w.setCell ⟨C, 0, none⟩ (.map (some s))
    let w2 := w1.setCell ⟨C, 1, none⟩ (.map (some h))
    let w3 := w2.setCell ⟨C, 2, none⟩ (.map (some e))
    let w4 := w3.setCell ⟨C, 4, none⟩ (.map (some l))
    MAt w1 C { c with sb := s } ∧ MAt w2 C { c with sb := s, hb := h } ∧ MAt w3 C { c with sb := s, hb := h, eb := e } ∧ MAt w4 C (cpC c s h e l) := by
  have h1 := setCell_block hC 0 (.map (some s))
  have h2 := setCell_block h1 1 (.map (some h))
  have h3 := setCell_block h2 2 (.map (some e))
  have h4 := setCell_block h3 4 (.map (some l))
  exact ⟨h1, h2, h3, h4⟩
theorem perm4_1 (D B A Z : Pc) : [D, B, A, Z].Perm [Z, A, B, D] := List.reverse_perm [Z, A, B, D]
theorem perm4_2 (D B A Z : Pc) : [D, B, Z, A].Perm [Z, A, B, D] := (List.Perm.cons D (List.Perm.cons B (List.Perm.swap A Z []))).trans (perm4_1 D B A Z)
theorem perm4_3 (D B A Z : Pc) : [D, Z, B, A].Perm [Z, A, B, D] := (List.Perm.cons D (List.Perm.swap B Z [A])).trans (perm4_2 D B A Z)
theorem perm4_4 (D B A Z : Pc) : [Z, D, B, A].Perm [Z, A, B, D] := (List.Perm.swap D Z [B, A]).trans (perm4_3 D B A Z)
theorem cp_own {w W : World} {b0 C s h e l : Nat} {M : MM} {S T : List Pc} (hO : Own W b0 (S ++ (monPc C M.c :: T))) (hb0 : b0 ≤ W.heap.size) (hs : S.length = 4)
    (hp : S.Perm [mapPc placeV s [], mapPc hadV h (vals (fun b : Bool => Value.bool b) M.seen), mapPc confV e (vals (fun n : Nat => Value.int .u64 (n : Int)) M.mems), mapPc intV l (vals (fun b : Bool => Value.bool b) M.live)]) :
    Own ((((W.setCell ⟨C, 0, none⟩ (.map (some s))).setCell ⟨C, 1, none⟩ (.map (some h))).setCell ⟨C, 2, none⟩ (.map (some e))).setCell ⟨C, 4, none⟩ (.map (some l))) b0 (cpP C M s h e l ++ T) ∧
    Kept (fun b => b = C) W ((((W.setCell ⟨C, 0, none⟩ (.map (some s))).setCell ⟨C, 1, none⟩ (.map (some h))).setCell ⟨C, 2, none⟩ (.map (some e))).setCell ⟨C, 4, none⟩ (.map (some l))) := by
  have hC : MAt W C M.c := hO.ok (monPc C M.c) (by simp)
  have hk : Kept (fun b => b = C) W ((((W.setCell ⟨C, 0, none⟩ (.map (some s))).setCell ⟨C, 1, none⟩ (.map (some h))).setCell ⟨C, 2, none⟩ (.map (some e))).setCell ⟨C, 4, none⟩ (.map (some l))) :=
    (((keptS W ⟨C, 0, none⟩ _).trans (keptS _ ⟨C, 1, none⟩ _)).trans (keptS _ ⟨C, 2, none⟩ _)).trans (keptS _ ⟨C, 4, none⟩ _)
  have h1 := own_at 4 (monPc C (cpC M.c s h e l)) hO hb0 (p := monPc C M.c) (by rw [List.getElem?_append_right (by omega), hs]; rfl) (hk.more fun k _ e => by rw [e]; rfl) (cp_cells (s := s) (h := h) (e := e) (l := l) hC).2.2.2 (fun b e => .inl e)
  refine ⟨h1.1.perm ?_, hk⟩
  rw [List.set_append_right _ _ (by omega), hs]
  show (S ++ (monPc C (cpC M.c s h e l) :: T)).Perm (monPc C (cpC M.c s h e l) :: ([mapPc placeV s [], mapPc hadV h (vals (fun b : Bool => Value.bool b) M.seen), mapPc confV e (vals (fun n : Nat => Value.int .u64 (n : Int)) M.mems), mapPc intV l (vals (fun b : Bool => Value.bool b) M.live)] ++ T))
  exact List.perm_middle.trans (List.Perm.cons _ (List.Perm.append_right _ hp))
/-- the copy while the map of what was sent is gone through -/
def cpL (C r sb since : Nat) (M : MM) (s h e l : Nat) (seen : Array Nat) (c0 : Nat) (D : List (PlaceK × SR)) (T : List Pc) : List Pc :=
  iterPc r sb since seen c0 :: monPc C (cpC M.c s h e l) :: mapPc placeV s (vals slV D) :: mapPc hadV h (vals (fun b : Bool => Value.bool b) M.seen) :: mapPc confV e (vals (fun n : Nat => Value.int .u64 (n : Int)) M.mems) :: mapPc intV l (vals (fun b : Bool => Value.bool b) M.live) :: ((D.map fun p => rowPc p.2).reverse ++ T)
def CpL (w : World) (B b0 C r clock : Nat) (M : MM) (R : List Pc) (s h e l : Nat) (es : Array MapEntry) (seen : Array Nat) (wr : World) : Prop := ∃ c0 D, clock ≤ c0 ∧ Own wr b0 (cpL C r M.c.sb clock M s h e l seen c0 D (parts B M ++ R)) ∧ Below w.heap.size w wr ∧ b0 ≤ wr.heap.size ∧ Cp M es seen D
theorem cpL_put {W w2 : World} {b0 C r sb since s h e l c0 : Nat} {M : MM} {T : List Pc} {seen : Array Nat} {D : List (PlaceK × SR)} (hO : Own W b0 (cpL C r sb since M s h e l seen c0 D T)) (hb0 : b0 ≤ W.heap.size) (hb : Below W.heap.size W w2)
    {r' : SR} (hr : RowOk w2 r') (hB : ∀ b, (rowPc r').blk = some b → W.heap.size ≤ b) (k : PlaceK) (hk : get D k = none) :
    ∃ w3, (Instr.mapUpdate 45 (.map (some s)) (placeV k) (slV r')).run Try.prog w2 = .ok () w3 ∧ Own w3 b0 (cpL C r sb since M s h e l seen c0 (D ++ [(k, r')]) T) ∧ Kept (fun b => b = s) w2 w3 := by
  have h1 := own_new (rowPc r') hO hb0 hb hr hB
  have hg : GMap placeV w2 s (vals slV D) := h1.ok (mapPc placeV s (vals slV D)) (by simp [cpL])
  obtain ⟨w3, hrun, hg3, hgr, _⟩ := hg.update (P := Try.prog) Try.underlying45 placeLaw k (slV r')
  have hput : put D k r' = D ++ [(k, r')] := by
    unfold put
    rw [has_get, hk]
    rfl
  rw [put_vals slV, hput] at hg3
  have hkp := Kept.of_grown hgr
  have h2 := own_at 3 (mapPc placeV s (vals slV (D ++ [(k, r')]))) h1 (Nat.le_trans hb0 hb.size) (p := mapPc placeV s (vals slV D)) rfl (hkp.more fun k _ e => by rw [e]; rfl) hg3 (fun b e => .inl e)
  refine ⟨w3, hrun, h2.1.perm ?_, hkp⟩
  have e1 : (((D ++ [(k, r')]).map fun p => rowPc p.2).reverse ++ T) = rowPc r' :: ((D.map fun p => rowPc p.2).reverse ++ T) := by simp
  unfold cpL
  rw [e1]
  show (rowPc r' :: ([iterPc r sb since seen c0, monPc C (cpC M.c s h e l), mapPc placeV s (vals slV (D ++ [(k, r')])), mapPc hadV h (vals (fun b : Bool => Value.bool b) M.seen), mapPc confV e (vals (fun n : Nat => Value.int .u64 (n : Int)) M.mems), mapPc intV l (vals (fun b : Bool => Value.bool b) M.live)] ++ ((D.map fun p => rowPc p.2).reverse ++ T))).Perm
    ([iterPc r sb since seen c0, monPc C (cpC M.c s h e l), mapPc placeV s (vals slV (D ++ [(k, r')])), mapPc hadV h (vals (fun b : Bool => Value.bool b) M.seen), mapPc confV e (vals (fun n : Nat => Value.int .u64 (n : Int)) M.mems), mapPc intV l (vals (fun b : Bool => Value.bool b) M.live)] ++ (rowPc r' :: ((D.map fun p => rowPc p.2).reverse ++ T)))
  exact List.perm_middle.symm
theorem CpL.begin {w W : World} {B b0 C clock s h e l : Nat} {M : MM} {R : List Pc} {es : Array MapEntry} (hO : Own W b0 (cpP C M s h e l ++ (parts B M ++ R))) (hb : Below w.heap.size w W) (hb0 : b0 ≤ W.heap.size) :
    CpL w B b0 C W.heap.size clock M R s h e l es #[] (W.alloc (.mapIter (some M.c.sb) clock #[] clock)) :=
  ⟨clock, [], Nat.le_refl _, own_new (iterPc W.heap.size M.c.sb clock #[] clock) hO hb0 (ba (br W) _) (heap_alloc_new W _) (fun b e => by injection e with e; omega), ba hb _, Nat.le_trans hb0 (ba (br W) _).size, Cp.begin M es⟩
theorem CpL.iter {w wr : World} {B b0 C r clock s h e l : Nat} {M : MM} {R : List Pc} {es : Array MapEntry} {seen : Array Nat} (hC : CpL w B b0 C r clock M R s h e l es seen wr) : ∃ c0, clock ≤ c0 ∧ wr.heap[r]? = some (.mapIter (some M.c.sb) clock seen c0) := by
  obtain ⟨c0, D, h1, h2, _⟩ := hC
  exact ⟨c0, h1, h2.ok (iterPc r M.c.sb clock seen c0) (by simp [cpL])⟩
/-- the copy with the first stays copied -/
def CpS (w : World) (B b0 C s h e l vn : Nat) (D : List (PlaceK × SR)) (M : MM) (R : List Pc) (j : Nat) (wr : World) : Prop :=
  ∃ Y nw sa sc, Y.length = j ∧ (∀ i (hi : i < M.stays.length) (hy : i < Y.length), Like M.stays[i] Y[i]) ∧ (∀ p ∈ nw, p.2 < Y.length) ∧
    (∀ p, get nw p = match get M.now p with
      | some k => if k < j then some k else none
      | none => none) ∧
    Own wr b0 (parts C (cpM M s h e l vn D Y nw sa sc) ++ (parts B M ++ R)) ∧ Kept (fun k => b0 ≤ k) w wr ∧ b0 ≤ wr.heap.size
theorem put_mem' {β : Type} {L : List (Int × β)} {i : Int} {v : β} {p : Int × β} (h : p ∈ put L i v) : p ∈ L ∨ p = (i, v) := by
  unfold put at h
  split at h
  · obtain ⟨y, hy, e⟩ := List.mem_map.1 h
    split at e
    · exact .inr e.symm
    · exact .inl (e ▸ hy)
  · rcases List.mem_append.1 h with h | h
    · exact .inl h
    · exact .inr (List.mem_singleton.1 h)
theorem now_eq {w : World} {B b0 : Nat} {M : MM} {R : List Pc} (h : Own w b0 (parts B M ++ R)) (hM : MOk M) {j : Nat} (hj : j < M.stays.length) (p : Int) :
    (Go.binOp .eql 57 (((get M.now p).map (nthV M.stays)).getD (.pointer none)) (.pointer (some ⟨M.stays[j].b, 0, none⟩))).run Try.prog w = .ok (.bool (decide (get M.now p = some j))) w := by
  cases hg : get M.now p with
  | none =>
    obtain ⟨i, hi, hz⟩ := stayInfo
    have hu := Try.underlying57
    have h1 : ∀ d : Nat, (Op.equalIn (d + 1) 57 (.pointer none) (.pointer (some ⟨M.stays[j].b, 0, none⟩))).run Try.prog w = .ok false w := fun d => by
      simp [Op.equalIn, run_underlying hu, sizeOf, typeInfo, hi]
    simp only [Option.map_none, Option.getD_none]
    simp only [Go.binOp]
    simp [Op.equal, Op.maxDepth, h1 9999]
  | some k =>
    have hk := now_lt hM hg
    simp only [Option.map_some, Option.getD_some]
    rw [nth_at hk]
    have h1 := stayEq (own_stay h (List.getElem_mem hk)) (own_stay h (List.getElem_mem hj))
    unfold ptrV
    rw [h1]
    have : decide (M.stays[k].b = M.stays[j].b) = decide (some k = some j) := by
      rw [Bool.eq_iff_iff]
      simp only [decide_eq_true_eq, Option.some.injEq]
      exact ⟨fun e => own_inj h hk hj e, fun e => by subst e; rfl⟩
    rw [this]
/-- the copy's last state -/
theorem copy_res {w wc : World} {B b0 C s h e l vn n : Nat} {D : List (PlaceK × SR)} {M : MM} {R : List Pc} (hD : ∀ k, (get D k).map (fun r => r.l) = (get M.sends k).map (fun r => r.l)) (hM : MOk M) (hS : Sz n M)
    (hc : CpS w B b0 C s h e l vn D M R M.stays.length wc) : Res w C b0 (parts B M ++ R) (proj M) n wc := by
  obtain ⟨Y, nw, sa, sc, hY, hLk, hnw, hnv, hO, hk, hb⟩ := hc
  have hnow : ∀ p, get nw p = get M.now p := fun p => by
    rw [hnv p]
    cases hg : get M.now p with
    | none => rfl
    | some k => simp [now_lt hM hg]
  have hys : Y.map projS = M.stays.map projS := by
    refine List.ext_getElem (by simp [hY]) fun i h1 h2 => ?_
    simp only [List.length_map] at h1 h2
    simp only [List.getElem_map]
    exact (hLk i h2 h1).proj
  have hin : ∀ y ∈ Y, ∃ x ∈ M.stays, Like x y := fun y hy => by
    obtain ⟨i, hi, rfl⟩ := List.mem_iff_getElem.1 hy
    exact ⟨M.stays[i], List.getElem_mem _, hLk i (by omega) hi⟩
  have hsl : ∀ k, (sentR (cpM M s h e l vn D Y nw sa sc) k).l = (sentR M k).l := fun k => by
    have := hD k
    unfold sentR
    show ((get D k).getD noRow).l = _
    cases h1 : get D k with
    | none =>
      rw [h1] at this
      cases h2 : get M.sends k with
      | none => rfl
      | some r => rw [h2] at this; cases this
    | some r' =>
      rw [h1] at this
      cases h2 : get M.sends k with
      | none => rw [h2] at this; cases this
      | some r =>
        rw [h2] at this
        injection this
  refine ⟨cpM M s h e l vn D Y nw sa sc, ⟨hO, hk, hb⟩, ⟨rfl, hnw⟩, ⟨?_, ?_, ?_, ?_⟩, ?_⟩
  · show Y.length ≤ n
    rw [hY]
    exact hS.stays
  · intro y hy
    obtain ⟨x, hx, hl⟩ := hin y hy
    rw [hl.p0, hl.p1]
    exact hS.rows x hx
  · intro y hy i
    obtain ⟨x, hx, hl⟩ := hin y hy
    rw [hl.cnt]
    exact hS.cnt x hx i
  · intro k
    rw [hsl k]
    exact hS.sent k
  · unfold proj
    simp only [cpM, hnow, hys]
    congr 1
    funext k
    have := hD k
    cases h1 : get D k with
    | none =>
      rw [h1] at this
      cases h2 : get M.sends k with
      | none => rfl
      | some r => rw [h2] at this; cases this
    | some r' =>
      rw [h1] at this
      cases h2 : get M.sends k with
      | none => rw [h2] at this; cases this
      | some r =>
        rw [h2] at this
        injection this with this
        simp only [this]
/-- what a copy comes to -/
def MCopy (w : World) (b0 n : Nat) (R : List Pc) (P : PM) (e : Ending) (w' : World) : Prop := ∃ C, e = .returned (.pointer (some ⟨C, 0, none⟩)) ∧ Res w C b0 R P n w'
set_option maxRecDepth 100000 in
set_option maxHeartbeats 16000000 in
theorem monCopy_any (w : World) (B b0 n : Nat) (M : MM) (R : List Pc) (hO : Own w b0 (parts B M ++ R)) (hM : MOk M) (hb0 : b0 ≤ w.heap.size) (hS : Sz n M) (hn : n ≤ 9999) (hpr : ∀ p k, get M.now p = some k → ∃ hk : k < M.stays.length, M.stays[k].s.proc = p) :
    Calls Try.prog 11 #[.pointer (some ⟨B, 0, none⟩)] w (MCopy w b0 n (parts B M ++ R) (proj M)) := by
  have hmon := own_mon hO
  have hse : ∀ p ∈ M.sends, p.2.l.length ≤ 10000 := fun p hp => by
    have hnd := (own_sends hO).1
    unfold vals at hnd
    rw [List.map_map] at hnd
    have h1 := get_of_mem (L := M.sends) hnd hp
    have h2 := hS.sent p.1
    unfold sentR at h2
    rw [h1] at h2
    have h2 : p.2.l.length ≤ n := h2
    omega
  have hrow : ∀ x ∈ M.stays, x.s.p0.length ≤ 10000 ∧ x.s.p1.length ≤ 10000 := fun x hx => by
    have := hS.rows x hx
    omega
  have hn9 : M.stays.length ≤ 10000 := by have := hS.stays; omega
  have HSZ := Lib.hid hS
  clear hS hn
  have HSL := Lib.hid (own_sends hO).lt
  have HSENT := Lib.hid hse
  have HROW := Lib.hid hrow
  have HPR := Lib.hid (And.intro hn9 hpr)
  clear hse hrow hn9 hpr
  obtain ⟨cx, hcx⟩ : ∃ cx, cx = monC M.c := ⟨_, rfl⟩
  have y1 : cx.size = 10 := by rw [hcx]; rfl
  have p1 : cx.all (·.oneCell') = true := by rw [hcx]; simp [monC, Value.oneCell']
  obtain ⟨C, hC⟩ : ∃ C, C = w.heap.size := ⟨_, rfl⟩
  have hz := heap_alloc_new w (.cells #[.map none, .map none, .map none, .slice none 0 0, .map none, .map none, .int .i64 0, .int .i64 0, .int .i64 0, .int .i64 0] 54)
  have hbz := ba (br w) (.cells #[.map none, .map none, .map none, .slice none 0 0, .map none, .map none, .int .i64 0, .int .i64 0, .int .i64 0, .int .i64 0] 54)
  rw [← hC] at hz
  obtain ⟨w1, hw1⟩ : ∃ w1, w1 = (w.alloc (.cells #[.map none, .map none, .map none, .slice none 0 0, .map none, .map none, .int .i64 0, .int .i64 0, .int .i64 0, .int .i64 0] 54)).setRow C cx := ⟨_, rfl⟩
  have hb1 : Below w.heap.size w w1 := by rw [hw1]; exact (kept_setRow' (w.alloc (.cells #[.map none, .map none, .map none, .slice none 0 0, .map none, .map none, .int .i64 0, .int .i64 0, .int .i64 0, .int .i64 0] 54)) C cx).out hbz hbz.size (fun k hk' e => by omega)
  have hc1 : w1.heap[C]? = some (.cells cx 54 (0, 0)) := by rw [hw1]; exact setRow_heap _ _ _ _ _ _ hz
  have hst' : w.heap[B]? = some (.cells cx 54 (0, 0)) := by rw [hcx]; exact hmon
  have HA := Lib.hid (And.intro hst' (And.intro y1 (And.intro p1 (And.intro hz hC))))
  have HCN := Lib.hid hC
  have HBM := Lib.hid (show ∀ W', Below w.heap.size w W' → MonB B M.c W' from fun W' hb => monB_of (hmon.below hb))
  have H1 := Lib.hid (show Own w1 b0 (monPc C M.c :: (parts B M ++ R)) ∧ Below w.heap.size w w1 ∧ b0 ≤ w1.heap.size from
    ⟨own_new _ hO hb0 hb1 (by show MAt w1 C M.c; unfold MAt; rw [hc1, hcx]) (fun b e => by injection e with e; omega), hb1, Nat.le_trans hb0 hb1.size⟩)
  clear hmon hcx y1 p1 hC hz hbz hb1 hc1 hst' hO hb0
  go_enter Try.func11, Try.ntmps11
  go_upto_region 2 with (first
    | (refine wpList_load_row rfl 54 (.tmp 10) rfl B rfl 54 cx (0, 0) _ HA.out.1 Try.underlying54 rfl (by rw [HA.out.2.1]; kernel_rfl) ?_)
    | (refine wpList_store_row rfl 54 (.tmp 3) (.tmp 11) rfl C cx (by rw [HA.out.2.2.2.2]; rfl) rfl 54 _ HA.out.2.2.2.1 (by rw [HA.out.2.1]; kernel_rfl) (by rw [HA.out.2.1]; rfl) HA.out.2.2.1 ?_))
  rw [← hw1, ← HA.out.2.2.2.2]
  clear hw1 HA
  simp only [Act.put]
  go_cut [] (fun wx => ∃ s h e l, Hid ((Own wx b0 (cpP C M s h e l ++ (parts B M ++ R)) ∧ Below w.heap.size w wx ∧ b0 ≤ wx.heap.size) ∧ w.heap.size ≤ s))
  case first =>
    --{
    obtain ⟨Lb, hLb⟩ : ∃ Lb, Lb = monPc C M.c :: (parts B M ++ R) := ⟨_, rfl⟩
    have HS := Lib.hid (show ∀ (S : List Pc) (W : World), Own W b0 (S ++ Lb) → MonB B M.c W from fun S W h => by
      rw [hLb] at h
      exact monB_of (h.ok (monPc B M.c) (by simp [parts])))
    have HG := Lib.hid (show ∀ (S : List Pc) (W : World), Own W b0 (S ++ Lb) → GMap hadV W M.c.hb (vals (fun b : Bool => Value.bool b) M.seen) ∧ GMap confV W M.c.eb (vals (fun n : Nat => Value.int .u64 (n : Int)) M.mems) ∧ GMap intV W M.c.lb (vals (fun b : Bool => Value.bool b) M.live) ∧ MAt W C M.c from fun S W h => by
      rw [hLb] at h
      exact ⟨h.ok (seenPc M) (by simp [parts]), h.ok (memsPc M) (by simp [parts]), h.ok (livePc M) (by simp [parts]), h.ok (monPc C M.c) (by simp)⟩)
    have HL := Lib.hid hLb
    have H2 := Lib.hid (show Own w1.drew b0 ([] ++ Lb) ∧ Below w.heap.size w w1.drew ∧ b0 ≤ w1.drew.heap.size from by
      rw [hLb]
      exact ⟨H1.out.1.below (br w1).drew, H1.out.2.1.drew, H1.out.2.2⟩)
    have hS0 := HS.out _ _ H2.out.1
    clear hLb H1
    refine wp_region_mask (MonB B M.c) 28 15 [false, true, true, true, true, true, false, true, true, true, true, true, false, true, true, true, true, false, false, false, false, false, false, false, false, false, false, false, false] #[false, true, true, true, true, true, false, true, true, true, true, true, false, true, true, true, true, false, false, false, false, false, false, false, false, false, false, false, false] (by kernel_rfl) (by kernel_rfl) (by kernel_rfl) hS0 ?_
    clear hS0
    generalize w1.drew = W at *
    refine wpMask_skip ?_
    iterate 5
      refine wpMask_take _ (Or.inl ⟨by rfl, fun w' hS => by obtain ⟨h1, h2, h4⟩ := hS; go_simp; try with_reducible rfl⟩) ?_
      simp only [Act.put, List.setIfInBounds_toArray, List.set_cons_zero, List.set_cons_succ]
    refine wpMask_skip ?_
    iterate 5
      refine wpMask_take _ (Or.inl ⟨by rfl, fun w' hS => by obtain ⟨h1, h2, h4⟩ := hS; go_simp; try with_reducible rfl⟩) ?_
      simp only [Act.put, List.setIfInBounds_toArray, List.set_cons_zero, List.set_cons_succ]
    refine wpMask_skip ?_
    iterate 4
      refine wpMask_take _ (Or.inl ⟨by rfl, fun w' hS => by obtain ⟨h1, h2, h4⟩ := hS; go_simp; try with_reducible rfl⟩) ?_
      simp only [Act.put, List.setIfInBounds_toArray, List.set_cons_zero, List.set_cons_succ]
    refine wpMask_skip (wpMask_skip (wpMask_skip (wpMask_skip (wpMask_skip (wpMask_skip (wpMask_skip (wpMask_skip (wpMask_skip (wpMask_skip (wpMask_skip (wpMask_skip (wpMask_nil ?_))))))))))))
    have HW := H2
    refine wpAnyS_ready (rs := [0, 6]) (by kernel_rfl) (by simp) ?_
    refine AllReadyS.cons rfl (fun T hT => ?_) ?_
    · skip
      have hmm := @run_makeMap Try.prog
      go_simp
      clear hmm
      have HW1 := Lib.hid (show Own (W.alloc (.map #[] 0)) b0 ((mapPc placeV W.heap.size [] :: _) ++ Lb) ∧ Below w.heap.size w (W.alloc (.map #[] 0)) ∧ b0 ≤ (W.alloc (.map #[] 0)).heap.size from ⟨own_new (mapPc placeV W.heap.size []) HW.out.1 HW.out.2.2 (ba (br W) _) (GMap.made placeV W) (fun b e => by injection e with e; omega), ba HW.out.2.1 _, Nat.le_trans HW.out.2.2 (ba (br W) _).size⟩)
      refine hT.out _ _ (fun _ => HBM.out _ HW1.out.2.1) ?_
      have HZS := Lib.hid (show w.heap.size ≤ W.heap.size from HW.out.2.1.size)
      generalize hvZ : W.heap.size = vZW1 at *
      generalize W.alloc (.map #[] 0) = W1 at *
      clear hvZ hT T
      simp only [Act.put, List.getElem_toArray, List.getElem_cons_succ, List.getElem_cons_zero, List.setIfInBounds_toArray, List.set_cons_zero, List.set_cons_succ]
      skip
      refine wpAnyS_ready (rs := [6]) (by kernel_rfl) (by simp) ?_
      refine AllReadyS.cons rfl (fun T hT => ?_) AllReadyS.nil
      go_simp
      refine (clone_had hadV M.c.hb (vals (fun b : Bool => Value.bool b) M.seen) W1 (HG.out _ _ HW1.out.1).1).mono ?_
      rintro e W2 ⟨rfl, hg, hb⟩
      have HW2 := Lib.hid (show Own W2 b0 ((mapPc hadV W1.heap.size (vals (fun b : Bool => Value.bool b) M.seen) :: _) ++ Lb) ∧ Below w.heap.size w W2 ∧ b0 ≤ W2.heap.size from ⟨own_new (mapPc hadV W1.heap.size (vals (fun b : Bool => Value.bool b) M.seen)) HW1.out.1 HW1.out.2.2 hb hg (fun b e => by injection e with e; omega), bt HW1.out.2.1 hb, Nat.le_trans HW1.out.2.2 hb.size⟩)
      refine hT.out _ _ (fun _ => HBM.out _ HW2.out.2.1) ?_
      generalize hvA : W1.heap.size = vAW2 at *
      clear hvA hg hb hT T
      simp only [Act.put, List.getElem_toArray, List.getElem_cons_succ, List.getElem_cons_zero, List.setIfInBounds_toArray, List.set_cons_zero, List.set_cons_succ]
      skip
      refine wpAnyS_ready (rs := [12]) (by kernel_rfl) (by simp) ?_
      refine AllReadyS.cons rfl (fun T hT => ?_) AllReadyS.nil
      go_simp
      refine (clone_conf confV M.c.eb (vals (fun n : Nat => Value.int .u64 (n : Int)) M.mems) W2 (HG.out _ _ HW2.out.1).2.1).mono ?_
      rintro e W3 ⟨rfl, hg, hb⟩
      have HW3 := Lib.hid (show Own W3 b0 ((mapPc confV W2.heap.size (vals (fun n : Nat => Value.int .u64 (n : Int)) M.mems) :: _) ++ Lb) ∧ Below w.heap.size w W3 ∧ b0 ≤ W3.heap.size from ⟨own_new (mapPc confV W2.heap.size (vals (fun n : Nat => Value.int .u64 (n : Int)) M.mems)) HW2.out.1 HW2.out.2.2 hb hg (fun b e => by injection e with e; omega), bt HW2.out.2.1 hb, Nat.le_trans HW2.out.2.2 hb.size⟩)
      refine hT.out _ _ (fun _ => HBM.out _ HW3.out.2.1) ?_
      generalize hvB : W2.heap.size = vBW3 at *
      clear hvB hg hb hT T
      simp only [Act.put, List.getElem_toArray, List.getElem_cons_succ, List.getElem_cons_zero, List.setIfInBounds_toArray, List.set_cons_zero, List.set_cons_succ]
      skip
      refine wpAnyS_ready (rs := [17]) (by kernel_rfl) (by simp) ?_
      refine AllReadyS.cons rfl (fun T hT => ?_) AllReadyS.nil
      go_simp
      refine (clone_bool intV M.c.lb (vals (fun b : Bool => Value.bool b) M.live) W3 (HG.out _ _ HW3.out.1).2.2.1).mono ?_
      rintro e W4 ⟨rfl, hg, hb⟩
      have HW4 := Lib.hid (show Own W4 b0 ((mapPc intV W3.heap.size (vals (fun b : Bool => Value.bool b) M.live) :: _) ++ Lb) ∧ Below w.heap.size w W4 ∧ b0 ≤ W4.heap.size from ⟨own_new (mapPc intV W3.heap.size (vals (fun b : Bool => Value.bool b) M.live)) HW3.out.1 HW3.out.2.2 hb hg (fun b e => by injection e with e; omega), bt HW3.out.2.1 hb, Nat.le_trans HW3.out.2.2 hb.size⟩)
      refine hT.out _ _ (fun _ => HBM.out _ HW4.out.2.1) ?_
      generalize hvD : W3.heap.size = vDW4 at *
      clear hvD hg hb hT T
      simp only [Act.put, List.getElem_toArray, List.getElem_cons_succ, List.getElem_cons_zero, List.setIfInBounds_toArray, List.set_cons_zero, List.set_cons_succ]
      skip
      have hcc := cp_cells (s := vZW1) (h := vAW2) (e := vBW3) (l := vDW4) (HG.out _ _ HW4.out.1).2.2.2
      have hfin := cp_own (w := w) (s := vZW1) (h := vAW2) (e := vBW3) (l := vDW4) (S := [_, _, _, _]) (T := parts B M ++ R) (by have h := HW4.out.1; rw [HL.out] at h; exact h) HW4.out.2.2 rfl (perm4_1 _ _ _ _)
      have HF := Lib.hid (show ∃ s h e l, Hid ((Own _ b0 (cpP C M s h e l ++ (parts B M ++ R)) ∧ Below w.heap.size w _ ∧ b0 ≤ _) ∧ w.heap.size ≤ s) from ⟨vZW1, vAW2, vBW3, vDW4, ⟨⟨hfin.1, HW4.out.2.1.trans (hfin.2.below HW4.out.2.1.size (fun k hk e => by have := HCN.out; omega)), Nat.le_trans HW4.out.2.2 hfin.2.size⟩, HZS.out⟩⟩)
      clear hfin
      obtain ⟨m0, m1, m2, m3⟩ := hcc
      have mm : MAt W4 C M.c := (HG.out _ _ HW4.out.1).2.2.2
      have hbw : Below w.heap.size w W4 := HW4.out.2.1
      have fr : World.frozen? _ ⟨C, 0, none⟩ = false := frozen_of_row _ _ _ _ _ mm
      have ce : World.cell? _ ⟨C, 0, none⟩ = some (.map (some M.c.sb)) := cell_of_row _ _ 0 _ _ _ mm
      have HBW := Lib.hid hbw
      have hbw := bs hbw (p := ⟨C, 0, none⟩) (by show w.heap.size ≤ C; have := HCN.out; omega) (.map (some vZW1))
      have HBW2 := Lib.hid hbw
      clear hbw
      refine wpAnyS_ready (rs := [18]) (by kernel_rfl) (by simp) ?_
      refine AllReadyS.cons rfl (fun T hT => ?_) AllReadyS.nil
      go_simp
      refine hT.out _ _ (fun _ => HBM.out _ HBW.out) ?_
      clear hT T
      simp only [Act.put, List.getElem_toArray, List.getElem_cons_succ, List.getElem_cons_zero, List.setIfInBounds_toArray, List.set_cons_zero, List.set_cons_succ]
      refine wpAnyS_ready (rs := [19]) (by kernel_rfl) (by simp) ?_
      refine AllReadyS.cons rfl (fun T hT => ?_) AllReadyS.nil
      go_simp
      refine hT.out _ _ (fun _ => HBM.out _ HBW.out) ?_
      clear hT T
      simp only [Act.put, List.getElem_toArray, List.getElem_cons_succ, List.getElem_cons_zero, List.setIfInBounds_toArray, List.set_cons_zero, List.set_cons_succ]
      refine wpAnyS_ready (rs := [20]) (by kernel_rfl) (by simp) ?_
      refine AllReadyS.cons rfl (fun T hT => ?_) AllReadyS.nil
      go_simp
      refine hT.out _ _ (fun _ => HBM.out _ HBW2.out) ?_
      clear hT T
      simp only [Act.put, List.getElem_toArray, List.getElem_cons_succ, List.getElem_cons_zero, List.setIfInBounds_toArray, List.set_cons_zero, List.set_cons_succ]
      have hbw := HBW2.out
      clear fr ce HBW HBW2
      have fr : World.frozen? _ ⟨C, 1, none⟩ = false := frozen_of_row _ _ _ _ _ m0
      have ce : World.cell? _ ⟨C, 1, none⟩ = some (.map (some M.c.hb)) := cell_of_row _ _ 1 _ _ _ m0
      have HBW := Lib.hid hbw
      have hbw := bs hbw (p := ⟨C, 1, none⟩) (by show w.heap.size ≤ C; have := HCN.out; omega) (.map (some vAW2))
      have HBW2 := Lib.hid hbw
      clear hbw
      refine wpAnyS_ready (rs := [21]) (by kernel_rfl) (by simp) ?_
      refine AllReadyS.cons rfl (fun T hT => ?_) AllReadyS.nil
      go_simp
      refine hT.out _ _ (fun _ => HBM.out _ HBW.out) ?_
      clear hT T
      simp only [Act.put, List.getElem_toArray, List.getElem_cons_succ, List.getElem_cons_zero, List.setIfInBounds_toArray, List.set_cons_zero, List.set_cons_succ]
      refine wpAnyS_ready (rs := [22]) (by kernel_rfl) (by simp) ?_
      refine AllReadyS.cons rfl (fun T hT => ?_) AllReadyS.nil
      go_simp
      refine hT.out _ _ (fun _ => HBM.out _ HBW.out) ?_
      clear hT T
      simp only [Act.put, List.getElem_toArray, List.getElem_cons_succ, List.getElem_cons_zero, List.setIfInBounds_toArray, List.set_cons_zero, List.set_cons_succ]
      refine wpAnyS_ready (rs := [23]) (by kernel_rfl) (by simp) ?_
      refine AllReadyS.cons rfl (fun T hT => ?_) AllReadyS.nil
      go_simp
      refine hT.out _ _ (fun _ => HBM.out _ HBW2.out) ?_
      clear hT T
      simp only [Act.put, List.getElem_toArray, List.getElem_cons_succ, List.getElem_cons_zero, List.setIfInBounds_toArray, List.set_cons_zero, List.set_cons_succ]
      have hbw := HBW2.out
      clear fr ce HBW HBW2
      have fr : World.frozen? _ ⟨C, 2, none⟩ = false := frozen_of_row _ _ _ _ _ m1
      have ce : World.cell? _ ⟨C, 2, none⟩ = some (.map (some M.c.eb)) := cell_of_row _ _ 2 _ _ _ m1
      have HBW := Lib.hid hbw
      have hbw := bs hbw (p := ⟨C, 2, none⟩) (by show w.heap.size ≤ C; have := HCN.out; omega) (.map (some vBW3))
      have HBW2 := Lib.hid hbw
      clear hbw
      refine wpAnyS_ready (rs := [24]) (by kernel_rfl) (by simp) ?_
      refine AllReadyS.cons rfl (fun T hT => ?_) AllReadyS.nil
      go_simp
      refine hT.out _ _ (fun _ => HBM.out _ HBW.out) ?_
      clear hT T
      simp only [Act.put, List.getElem_toArray, List.getElem_cons_succ, List.getElem_cons_zero, List.setIfInBounds_toArray, List.set_cons_zero, List.set_cons_succ]
      refine wpAnyS_ready (rs := [25]) (by kernel_rfl) (by simp) ?_
      refine AllReadyS.cons rfl (fun T hT => ?_) AllReadyS.nil
      go_simp
      refine hT.out _ _ (fun _ => HBM.out _ HBW.out) ?_
      clear hT T
      simp only [Act.put, List.getElem_toArray, List.getElem_cons_succ, List.getElem_cons_zero, List.setIfInBounds_toArray, List.set_cons_zero, List.set_cons_succ]
      refine wpAnyS_ready (rs := [26]) (by kernel_rfl) (by simp) ?_
      refine AllReadyS.cons rfl (fun T hT => ?_) AllReadyS.nil
      go_simp
      refine hT.out _ _ (fun _ => HBM.out _ HBW2.out) ?_
      clear hT T
      simp only [Act.put, List.getElem_toArray, List.getElem_cons_succ, List.getElem_cons_zero, List.setIfInBounds_toArray, List.set_cons_zero, List.set_cons_succ]
      have hbw := HBW2.out
      clear fr ce HBW HBW2
      have fr : World.frozen? _ ⟨C, 4, none⟩ = false := frozen_of_row _ _ _ _ _ m2
      have ce : World.cell? _ ⟨C, 4, none⟩ = some (.map (some M.c.lb)) := cell_of_row _ _ 4 _ _ _ m2
      have HBW := Lib.hid hbw
      have hbw := bs hbw (p := ⟨C, 4, none⟩) (by show w.heap.size ≤ C; have := HCN.out; omega) (.map (some vDW4))
      have HBW2 := Lib.hid hbw
      clear hbw
      refine wpAnyS_ready (rs := [27]) (by kernel_rfl) (by simp) ?_
      refine AllReadyS.cons rfl (fun T hT => ?_) AllReadyS.nil
      go_simp
      refine hT.out _ _ (fun _ => HBM.out _ HBW.out) ?_
      clear hT T
      simp only [Act.put, List.getElem_toArray, List.getElem_cons_succ, List.getElem_cons_zero, List.setIfInBounds_toArray, List.set_cons_zero, List.set_cons_succ]
      refine wpAnyS_ready (rs := [28]) (by kernel_rfl) (by simp) ?_
      refine AllReadyS.cons rfl (fun T hT => ?_) AllReadyS.nil
      go_simp
      refine hT.out _ _ (fun h => absurd h (by omega)) ?_
      clear hT T
      simp only [Act.put, List.getElem_toArray, List.getElem_cons_succ, List.getElem_cons_zero, List.setIfInBounds_toArray, List.set_cons_zero, List.set_cons_succ]
      have hbw := HBW2.out
      clear fr ce HBW HBW2
      clear m0 m1 m2 m3 mm hbw
      refine wpAnyS_done (by kernel_rfl) ?_ _
      go_wp2_with fail
      go_meet
      exact HF.out
    refine AllReadyS.cons rfl (fun T hT => ?_) AllReadyS.nil
    go_simp
    refine (clone_had hadV M.c.hb (vals (fun b : Bool => Value.bool b) M.seen) W (HG.out _ _ HW.out.1).1).mono ?_
    rintro e W5 ⟨rfl, hg, hb⟩
    have HW5 := Lib.hid (show Own W5 b0 ((mapPc hadV W.heap.size (vals (fun b : Bool => Value.bool b) M.seen) :: _) ++ Lb) ∧ Below w.heap.size w W5 ∧ b0 ≤ W5.heap.size from ⟨own_new (mapPc hadV W.heap.size (vals (fun b : Bool => Value.bool b) M.seen)) HW.out.1 HW.out.2.2 hb hg (fun b e => by injection e with e; omega), bt HW.out.2.1 hb, Nat.le_trans HW.out.2.2 hb.size⟩)
    refine hT.out _ _ (fun _ => HBM.out _ HW5.out.2.1) ?_
    generalize hvA : W.heap.size = vAW5 at *
    clear hvA hg hb hT T
    simp only [Act.put, List.getElem_toArray, List.getElem_cons_succ, List.getElem_cons_zero, List.setIfInBounds_toArray, List.set_cons_zero, List.set_cons_succ]
    skip
    refine wpAnyS_ready (rs := [0, 12]) (by kernel_rfl) (by simp) ?_
    refine AllReadyS.cons rfl (fun T hT => ?_) ?_
    · skip
      have hmm := @run_makeMap Try.prog
      go_simp
      clear hmm
      have HW6 := Lib.hid (show Own (W5.alloc (.map #[] 0)) b0 ((mapPc placeV W5.heap.size [] :: _) ++ Lb) ∧ Below w.heap.size w (W5.alloc (.map #[] 0)) ∧ b0 ≤ (W5.alloc (.map #[] 0)).heap.size from ⟨own_new (mapPc placeV W5.heap.size []) HW5.out.1 HW5.out.2.2 (ba (br W5) _) (GMap.made placeV W5) (fun b e => by injection e with e; omega), ba HW5.out.2.1 _, Nat.le_trans HW5.out.2.2 (ba (br W5) _).size⟩)
      refine hT.out _ _ (fun _ => HBM.out _ HW6.out.2.1) ?_
      have HZS := Lib.hid (show w.heap.size ≤ W5.heap.size from HW5.out.2.1.size)
      generalize hvZ : W5.heap.size = vZW6 at *
      generalize W5.alloc (.map #[] 0) = W6 at *
      clear hvZ hT T
      simp only [Act.put, List.getElem_toArray, List.getElem_cons_succ, List.getElem_cons_zero, List.setIfInBounds_toArray, List.set_cons_zero, List.set_cons_succ]
      skip
      refine wpAnyS_ready (rs := [12]) (by kernel_rfl) (by simp) ?_
      refine AllReadyS.cons rfl (fun T hT => ?_) AllReadyS.nil
      go_simp
      refine (clone_conf confV M.c.eb (vals (fun n : Nat => Value.int .u64 (n : Int)) M.mems) W6 (HG.out _ _ HW6.out.1).2.1).mono ?_
      rintro e W7 ⟨rfl, hg, hb⟩
      have HW7 := Lib.hid (show Own W7 b0 ((mapPc confV W6.heap.size (vals (fun n : Nat => Value.int .u64 (n : Int)) M.mems) :: _) ++ Lb) ∧ Below w.heap.size w W7 ∧ b0 ≤ W7.heap.size from ⟨own_new (mapPc confV W6.heap.size (vals (fun n : Nat => Value.int .u64 (n : Int)) M.mems)) HW6.out.1 HW6.out.2.2 hb hg (fun b e => by injection e with e; omega), bt HW6.out.2.1 hb, Nat.le_trans HW6.out.2.2 hb.size⟩)
      refine hT.out _ _ (fun _ => HBM.out _ HW7.out.2.1) ?_
      generalize hvB : W6.heap.size = vBW7 at *
      clear hvB hg hb hT T
      simp only [Act.put, List.getElem_toArray, List.getElem_cons_succ, List.getElem_cons_zero, List.setIfInBounds_toArray, List.set_cons_zero, List.set_cons_succ]
      skip
      refine wpAnyS_ready (rs := [17]) (by kernel_rfl) (by simp) ?_
      refine AllReadyS.cons rfl (fun T hT => ?_) AllReadyS.nil
      go_simp
      refine (clone_bool intV M.c.lb (vals (fun b : Bool => Value.bool b) M.live) W7 (HG.out _ _ HW7.out.1).2.2.1).mono ?_
      rintro e W8 ⟨rfl, hg, hb⟩
      have HW8 := Lib.hid (show Own W8 b0 ((mapPc intV W7.heap.size (vals (fun b : Bool => Value.bool b) M.live) :: _) ++ Lb) ∧ Below w.heap.size w W8 ∧ b0 ≤ W8.heap.size from ⟨own_new (mapPc intV W7.heap.size (vals (fun b : Bool => Value.bool b) M.live)) HW7.out.1 HW7.out.2.2 hb hg (fun b e => by injection e with e; omega), bt HW7.out.2.1 hb, Nat.le_trans HW7.out.2.2 hb.size⟩)
      refine hT.out _ _ (fun _ => HBM.out _ HW8.out.2.1) ?_
      generalize hvD : W7.heap.size = vDW8 at *
      clear hvD hg hb hT T
      simp only [Act.put, List.getElem_toArray, List.getElem_cons_succ, List.getElem_cons_zero, List.setIfInBounds_toArray, List.set_cons_zero, List.set_cons_succ]
      skip
      have hcc := cp_cells (s := vZW6) (h := vAW5) (e := vBW7) (l := vDW8) (HG.out _ _ HW8.out.1).2.2.2
      have hfin := cp_own (w := w) (s := vZW6) (h := vAW5) (e := vBW7) (l := vDW8) (S := [_, _, _, _]) (T := parts B M ++ R) (by have h := HW8.out.1; rw [HL.out] at h; exact h) HW8.out.2.2 rfl (perm4_2 _ _ _ _)
      have HF := Lib.hid (show ∃ s h e l, Hid ((Own _ b0 (cpP C M s h e l ++ (parts B M ++ R)) ∧ Below w.heap.size w _ ∧ b0 ≤ _) ∧ w.heap.size ≤ s) from ⟨vZW6, vAW5, vBW7, vDW8, ⟨⟨hfin.1, HW8.out.2.1.trans (hfin.2.below HW8.out.2.1.size (fun k hk e => by have := HCN.out; omega)), Nat.le_trans HW8.out.2.2 hfin.2.size⟩, HZS.out⟩⟩)
      clear hfin
      obtain ⟨m0, m1, m2, m3⟩ := hcc
      have mm : MAt W8 C M.c := (HG.out _ _ HW8.out.1).2.2.2
      have hbw : Below w.heap.size w W8 := HW8.out.2.1
      have fr : World.frozen? _ ⟨C, 0, none⟩ = false := frozen_of_row _ _ _ _ _ mm
      have ce : World.cell? _ ⟨C, 0, none⟩ = some (.map (some M.c.sb)) := cell_of_row _ _ 0 _ _ _ mm
      have HBW := Lib.hid hbw
      have hbw := bs hbw (p := ⟨C, 0, none⟩) (by show w.heap.size ≤ C; have := HCN.out; omega) (.map (some vZW6))
      have HBW2 := Lib.hid hbw
      clear hbw
      refine wpAnyS_ready (rs := [18]) (by kernel_rfl) (by simp) ?_
      refine AllReadyS.cons rfl (fun T hT => ?_) AllReadyS.nil
      go_simp
      refine hT.out _ _ (fun _ => HBM.out _ HBW.out) ?_
      clear hT T
      simp only [Act.put, List.getElem_toArray, List.getElem_cons_succ, List.getElem_cons_zero, List.setIfInBounds_toArray, List.set_cons_zero, List.set_cons_succ]
      refine wpAnyS_ready (rs := [19]) (by kernel_rfl) (by simp) ?_
      refine AllReadyS.cons rfl (fun T hT => ?_) AllReadyS.nil
      go_simp
      refine hT.out _ _ (fun _ => HBM.out _ HBW.out) ?_
      clear hT T
      simp only [Act.put, List.getElem_toArray, List.getElem_cons_succ, List.getElem_cons_zero, List.setIfInBounds_toArray, List.set_cons_zero, List.set_cons_succ]
      refine wpAnyS_ready (rs := [20]) (by kernel_rfl) (by simp) ?_
      refine AllReadyS.cons rfl (fun T hT => ?_) AllReadyS.nil
      go_simp
      refine hT.out _ _ (fun _ => HBM.out _ HBW2.out) ?_
      clear hT T
      simp only [Act.put, List.getElem_toArray, List.getElem_cons_succ, List.getElem_cons_zero, List.setIfInBounds_toArray, List.set_cons_zero, List.set_cons_succ]
      have hbw := HBW2.out
      clear fr ce HBW HBW2
      have fr : World.frozen? _ ⟨C, 1, none⟩ = false := frozen_of_row _ _ _ _ _ m0
      have ce : World.cell? _ ⟨C, 1, none⟩ = some (.map (some M.c.hb)) := cell_of_row _ _ 1 _ _ _ m0
      have HBW := Lib.hid hbw
      have hbw := bs hbw (p := ⟨C, 1, none⟩) (by show w.heap.size ≤ C; have := HCN.out; omega) (.map (some vAW5))
      have HBW2 := Lib.hid hbw
      clear hbw
      refine wpAnyS_ready (rs := [21]) (by kernel_rfl) (by simp) ?_
      refine AllReadyS.cons rfl (fun T hT => ?_) AllReadyS.nil
      go_simp
      refine hT.out _ _ (fun _ => HBM.out _ HBW.out) ?_
      clear hT T
      simp only [Act.put, List.getElem_toArray, List.getElem_cons_succ, List.getElem_cons_zero, List.setIfInBounds_toArray, List.set_cons_zero, List.set_cons_succ]
      refine wpAnyS_ready (rs := [22]) (by kernel_rfl) (by simp) ?_
      refine AllReadyS.cons rfl (fun T hT => ?_) AllReadyS.nil
      go_simp
      refine hT.out _ _ (fun _ => HBM.out _ HBW.out) ?_
      clear hT T
      simp only [Act.put, List.getElem_toArray, List.getElem_cons_succ, List.getElem_cons_zero, List.setIfInBounds_toArray, List.set_cons_zero, List.set_cons_succ]
      refine wpAnyS_ready (rs := [23]) (by kernel_rfl) (by simp) ?_
      refine AllReadyS.cons rfl (fun T hT => ?_) AllReadyS.nil
      go_simp
      refine hT.out _ _ (fun _ => HBM.out _ HBW2.out) ?_
      clear hT T
      simp only [Act.put, List.getElem_toArray, List.getElem_cons_succ, List.getElem_cons_zero, List.setIfInBounds_toArray, List.set_cons_zero, List.set_cons_succ]
      have hbw := HBW2.out
      clear fr ce HBW HBW2
      have fr : World.frozen? _ ⟨C, 2, none⟩ = false := frozen_of_row _ _ _ _ _ m1
      have ce : World.cell? _ ⟨C, 2, none⟩ = some (.map (some M.c.eb)) := cell_of_row _ _ 2 _ _ _ m1
      have HBW := Lib.hid hbw
      have hbw := bs hbw (p := ⟨C, 2, none⟩) (by show w.heap.size ≤ C; have := HCN.out; omega) (.map (some vBW7))
      have HBW2 := Lib.hid hbw
      clear hbw
      refine wpAnyS_ready (rs := [24]) (by kernel_rfl) (by simp) ?_
      refine AllReadyS.cons rfl (fun T hT => ?_) AllReadyS.nil
      go_simp
      refine hT.out _ _ (fun _ => HBM.out _ HBW.out) ?_
      clear hT T
      simp only [Act.put, List.getElem_toArray, List.getElem_cons_succ, List.getElem_cons_zero, List.setIfInBounds_toArray, List.set_cons_zero, List.set_cons_succ]
      refine wpAnyS_ready (rs := [25]) (by kernel_rfl) (by simp) ?_
      refine AllReadyS.cons rfl (fun T hT => ?_) AllReadyS.nil
      go_simp
      refine hT.out _ _ (fun _ => HBM.out _ HBW.out) ?_
      clear hT T
      simp only [Act.put, List.getElem_toArray, List.getElem_cons_succ, List.getElem_cons_zero, List.setIfInBounds_toArray, List.set_cons_zero, List.set_cons_succ]
      refine wpAnyS_ready (rs := [26]) (by kernel_rfl) (by simp) ?_
      refine AllReadyS.cons rfl (fun T hT => ?_) AllReadyS.nil
      go_simp
      refine hT.out _ _ (fun _ => HBM.out _ HBW2.out) ?_
      clear hT T
      simp only [Act.put, List.getElem_toArray, List.getElem_cons_succ, List.getElem_cons_zero, List.setIfInBounds_toArray, List.set_cons_zero, List.set_cons_succ]
      have hbw := HBW2.out
      clear fr ce HBW HBW2
      have fr : World.frozen? _ ⟨C, 4, none⟩ = false := frozen_of_row _ _ _ _ _ m2
      have ce : World.cell? _ ⟨C, 4, none⟩ = some (.map (some M.c.lb)) := cell_of_row _ _ 4 _ _ _ m2
      have HBW := Lib.hid hbw
      have hbw := bs hbw (p := ⟨C, 4, none⟩) (by show w.heap.size ≤ C; have := HCN.out; omega) (.map (some vDW8))
      have HBW2 := Lib.hid hbw
      clear hbw
      refine wpAnyS_ready (rs := [27]) (by kernel_rfl) (by simp) ?_
      refine AllReadyS.cons rfl (fun T hT => ?_) AllReadyS.nil
      go_simp
      refine hT.out _ _ (fun _ => HBM.out _ HBW.out) ?_
      clear hT T
      simp only [Act.put, List.getElem_toArray, List.getElem_cons_succ, List.getElem_cons_zero, List.setIfInBounds_toArray, List.set_cons_zero, List.set_cons_succ]
      refine wpAnyS_ready (rs := [28]) (by kernel_rfl) (by simp) ?_
      refine AllReadyS.cons rfl (fun T hT => ?_) AllReadyS.nil
      go_simp
      refine hT.out _ _ (fun h => absurd h (by omega)) ?_
      clear hT T
      simp only [Act.put, List.getElem_toArray, List.getElem_cons_succ, List.getElem_cons_zero, List.setIfInBounds_toArray, List.set_cons_zero, List.set_cons_succ]
      have hbw := HBW2.out
      clear fr ce HBW HBW2
      clear m0 m1 m2 m3 mm hbw
      refine wpAnyS_done (by kernel_rfl) ?_ _
      go_wp2_with fail
      go_meet
      exact HF.out
    refine AllReadyS.cons rfl (fun T hT => ?_) AllReadyS.nil
    go_simp
    refine (clone_conf confV M.c.eb (vals (fun n : Nat => Value.int .u64 (n : Int)) M.mems) W5 (HG.out _ _ HW5.out.1).2.1).mono ?_
    rintro e W9 ⟨rfl, hg, hb⟩
    have HW9 := Lib.hid (show Own W9 b0 ((mapPc confV W5.heap.size (vals (fun n : Nat => Value.int .u64 (n : Int)) M.mems) :: _) ++ Lb) ∧ Below w.heap.size w W9 ∧ b0 ≤ W9.heap.size from ⟨own_new (mapPc confV W5.heap.size (vals (fun n : Nat => Value.int .u64 (n : Int)) M.mems)) HW5.out.1 HW5.out.2.2 hb hg (fun b e => by injection e with e; omega), bt HW5.out.2.1 hb, Nat.le_trans HW5.out.2.2 hb.size⟩)
    refine hT.out _ _ (fun _ => HBM.out _ HW9.out.2.1) ?_
    generalize hvB : W5.heap.size = vBW9 at *
    clear hvB hg hb hT T
    simp only [Act.put, List.getElem_toArray, List.getElem_cons_succ, List.getElem_cons_zero, List.setIfInBounds_toArray, List.set_cons_zero, List.set_cons_succ]
    skip
    refine wpAnyS_ready (rs := [0, 17]) (by kernel_rfl) (by simp) ?_
    refine AllReadyS.cons rfl (fun T hT => ?_) ?_
    · skip
      have hmm := @run_makeMap Try.prog
      go_simp
      clear hmm
      have HW10 := Lib.hid (show Own (W9.alloc (.map #[] 0)) b0 ((mapPc placeV W9.heap.size [] :: _) ++ Lb) ∧ Below w.heap.size w (W9.alloc (.map #[] 0)) ∧ b0 ≤ (W9.alloc (.map #[] 0)).heap.size from ⟨own_new (mapPc placeV W9.heap.size []) HW9.out.1 HW9.out.2.2 (ba (br W9) _) (GMap.made placeV W9) (fun b e => by injection e with e; omega), ba HW9.out.2.1 _, Nat.le_trans HW9.out.2.2 (ba (br W9) _).size⟩)
      refine hT.out _ _ (fun _ => HBM.out _ HW10.out.2.1) ?_
      have HZS := Lib.hid (show w.heap.size ≤ W9.heap.size from HW9.out.2.1.size)
      generalize hvZ : W9.heap.size = vZW10 at *
      generalize W9.alloc (.map #[] 0) = W10 at *
      clear hvZ hT T
      simp only [Act.put, List.getElem_toArray, List.getElem_cons_succ, List.getElem_cons_zero, List.setIfInBounds_toArray, List.set_cons_zero, List.set_cons_succ]
      skip
      refine wpAnyS_ready (rs := [17]) (by kernel_rfl) (by simp) ?_
      refine AllReadyS.cons rfl (fun T hT => ?_) AllReadyS.nil
      go_simp
      refine (clone_bool intV M.c.lb (vals (fun b : Bool => Value.bool b) M.live) W10 (HG.out _ _ HW10.out.1).2.2.1).mono ?_
      rintro e W11 ⟨rfl, hg, hb⟩
      have HW11 := Lib.hid (show Own W11 b0 ((mapPc intV W10.heap.size (vals (fun b : Bool => Value.bool b) M.live) :: _) ++ Lb) ∧ Below w.heap.size w W11 ∧ b0 ≤ W11.heap.size from ⟨own_new (mapPc intV W10.heap.size (vals (fun b : Bool => Value.bool b) M.live)) HW10.out.1 HW10.out.2.2 hb hg (fun b e => by injection e with e; omega), bt HW10.out.2.1 hb, Nat.le_trans HW10.out.2.2 hb.size⟩)
      refine hT.out _ _ (fun _ => HBM.out _ HW11.out.2.1) ?_
      generalize hvD : W10.heap.size = vDW11 at *
      clear hvD hg hb hT T
      simp only [Act.put, List.getElem_toArray, List.getElem_cons_succ, List.getElem_cons_zero, List.setIfInBounds_toArray, List.set_cons_zero, List.set_cons_succ]
      skip
      have hcc := cp_cells (s := vZW10) (h := vAW5) (e := vBW9) (l := vDW11) (HG.out _ _ HW11.out.1).2.2.2
      have hfin := cp_own (w := w) (s := vZW10) (h := vAW5) (e := vBW9) (l := vDW11) (S := [_, _, _, _]) (T := parts B M ++ R) (by have h := HW11.out.1; rw [HL.out] at h; exact h) HW11.out.2.2 rfl (perm4_3 _ _ _ _)
      have HF := Lib.hid (show ∃ s h e l, Hid ((Own _ b0 (cpP C M s h e l ++ (parts B M ++ R)) ∧ Below w.heap.size w _ ∧ b0 ≤ _) ∧ w.heap.size ≤ s) from ⟨vZW10, vAW5, vBW9, vDW11, ⟨⟨hfin.1, HW11.out.2.1.trans (hfin.2.below HW11.out.2.1.size (fun k hk e => by have := HCN.out; omega)), Nat.le_trans HW11.out.2.2 hfin.2.size⟩, HZS.out⟩⟩)
      clear hfin
      obtain ⟨m0, m1, m2, m3⟩ := hcc
      have mm : MAt W11 C M.c := (HG.out _ _ HW11.out.1).2.2.2
      have hbw : Below w.heap.size w W11 := HW11.out.2.1
      have fr : World.frozen? _ ⟨C, 0, none⟩ = false := frozen_of_row _ _ _ _ _ mm
      have ce : World.cell? _ ⟨C, 0, none⟩ = some (.map (some M.c.sb)) := cell_of_row _ _ 0 _ _ _ mm
      have HBW := Lib.hid hbw
      have hbw := bs hbw (p := ⟨C, 0, none⟩) (by show w.heap.size ≤ C; have := HCN.out; omega) (.map (some vZW10))
      have HBW2 := Lib.hid hbw
      clear hbw
      refine wpAnyS_ready (rs := [18]) (by kernel_rfl) (by simp) ?_
      refine AllReadyS.cons rfl (fun T hT => ?_) AllReadyS.nil
      go_simp
      refine hT.out _ _ (fun _ => HBM.out _ HBW.out) ?_
      clear hT T
      simp only [Act.put, List.getElem_toArray, List.getElem_cons_succ, List.getElem_cons_zero, List.setIfInBounds_toArray, List.set_cons_zero, List.set_cons_succ]
      refine wpAnyS_ready (rs := [19]) (by kernel_rfl) (by simp) ?_
      refine AllReadyS.cons rfl (fun T hT => ?_) AllReadyS.nil
      go_simp
      refine hT.out _ _ (fun _ => HBM.out _ HBW.out) ?_
      clear hT T
      simp only [Act.put, List.getElem_toArray, List.getElem_cons_succ, List.getElem_cons_zero, List.setIfInBounds_toArray, List.set_cons_zero, List.set_cons_succ]
      refine wpAnyS_ready (rs := [20]) (by kernel_rfl) (by simp) ?_
      refine AllReadyS.cons rfl (fun T hT => ?_) AllReadyS.nil
      go_simp
      refine hT.out _ _ (fun _ => HBM.out _ HBW2.out) ?_
      clear hT T
      simp only [Act.put, List.getElem_toArray, List.getElem_cons_succ, List.getElem_cons_zero, List.setIfInBounds_toArray, List.set_cons_zero, List.set_cons_succ]
      have hbw := HBW2.out
      clear fr ce HBW HBW2
      have fr : World.frozen? _ ⟨C, 1, none⟩ = false := frozen_of_row _ _ _ _ _ m0
      have ce : World.cell? _ ⟨C, 1, none⟩ = some (.map (some M.c.hb)) := cell_of_row _ _ 1 _ _ _ m0
      have HBW := Lib.hid hbw
      have hbw := bs hbw (p := ⟨C, 1, none⟩) (by show w.heap.size ≤ C; have := HCN.out; omega) (.map (some vAW5))
      have HBW2 := Lib.hid hbw
      clear hbw
      refine wpAnyS_ready (rs := [21]) (by kernel_rfl) (by simp) ?_
      refine AllReadyS.cons rfl (fun T hT => ?_) AllReadyS.nil
      go_simp
      refine hT.out _ _ (fun _ => HBM.out _ HBW.out) ?_
      clear hT T
      simp only [Act.put, List.getElem_toArray, List.getElem_cons_succ, List.getElem_cons_zero, List.setIfInBounds_toArray, List.set_cons_zero, List.set_cons_succ]
      refine wpAnyS_ready (rs := [22]) (by kernel_rfl) (by simp) ?_
      refine AllReadyS.cons rfl (fun T hT => ?_) AllReadyS.nil
      go_simp
      refine hT.out _ _ (fun _ => HBM.out _ HBW.out) ?_
      clear hT T
      simp only [Act.put, List.getElem_toArray, List.getElem_cons_succ, List.getElem_cons_zero, List.setIfInBounds_toArray, List.set_cons_zero, List.set_cons_succ]
      refine wpAnyS_ready (rs := [23]) (by kernel_rfl) (by simp) ?_
      refine AllReadyS.cons rfl (fun T hT => ?_) AllReadyS.nil
      go_simp
      refine hT.out _ _ (fun _ => HBM.out _ HBW2.out) ?_
      clear hT T
      simp only [Act.put, List.getElem_toArray, List.getElem_cons_succ, List.getElem_cons_zero, List.setIfInBounds_toArray, List.set_cons_zero, List.set_cons_succ]
      have hbw := HBW2.out
      clear fr ce HBW HBW2
      have fr : World.frozen? _ ⟨C, 2, none⟩ = false := frozen_of_row _ _ _ _ _ m1
      have ce : World.cell? _ ⟨C, 2, none⟩ = some (.map (some M.c.eb)) := cell_of_row _ _ 2 _ _ _ m1
      have HBW := Lib.hid hbw
      have hbw := bs hbw (p := ⟨C, 2, none⟩) (by show w.heap.size ≤ C; have := HCN.out; omega) (.map (some vBW9))
      have HBW2 := Lib.hid hbw
      clear hbw
      refine wpAnyS_ready (rs := [24]) (by kernel_rfl) (by simp) ?_
      refine AllReadyS.cons rfl (fun T hT => ?_) AllReadyS.nil
      go_simp
      refine hT.out _ _ (fun _ => HBM.out _ HBW.out) ?_
      clear hT T
      simp only [Act.put, List.getElem_toArray, List.getElem_cons_succ, List.getElem_cons_zero, List.setIfInBounds_toArray, List.set_cons_zero, List.set_cons_succ]
      refine wpAnyS_ready (rs := [25]) (by kernel_rfl) (by simp) ?_
      refine AllReadyS.cons rfl (fun T hT => ?_) AllReadyS.nil
      go_simp
      refine hT.out _ _ (fun _ => HBM.out _ HBW.out) ?_
      clear hT T
      simp only [Act.put, List.getElem_toArray, List.getElem_cons_succ, List.getElem_cons_zero, List.setIfInBounds_toArray, List.set_cons_zero, List.set_cons_succ]
      refine wpAnyS_ready (rs := [26]) (by kernel_rfl) (by simp) ?_
      refine AllReadyS.cons rfl (fun T hT => ?_) AllReadyS.nil
      go_simp
      refine hT.out _ _ (fun _ => HBM.out _ HBW2.out) ?_
      clear hT T
      simp only [Act.put, List.getElem_toArray, List.getElem_cons_succ, List.getElem_cons_zero, List.setIfInBounds_toArray, List.set_cons_zero, List.set_cons_succ]
      have hbw := HBW2.out
      clear fr ce HBW HBW2
      have fr : World.frozen? _ ⟨C, 4, none⟩ = false := frozen_of_row _ _ _ _ _ m2
      have ce : World.cell? _ ⟨C, 4, none⟩ = some (.map (some M.c.lb)) := cell_of_row _ _ 4 _ _ _ m2
      have HBW := Lib.hid hbw
      have hbw := bs hbw (p := ⟨C, 4, none⟩) (by show w.heap.size ≤ C; have := HCN.out; omega) (.map (some vDW11))
      have HBW2 := Lib.hid hbw
      clear hbw
      refine wpAnyS_ready (rs := [27]) (by kernel_rfl) (by simp) ?_
      refine AllReadyS.cons rfl (fun T hT => ?_) AllReadyS.nil
      go_simp
      refine hT.out _ _ (fun _ => HBM.out _ HBW.out) ?_
      clear hT T
      simp only [Act.put, List.getElem_toArray, List.getElem_cons_succ, List.getElem_cons_zero, List.setIfInBounds_toArray, List.set_cons_zero, List.set_cons_succ]
      refine wpAnyS_ready (rs := [28]) (by kernel_rfl) (by simp) ?_
      refine AllReadyS.cons rfl (fun T hT => ?_) AllReadyS.nil
      go_simp
      refine hT.out _ _ (fun h => absurd h (by omega)) ?_
      clear hT T
      simp only [Act.put, List.getElem_toArray, List.getElem_cons_succ, List.getElem_cons_zero, List.setIfInBounds_toArray, List.set_cons_zero, List.set_cons_succ]
      have hbw := HBW2.out
      clear fr ce HBW HBW2
      clear m0 m1 m2 m3 mm hbw
      refine wpAnyS_done (by kernel_rfl) ?_ _
      go_wp2_with fail
      go_meet
      exact HF.out
    refine AllReadyS.cons rfl (fun T hT => ?_) AllReadyS.nil
    go_simp
    refine (clone_bool intV M.c.lb (vals (fun b : Bool => Value.bool b) M.live) W9 (HG.out _ _ HW9.out.1).2.2.1).mono ?_
    rintro e W12 ⟨rfl, hg, hb⟩
    have HW12 := Lib.hid (show Own W12 b0 ((mapPc intV W9.heap.size (vals (fun b : Bool => Value.bool b) M.live) :: _) ++ Lb) ∧ Below w.heap.size w W12 ∧ b0 ≤ W12.heap.size from ⟨own_new (mapPc intV W9.heap.size (vals (fun b : Bool => Value.bool b) M.live)) HW9.out.1 HW9.out.2.2 hb hg (fun b e => by injection e with e; omega), bt HW9.out.2.1 hb, Nat.le_trans HW9.out.2.2 hb.size⟩)
    refine hT.out _ _ (fun _ => HBM.out _ HW12.out.2.1) ?_
    generalize hvD : W9.heap.size = vDW12 at *
    clear hvD hg hb hT T
    simp only [Act.put, List.getElem_toArray, List.getElem_cons_succ, List.getElem_cons_zero, List.setIfInBounds_toArray, List.set_cons_zero, List.set_cons_succ]
    skip
    refine wpAnyS_ready (rs := [0]) (by kernel_rfl) (by simp) ?_
    refine AllReadyS.cons rfl (fun T hT => ?_) AllReadyS.nil
    have hmm := @run_makeMap Try.prog
    go_simp
    clear hmm
    have HW13 := Lib.hid (show Own (W12.alloc (.map #[] 0)) b0 ((mapPc placeV W12.heap.size [] :: _) ++ Lb) ∧ Below w.heap.size w (W12.alloc (.map #[] 0)) ∧ b0 ≤ (W12.alloc (.map #[] 0)).heap.size from ⟨own_new (mapPc placeV W12.heap.size []) HW12.out.1 HW12.out.2.2 (ba (br W12) _) (GMap.made placeV W12) (fun b e => by injection e with e; omega), ba HW12.out.2.1 _, Nat.le_trans HW12.out.2.2 (ba (br W12) _).size⟩)
    refine hT.out _ _ (fun _ => HBM.out _ HW13.out.2.1) ?_
    have HZS := Lib.hid (show w.heap.size ≤ W12.heap.size from HW12.out.2.1.size)
    generalize hvZ : W12.heap.size = vZW13 at *
    generalize W12.alloc (.map #[] 0) = W13 at *
    clear hvZ hT T
    simp only [Act.put, List.getElem_toArray, List.getElem_cons_succ, List.getElem_cons_zero, List.setIfInBounds_toArray, List.set_cons_zero, List.set_cons_succ]
    skip
    have hcc := cp_cells (s := vZW13) (h := vAW5) (e := vBW9) (l := vDW12) (HG.out _ _ HW13.out.1).2.2.2
    have hfin := cp_own (w := w) (s := vZW13) (h := vAW5) (e := vBW9) (l := vDW12) (S := [_, _, _, _]) (T := parts B M ++ R) (by have h := HW13.out.1; rw [HL.out] at h; exact h) HW13.out.2.2 rfl (perm4_4 _ _ _ _)
    have HF := Lib.hid (show ∃ s h e l, Hid ((Own _ b0 (cpP C M s h e l ++ (parts B M ++ R)) ∧ Below w.heap.size w _ ∧ b0 ≤ _) ∧ w.heap.size ≤ s) from ⟨vZW13, vAW5, vBW9, vDW12, ⟨⟨hfin.1, HW13.out.2.1.trans (hfin.2.below HW13.out.2.1.size (fun k hk e => by have := HCN.out; omega)), Nat.le_trans HW13.out.2.2 hfin.2.size⟩, HZS.out⟩⟩)
    clear hfin
    obtain ⟨m0, m1, m2, m3⟩ := hcc
    have mm : MAt W13 C M.c := (HG.out _ _ HW13.out.1).2.2.2
    have hbw : Below w.heap.size w W13 := HW13.out.2.1
    have fr : World.frozen? _ ⟨C, 0, none⟩ = false := frozen_of_row _ _ _ _ _ mm
    have ce : World.cell? _ ⟨C, 0, none⟩ = some (.map (some M.c.sb)) := cell_of_row _ _ 0 _ _ _ mm
    have HBW := Lib.hid hbw
    have hbw := bs hbw (p := ⟨C, 0, none⟩) (by show w.heap.size ≤ C; have := HCN.out; omega) (.map (some vZW13))
    have HBW2 := Lib.hid hbw
    clear hbw
    refine wpAnyS_ready (rs := [18]) (by kernel_rfl) (by simp) ?_
    refine AllReadyS.cons rfl (fun T hT => ?_) AllReadyS.nil
    go_simp
    refine hT.out _ _ (fun _ => HBM.out _ HBW.out) ?_
    clear hT T
    simp only [Act.put, List.getElem_toArray, List.getElem_cons_succ, List.getElem_cons_zero, List.setIfInBounds_toArray, List.set_cons_zero, List.set_cons_succ]
    refine wpAnyS_ready (rs := [19]) (by kernel_rfl) (by simp) ?_
    refine AllReadyS.cons rfl (fun T hT => ?_) AllReadyS.nil
    go_simp
    refine hT.out _ _ (fun _ => HBM.out _ HBW.out) ?_
    clear hT T
    simp only [Act.put, List.getElem_toArray, List.getElem_cons_succ, List.getElem_cons_zero, List.setIfInBounds_toArray, List.set_cons_zero, List.set_cons_succ]
    refine wpAnyS_ready (rs := [20]) (by kernel_rfl) (by simp) ?_
    refine AllReadyS.cons rfl (fun T hT => ?_) AllReadyS.nil
    go_simp
    refine hT.out _ _ (fun _ => HBM.out _ HBW2.out) ?_
    clear hT T
    simp only [Act.put, List.getElem_toArray, List.getElem_cons_succ, List.getElem_cons_zero, List.setIfInBounds_toArray, List.set_cons_zero, List.set_cons_succ]
    have hbw := HBW2.out
    clear fr ce HBW HBW2
    have fr : World.frozen? _ ⟨C, 1, none⟩ = false := frozen_of_row _ _ _ _ _ m0
    have ce : World.cell? _ ⟨C, 1, none⟩ = some (.map (some M.c.hb)) := cell_of_row _ _ 1 _ _ _ m0
    have HBW := Lib.hid hbw
    have hbw := bs hbw (p := ⟨C, 1, none⟩) (by show w.heap.size ≤ C; have := HCN.out; omega) (.map (some vAW5))
    have HBW2 := Lib.hid hbw
    clear hbw
    refine wpAnyS_ready (rs := [21]) (by kernel_rfl) (by simp) ?_
    refine AllReadyS.cons rfl (fun T hT => ?_) AllReadyS.nil
    go_simp
    refine hT.out _ _ (fun _ => HBM.out _ HBW.out) ?_
    clear hT T
    simp only [Act.put, List.getElem_toArray, List.getElem_cons_succ, List.getElem_cons_zero, List.setIfInBounds_toArray, List.set_cons_zero, List.set_cons_succ]
    refine wpAnyS_ready (rs := [22]) (by kernel_rfl) (by simp) ?_
    refine AllReadyS.cons rfl (fun T hT => ?_) AllReadyS.nil
    go_simp
    refine hT.out _ _ (fun _ => HBM.out _ HBW.out) ?_
    clear hT T
    simp only [Act.put, List.getElem_toArray, List.getElem_cons_succ, List.getElem_cons_zero, List.setIfInBounds_toArray, List.set_cons_zero, List.set_cons_succ]
    refine wpAnyS_ready (rs := [23]) (by kernel_rfl) (by simp) ?_
    refine AllReadyS.cons rfl (fun T hT => ?_) AllReadyS.nil
    go_simp
    refine hT.out _ _ (fun _ => HBM.out _ HBW2.out) ?_
    clear hT T
    simp only [Act.put, List.getElem_toArray, List.getElem_cons_succ, List.getElem_cons_zero, List.setIfInBounds_toArray, List.set_cons_zero, List.set_cons_succ]
    have hbw := HBW2.out
    clear fr ce HBW HBW2
    have fr : World.frozen? _ ⟨C, 2, none⟩ = false := frozen_of_row _ _ _ _ _ m1
    have ce : World.cell? _ ⟨C, 2, none⟩ = some (.map (some M.c.eb)) := cell_of_row _ _ 2 _ _ _ m1
    have HBW := Lib.hid hbw
    have hbw := bs hbw (p := ⟨C, 2, none⟩) (by show w.heap.size ≤ C; have := HCN.out; omega) (.map (some vBW9))
    have HBW2 := Lib.hid hbw
    clear hbw
    refine wpAnyS_ready (rs := [24]) (by kernel_rfl) (by simp) ?_
    refine AllReadyS.cons rfl (fun T hT => ?_) AllReadyS.nil
    go_simp
    refine hT.out _ _ (fun _ => HBM.out _ HBW.out) ?_
    clear hT T
    simp only [Act.put, List.getElem_toArray, List.getElem_cons_succ, List.getElem_cons_zero, List.setIfInBounds_toArray, List.set_cons_zero, List.set_cons_succ]
    refine wpAnyS_ready (rs := [25]) (by kernel_rfl) (by simp) ?_
    refine AllReadyS.cons rfl (fun T hT => ?_) AllReadyS.nil
    go_simp
    refine hT.out _ _ (fun _ => HBM.out _ HBW.out) ?_
    clear hT T
    simp only [Act.put, List.getElem_toArray, List.getElem_cons_succ, List.getElem_cons_zero, List.setIfInBounds_toArray, List.set_cons_zero, List.set_cons_succ]
    refine wpAnyS_ready (rs := [26]) (by kernel_rfl) (by simp) ?_
    refine AllReadyS.cons rfl (fun T hT => ?_) AllReadyS.nil
    go_simp
    refine hT.out _ _ (fun _ => HBM.out _ HBW2.out) ?_
    clear hT T
    simp only [Act.put, List.getElem_toArray, List.getElem_cons_succ, List.getElem_cons_zero, List.setIfInBounds_toArray, List.set_cons_zero, List.set_cons_succ]
    have hbw := HBW2.out
    clear fr ce HBW HBW2
    have fr : World.frozen? _ ⟨C, 4, none⟩ = false := frozen_of_row _ _ _ _ _ m2
    have ce : World.cell? _ ⟨C, 4, none⟩ = some (.map (some M.c.lb)) := cell_of_row _ _ 4 _ _ _ m2
    have HBW := Lib.hid hbw
    have hbw := bs hbw (p := ⟨C, 4, none⟩) (by show w.heap.size ≤ C; have := HCN.out; omega) (.map (some vDW12))
    have HBW2 := Lib.hid hbw
    clear hbw
    refine wpAnyS_ready (rs := [27]) (by kernel_rfl) (by simp) ?_
    refine AllReadyS.cons rfl (fun T hT => ?_) AllReadyS.nil
    go_simp
    refine hT.out _ _ (fun _ => HBM.out _ HBW.out) ?_
    clear hT T
    simp only [Act.put, List.getElem_toArray, List.getElem_cons_succ, List.getElem_cons_zero, List.setIfInBounds_toArray, List.set_cons_zero, List.set_cons_succ]
    refine wpAnyS_ready (rs := [28]) (by kernel_rfl) (by simp) ?_
    refine AllReadyS.cons rfl (fun T hT => ?_) AllReadyS.nil
    go_simp
    refine hT.out _ _ (fun h => absurd h (by omega)) ?_
    clear hT T
    simp only [Act.put, List.getElem_toArray, List.getElem_cons_succ, List.getElem_cons_zero, List.setIfInBounds_toArray, List.set_cons_zero, List.set_cons_succ]
    have hbw := HBW2.out
    clear fr ce HBW HBW2
    clear m0 m1 m2 m3 mm hbw
    refine wpAnyS_done (by kernel_rfl) ?_ _
    go_wp2_with fail
    go_meet
    exact HF.out
    --}
  case rest =>
  obtain ⟨s, h, e, l, hcut⟩ := hcut
  have HSW := Lib.hid hcut.out.2
  have H3 := Lib.hid hcut.out.1
  clear hcut
  obtain ⟨hnd, es, clock, hbl, hst, hLs⟩ := own_sends (H3.out.1.sub (List.sublist_append_right (cpP C M s h e l) _))
  have c0 : wc.cell? ⟨B, 0, none⟩ = some (.map (some M.c.sb)) := cell_of_row _ _ 0 _ _ _ (own_mon (H3.out.1.sub (List.sublist_append_right (cpP C M s h e l) _)))
  have hrg := run_range_map (P := Try.prog) wc 45 69 61 M.c.sb es clock Try.underlying45 hbl
  obtain ⟨r, hr⟩ : ∃ r, r = wc.heap.size := ⟨_, rfl⟩
  obtain ⟨wd, hwd⟩ : ∃ wd, wd = wc.alloc (.mapIter (some M.c.sb) clock #[] clock) := ⟨_, rfl⟩
  have HI := Lib.hid (show CpL w B b0 C r clock M R s h e l es #[] wd from by rw [hr, hwd]; exact CpL.begin H3.out.1 H3.out.2.1 H3.out.2.2)
  have HES := Lib.hid (And.intro hst (And.intro hLs (And.intro hnd (show wd.heap[M.c.sb]? = some (.map es clock) from by rw [hwd]; exact (heap_alloc_old wc _ (Array.getElem?_eq_some_iff.1 hbl).1).trans hbl))))
  have HRW := Lib.hid (show w.heap.size ≤ r from by rw [hr]; exact H3.out.2.1.size)
  clear hnd hbl hst hLs H3
  go_upto_block 0 with (fail)
  rw [← hwd, ← hr]
  clear hwd hr hrg c0
  go_cut [4, 5] (fun s4 s5 wx => ∃ D, (∀ k, (get D k).map (fun r => r.l) = (get M.sends k).map (fun r => r.l)) ∧ Hid (Own wx b0 (monPc C (cpC M.c s h e l) :: mapPc placeV s (vals slV D) :: mapPc hadV h (vals (fun b : Bool => Value.bool b) M.seen) :: mapPc confV e (vals (fun n : Nat => Value.int .u64 (n : Int)) M.mems) :: mapPc intV l (vals (fun b : Bool => Value.bool b) M.live) :: ((D.map fun p => rowPc p.2).reverse ++ (parts B M ++ R))) ∧ Below w.heap.size w wx ∧ b0 ≤ wx.heap.size))
  case first =>
    --{
    go_wp2_with fail
    go_loopw [5] (fun s5 wr => ∃ seen, wr.iterSeen r = seen ∧ Hid (CpL w B b0 C r clock M R s h e l es seen wr)) (fun _ wr => (leftOf es (wr.iterSeen r)).size)
    case atStart =>
      obtain ⟨c0, _, hi⟩ := HI.out.iter
      exact ⟨#[], by unfold World.iterSeen; rw [hi], HI⟩
    case round =>
      obtain ⟨seen, hseen, HW⟩ := hrel
      obtain ⟨c0, hcl, hit⟩ := HW.out.iter
      have hmb : wr.heap[M.c.sb]? = some (.map es clock) := by
        obtain ⟨c0, D, _, _, hbw, _⟩ := HW.out
        obtain ⟨c0', D', _, _, hbd, _⟩ := HI.out
        exact ((hbw.block _ HSL.out).trans (hbd.block _ HSL.out).symm).trans HES.out.2.2.2
      rcases run_next_at (P := Try.prog) wr 0 r M.c.sb clock c0 seen es clock hit hmb HES.out.1.1 hcl with ⟨h0, hnx⟩ | ⟨en, hen, wn, hwn, hnx⟩
      · have HE := Lib.hid (show ∃ D, (∀ k, (get D k).map (fun r => r.l) = (get M.sends k).map (fun r => r.l)) ∧ Hid (Own wr b0 (monPc C (cpC M.c s h e l) :: mapPc placeV s (vals slV D) :: mapPc hadV h (vals (fun b : Bool => Value.bool b) M.seen) :: mapPc confV e (vals (fun n : Nat => Value.int .u64 (n : Int)) M.mems) :: mapPc intV l (vals (fun b : Bool => Value.bool b) M.live) :: ((D.map fun p => rowPc p.2).reverse ++ (parts B M ++ R))) ∧ Below w.heap.size w wr ∧ b0 ≤ wr.heap.size) from by
          obtain ⟨c0, D, _, h2, h3, h4, h5⟩ := HW.out
          exact ⟨D, fun k => h5.all (w := w) HES.out.2.1 h0 k, ⟨h2.sub (List.sublist_cons_self _ _), h3, h4⟩⟩)
        clear hit hmb hcl h0 hseen
        go_wp2_with fail
        go_meet
        exact HE.out
      · obtain ⟨wq, hwq⟩ : ∃ wq, wq = setBlock wn r (.mapIter (some M.c.sb) clock (seen.push en.born) clock) := ⟨_, rfl⟩
        have HEN := Lib.hid hen
        obtain ⟨hes, hsn⟩ := mem_left hen
        obtain ⟨p, hp, hkey, hval⟩ := entry_of (w := w) (sb := 0) HES.out.2.1 hes
        have hkq : Kept (fun b => b = r) wr wq := by
          rw [hwq]
          rcases hwn with rfl | rfl
          · exact kept_setBlock _ _ _
          · exact (show Kept (fun b => b = r) wr wr.drew from (Kept.refl _ _).drew).trans (kept_setBlock _ _ _)
        have hrq : wq.heap[r]? = some (.mapIter (some M.c.sb) clock (seen.push en.born) clock) := by
          rw [hwq]
          rcases hwn with rfl | rfl
          · exact setBlock_at hit
          · exact setBlock_at (show wr.drew.heap[r]? = _ from hit)
        have hsr : M.c.sb ≠ r := fun e => by rw [e, hit] at hmb; cases hmb
        have HQ := Lib.hid (show (∃ D, Own wq b0 (cpL C r M.c.sb clock M s h e l (seen.push en.born) clock D (parts B M ++ R)) ∧ Below w.heap.size w wq ∧ b0 ≤ wq.heap.size ∧ Cp M es seen D) ∧ wq.heap[r]? = some (.mapIter (some M.c.sb) clock (seen.push en.born) clock) ∧ wq.heap[M.c.sb]? = some (.map es clock) from by
          refine ⟨?_, hrq, (hkq.block _ (Array.getElem?_eq_some_iff.1 hmb).1 hsr).trans hmb⟩
          obtain ⟨c0', D, h1, h2, h3, h4, h5⟩ := HW.out
          have h6 := own_at 0 (iterPc r M.c.sb clock (seen.push en.born) clock) h2 h4 (p := iterPc r M.c.sb clock seen c0') rfl (hkq.more fun k _ e => by rw [e]; rfl) hrq (fun b e => .inl e)
          refine ⟨D, h6.1, ?_, Nat.le_trans h4 h6.2.size, h5⟩
          have h7 : w.heap.size ≤ r := HRW.out
          exact h3.trans (hkq.below h3.size (fun k hk e => by omega)))
        have HP := Lib.hid (And.intro hes (And.intro hsn (And.intro hp (And.intro hkey (And.intro hval hseen)))))
        rw [← hwq] at hnx
        rw [hkey, hval] at hnx
        clear hwq hes hsn hp hkey hval hkq hrq hsr hen hit hmb hcl hwn hseen
        have hent := run_entry_at (P := Try.prog) wq r M.c.sb clock seen es clock en HQ.out.2.1 HQ.out.2.2 HP.out.1 HES.out.1.2.1
        rw [HP.out.2.2.2.1, HP.out.2.2.2.2.1] at hent
        unfold placeV slV at hnx hent
        obtain ⟨q, hq⟩ : ∃ q, q = p.2.l.length := ⟨_, rfl⟩
        rw [← hq] at hnx hent
        have HQL := Lib.hid hq
        clear hq
        go_upto_region 6 with (fail)
        clear hnx hent
        obtain ⟨wx, hwx⟩ : ∃ wx, wx = wq.alloc (.cells #[.int .u64 p.1.1, .int .i64 p.1.2.1, .int .i64 p.1.2.2.1, .int .u32 p.1.2.2.2] 69) := ⟨_, rfl⟩
        obtain ⟨KV, hKV⟩ : ∃ KV, KV = wq.heap.size := ⟨_, rfl⟩
        have hbx : Below wq.heap.size wq wx := by rw [hwx]; exact ba (br wq) _
        have hkv : wx.heap[KV]? = some (.cells #[.int .u64 p.1.1, .int .i64 p.1.2.1, .int .i64 p.1.2.2.1, .int .u32 p.1.2.2.2] 69 (0, 0)) := by rw [hwx, hKV]; exact heap_alloc_new wq _
        rw [← hwx, ← hKV]
        obtain ⟨D, hO, hbw, hb0, hcp⟩ := HQ.out.1
        have hOx := hO.below hbx
        have hmc : MAt wx C (cpC M.c s h e l) := hOx.ok (monPc C (cpC M.c s h e l)) (by simp [cpL])
        have HSS := Lib.hid (show ∀ w', Below wx.heap.size wx w' → (w'.cell? ⟨C, 0, none⟩ = some (.map (some s)) ∧ w'.rangeAt KV 0 [.int .u64 p.1.1, .int .i64 p.1.2.1, .int .i64 p.1.2.2.1, .int .u32 p.1.2.2.2]) from fun w' hb => by
          have g1 := (hb.block _ hmc.lt).trans hmc
          have g2 := (hb.block _ (Array.getElem?_eq_some_iff.1 hkv).1).trans hkv
          exact ⟨cell_of_row _ _ 0 _ _ _ g1, fun j u hu => (cell_of_row _ _ _ _ _ _ g2).trans (by simpa using hu)⟩)
        have HX := Lib.hid (And.intro hOx (And.intro (bt hbw (hbx)) (And.intro (Nat.le_trans hb0 hbx.size) (And.intro hcp hbx))))
        clear hwx hKV hkv hO hbw hb0 hcp hOx hmc hbx
        have HW2 := Lib.hid (show Below wx.heap.size wx wx.drew from (br wx).drew)
        have hS0 := HSS.out _ HW2.out
        refine wp_region_mask (fun w' => w'.cell? ⟨C, 0, none⟩ = some (.map (some s)) ∧ w'.rangeAt KV 0 [.int .u64 p.1.1, .int .i64 p.1.2.1, .int .i64 p.1.2.2.1, .int .u32 p.1.2.2.2]) 6 2 [true, true, true, true, true, false, false] #[true, true, true, true, true, false, false] (by kernel_rfl) (by kernel_rfl) (by kernel_rfl) hS0 ?_
        clear hS0
        generalize wx.drew = W at *
        iterate 3
          refine wpMask_take _ (Or.inl ⟨by rfl, fun w' hS => by obtain ⟨h1, h2⟩ := hS; clear h2; go_simp; try with_reducible rfl⟩) ?_
          simp only [Act.put, List.setIfInBounds_toArray, List.set_cons_zero, List.set_cons_succ]
        refine wpMask_take _ (yieldsIf_load_mid (by rfl) 69 (.tmp 4) rfl KV 0 rfl [.int .u64 p.1.1, .int .i64 p.1.2.1, .int .i64 p.1.2.2.1, .int .u32 p.1.2.2.2] _ (fun w' hS => hS.2) Try.underlying69 rfl (by kernel_rfl)) ?_
        simp only [Act.put, List.setIfInBounds_toArray, List.set_cons_zero, List.set_cons_succ]
        refine wpMask_take _ (Or.inl ⟨by rfl, fun w' hS => by clear hS; go_simp; try with_reducible rfl⟩) ?_
        simp only [Act.put, List.setIfInBounds_toArray, List.set_cons_zero, List.set_cons_succ]
        refine wpMask_skip (wpMask_skip (wpMask_nil ?_))
        have hrok : RowOk W p.2 := by
          have hs := (HX.out.1.below HW2.out).ok (rowPc p.2) (by
            simp only [cpL, parts, List.mem_append, List.mem_cons, List.mem_map]
            exact .inr (.inr (.inr (.inr (.inr (.inr (.inr (.inl (.inr (.inr (.inr (.inr (.inr (.inr (.inr (.inr ⟨p, HP.out.2.2.1, rfl⟩))))))))))))))))
          exact hs
        have HCL := Lib.hid (rowClone_any p.2 W hrok (HSENT.out p HP.out.2.2.1))
        unfold slV at HCL
        rw [← HQL.out] at HCL
        clear hrok
        refine wpAnyS_ready (rs := [5]) (by kernel_rfl) (by simp) ?_
        refine AllReadyS.cons rfl (fun T hT => ?_) AllReadyS.nil
        go_simp
        refine HCL.out.mono ?_
        rintro e2 w2 ⟨r', rfl, hl', hr', hB', hb2⟩
        refine hT.out _ _ (fun _ => HSS.out _ (bt HW2.out hb2)) ?_
        clear hT T
        simp only [Act.put, List.getElem_toArray, List.getElem_cons_succ, List.getElem_cons_zero, List.setIfInBounds_toArray, List.set_cons_zero, List.set_cons_succ]
        have hcps := HX.out.2.2.2.1.step HES.out.1 (by have hn := HES.out.2.2.1; unfold vals at hn; rw [List.map_map] at hn; exact hn) HP.out.1 HP.out.2.1 HP.out.2.2.1 HP.out.2.2.2.1 hl'
        obtain ⟨w3, hrun, hO3, hk3⟩ := cpL_put (HX.out.1.below HW2.out) (Nat.le_trans HX.out.2.2.1 HW2.out.size) hb2 hr' hB' p.1 hcps.1
        have hit3 : w3.heap[r]? = some (.mapIter (some M.c.sb) clock (seen.push en.born) clock) := hO3.ok (iterPc r M.c.sb clock (seen.push en.born) clock) (by simp [cpL])
        have HE := Lib.hid (show (∃ sn, w3.iterSeen r = sn ∧ Hid (CpL w B b0 C r clock M R s h e l es sn w3)) ∧ (leftOf es (w3.iterSeen r)).size < (leftOf es (wr.iterSeen r)).size from by
          have hi : w3.iterSeen r = seen.push en.born := by unfold World.iterSeen; rw [hit3]
          refine ⟨⟨_, hi, ⟨clock, _, Nat.le_refl _, hO3, ?_, ?_, hcps.2⟩⟩, ?_⟩
          · exact (bt (bt HX.out.2.1 HW2.out) hb2).trans (hk3.below ((bt (bt HX.out.2.1 HW2.out) hb2)).size (fun k hk e => by have := HSW.out; omega))
          · exact Nat.le_trans HX.out.2.2.1 (Nat.le_trans HW2.out.size (Nat.le_trans hb2.size hk3.size))
          · rw [hi, HP.out.2.2.2.2.2]
            exact left_shrinks es seen en HEN.out)
        clear hcps hO3 hk3 hit3 hl' hr' hB' hb2 HCL
        unfold placeV at hrun
        refine wpAnyS_ready (rs := [6]) (by kernel_rfl) (by simp) ?_
        refine AllReadyS.cons rfl (fun T hT => ?_) AllReadyS.nil
        go_simp
        refine hT.out _ _ (fun h => absurd h (by omega)) ?_
        clear hT T hrun
        simp only [Act.put, List.getElem_toArray, List.getElem_cons_succ, List.getElem_cons_zero, List.setIfInBounds_toArray, List.set_cons_zero, List.set_cons_succ]
        refine wpAnyS_done (by kernel_rfl) ?_ _
        go_wp2_with fail
        exact HE.out
    --}
  case rest =>
  obtain ⟨D, hD, hcut⟩ := hcut
  have H4 := hcut
  have HD := Lib.hid hD
  clear hcut hD
  have hcs := cp_start (c1 := cpC M.c s h e l) rfl H4.out.1 H4.out.2.2
  have hmc : MAt wc C (cpC M.c s h e l) := H4.out.1.ok (monPc C (cpC M.c s h e l)) (by simp)
  have hmd : MAt (wc.alloc (.map #[] 0)) C (cpC M.c s h e l) := hmc.below (ba (br wc) _)
  have hme := setCell_block hmd 5 (.map (some wc.heap.size))
  obtain ⟨vn, hvn⟩ : ∃ vn, vn = wc.heap.size := ⟨_, rfl⟩
  rw [← hvn] at hcs hme
  obtain ⟨we, hwe⟩ : ∃ we, we = ((wc.alloc (.map #[] 0)).setCell ⟨C, 5, none⟩ (.map (some vn))).setCell ⟨C, 3, none⟩ (.slice none 0 0) := ⟨_, rfl⟩
  have H5 := Lib.hid (show Own we b0 (parts C (cpM M s h e l vn D [] [] none 0) ++ (parts B M ++ R)) ∧ Below w.heap.size w we ∧ b0 ≤ we.heap.size from by
    rw [hwe]
    exact ⟨hcs.1, H4.out.2.1.trans (hcs.2.below H4.out.2.1.size (fun k hk e => by have := HCN.out; omega)), Nat.le_trans H4.out.2.2 hcs.2.size⟩)
  have f5 : (wc.alloc (.map #[] 0)).frozen? ⟨C, 5, none⟩ = false := frozen_of_row _ _ _ _ _ hmd
  have g5 : (wc.alloc (.map #[] 0)).cell? ⟨C, 5, none⟩ = some (.map (some M.c.nb)) := cell_of_row _ _ 5 _ _ _ hmd
  have f3 : ((wc.alloc (.map #[] 0)).setCell ⟨C, 5, none⟩ (.map (some vn))).frozen? ⟨C, 3, none⟩ = false := frozen_of_row _ _ _ _ _ hme
  have g3 : ((wc.alloc (.map #[] 0)).setCell ⟨C, 5, none⟩ (.map (some vn))).cell? ⟨C, 3, none⟩ = some (.slice M.c.sa M.c.n M.c.sc) := cell_of_row _ _ 3 _ _ _ hme
  have HVN := Lib.hid (show w.heap.size ≤ vn from by rw [hvn]; exact H4.out.2.1.size)
  have hmm := @run_makeMap Try.prog
  clear hcs hmc hmd hme H4
  rw [hvn] at f3 g3 hwe
  go_upto_region 8 with (fail)
  rw [← hwe]
  clear hwe f5 g5 f3 g3 hmm hvn
  obtain ⟨n3, hn3⟩ : ∃ n3, n3 = M.stays.length := ⟨_, rfl⟩
  have c3 : we.cell? ⟨B, 3, none⟩ = some (.slice M.c.sa n3 M.c.sc) := by
    have hm : MAt we B M.c := H5.out.1.ok (monPc B M.c) (by simp [parts])
    rw [cell_of_row _ _ 3 _ _ _ hm, hn3, ← hM.n]
    rfl
  have H6 := Lib.hid (show CpS w B b0 C s h e l vn D M R 0 we from ⟨[], [], none, 0, rfl, fun i hi hy => (by cases hy), fun p hp => (by cases hp), fun p => (by
    show (none : Option Nat) = _
    cases get M.now p with
    | none => rfl
    | some k => simp), H5.out.1, Kept.of_below H5.out.2.1, H5.out.2.2⟩)
  have HN := Lib.hid (And.intro hn3 hM)
  clear hn3 H5 hM
  go_upto_block 2 with (fail)
  clear c3
  go_cut [7, 8, 64] (fun s7 s8 s64 wx => Hid (CpS w B b0 C s h e l vn D M R n3 wx))
  case first =>
    go_wp2_with fail
    go_loopw [64] (fun i wr => ∃ j : Nat, j ≤ n3 ∧ i = .int .i64 (j : Int) ∧ Hid (CpS w B b0 C s h e l vn D M R j wr)) (fun i _ => n3 - (intOf i).toNat)
    case atStart => exact ⟨0, by omega, rfl, H6⟩
    case round =>
      obtain ⟨j, hj, rfl, HW⟩ := hrel
      by_cases hlt : j < n3
      · have hd : decide ((j : Int) < (n3 : Int)) = true := by simpa using hlt
        have hi1 : (j : Int) < (n3 : Int) := by omega
        have hjl : j < M.stays.length := by rw [← HN.out.1]; exact hlt
        obtain ⟨Y, nw, sa, sc, hY, hLk, hnw, hnv, hO, hbw, hb0⟩ := HW.out
        have hOM : Own wr b0 (parts B M ++ R) := hO.sub (List.sublist_append_right _ _)
        obtain ⟨g, hg0, hgl, hgc0⟩ := own_ptr hOM HN.out.2 hjl
        obtain ⟨o, ho⟩ : ∃ o, o = M.stays[j] := ⟨_, rfl⟩
        have hom : o ∈ M.stays := by rw [ho]; exact List.getElem_mem hjl
        have HCP := Lib.hid (stayCopy_any wr b0 _ o hO hb0 (fun p hp => own_in hOM hom hp) (HROW.out o hom).1 (HROW.out o hom).2)
        have hgc : wr.cell? ⟨g, j, none⟩ = some (.pointer (some ⟨o.b, 0, none⟩)) := by rw [ho]; exact hgc0
        have HJ := Lib.hid (And.intro hY (And.intro hLk (And.intro hnw (And.intro hnv (And.intro hbw (And.intro hb0 (And.intro ho (And.intro hom hlt))))))))
        rw [hg0]
        clear hY hLk hnw hnv hO hbw hb0 hOM hgl hg0 ho hom hgc0
        go_wp2_with fail
        refine HCP.out.mono ?_
        rintro e2 w2 ⟨y, rfl, hlike, hyb, hO2, hb2⟩
        have H2 := Lib.hid (show Own w2 b0 (parts C (cpM M s h e l vn D Y nw sa sc) ++ (stP y ++ (parts B M ++ R))) ∧ Kept (fun k => b0 ≤ k) w w2 ∧ b0 ≤ w2.heap.size ∧ Like o y from
          ⟨hO2.mid, HJ.out.2.2.2.2.1.trans (Kept.of_below hb2), Nat.le_trans HJ.out.2.2.2.2.2.1 hb2.size, hlike⟩)
        clear hO2 hb2 hyb hlike HCP hgc HW H6
        unfold ptrV
        go_upto_region 12 with (fail)
        go_cut [] (fun wx => ∃ sa' sc', Hid (Own wx b0 (parts C (cpM M s h e l vn D (Y ++ [y]) nw sa' sc') ++ (parts B M ++ R)) ∧ Kept (fun k => b0 ≤ k) w wx ∧ b0 ≤ wx.heap.size))
        case first =>
          --{
          have hown : w2.ownsRow 0 57 1 (.slice sa Y.length sc) Y.length (Y.map fun x => ptrV x.b) := own_ptrs H2.out.1
          rw [HJ.out.1] at hown
          have c3 : w2.cell? ⟨C, 3, none⟩ = some (.slice sa j sc) := by
            have hm : MAt w2 C (cpM M s h e l vn D Y nw sa sc).c := H2.out.1.ok (monPc C _) (List.mem_of_getElem? (i := 0) rfl)
            rw [cell_of_row _ _ 3 _ _ _ hm, ← HJ.out.1]
            rfl
          obtain ⟨i0, hi, hz0, hz1, hz2⟩ := info_parts info57
          have HO := Lib.hid (hown.alloc (.cells #[.pointer (some ⟨y.b, 0, none⟩)] 57))
          have HR1 := Lib.hid (reads_one w2 (.pointer (some ⟨y.b, 0, none⟩)) 57)
          have hj9 : j ≤ 10000 := by have := HPR.out.1; omega
          clear hown
          go_wp2_with (at_builtin; refine wpList_append_any _ rfl (.tmp 72) (.tmp 74) 48 rfl 0 57 i0 _ 1 8 Try.underlying48 hi hz0 hz1 hz2 rfl (by decide) _ j _ rfl HO.out _ _ 1 _ _ rfl HR1.out (by simp [Value.oneCell']) (by unfold maxLen; omega) (by omega) (by simp) ?_)
          intro v' wg ho hg hu
          obtain ⟨sa', sc', rfl⟩ := ownForm ho
          have hKg : Kept (fun k => (rowP (cpM M s h e l vn D Y nw sa sc)).blk = some k) w2 wg := ((Kept.refl _ _).alloc _).trans ((Kept.of_grown' hg).more fun k _ e => by
            obtain ⟨b, hb, rfl⟩ := e
            show (Value.slice sa Y.length sc).ownBlock = _
            rw [HJ.out.1]
            exact hb)
          have hsz : (w2.alloc (.cells #[.pointer (some ⟨y.b, 0, none⟩)] 57)).heap.size = w2.heap.size + 1 := by simp
          have hF := cp_more (sa' := sa') (sc' := sc') H2.out.1 H2.out.2.2.1 HJ.out.2.2.1 hKg (by rw [HJ.out.1]; exact ho) (fun b e => by
            rw [HJ.out.1] at e
            rcases hu with h | h
            · left
              show (Value.slice sa Y.length sc).ownBlock = _
              rw [HJ.out.1, ← h]
              exact e
            · rw [h] at e
              injection e with e
              right
              omega)
          rw [HJ.out.1] at hF
          have f3 : wg.frozen? ⟨C, 3, none⟩ = false := frozen_of_row _ _ _ _ _ hF.1
          have g3 : wg.cell? ⟨C, 3, none⟩ = some (.slice sa Y.length sc) := cell_of_row _ _ 3 _ _ _ hF.1
          have HF := Lib.hid (And.intro hF.2.1 (And.intro (H2.out.2.1.trans hF.2.2) (Nat.le_trans H2.out.2.2.1 hF.2.2.size)))
          clear hF hKg hsz ho hg hu HO HR1 c3
          go_wp2_with fail
          go_meet
          exact ⟨sa', sc', HF.out⟩
          --}
        case rest =>
        obtain ⟨sa2, sc2, hcut⟩ := hcut
        obtain ⟨w5, rfl⟩ : ∃ z, z = wc := ⟨_, rfl⟩
        have H3 := hcut
        clear hcut
        obtain ⟨B3, hB3⟩ : ∃ b, b = decide (get M.now o.s.proc = some j) := ⟨_, rfl⟩
        have HB3 := Lib.hid hB3
        clear hB3
        go_upto_region 13 with (fail)
        go_cut [88] (fun s88 wx => s88 = .bool B3 ∧ Hid (Below w5.heap.size w5 wx))
        case first =>
          have hOM : Own w5 b0 (parts B M ++ R) := H3.out.1.sub (List.sublist_append_right _ _)
          have c5 := mcell hOM 5 (v := .map (some M.c.nb)) rfl
          have s0 := scell (own_stay hOM HJ.out.2.2.2.2.2.2.2.1) 0 (v := .int .i64 o.s.proc) rfl
          have hlk : ∀ y : Bel w5, (Instr.lookup 52 (.map (some M.c.nb)) (.int .i64 o.s.proc) false).run Try.prog y.val = .ok (((get M.now o.s.proc).map (nthV M.stays)).getD (.pointer none)) y.val := fun y => now_look (hOM.below y.prop) _
          have heq : ∀ y : Bel w5, (Go.binOp .eql 57 (((get M.now o.s.proc).map (nthV M.stays)).getD (.pointer none)) (.pointer (some ⟨o.b, 0, none⟩))).run Try.prog y.val = .ok (.bool B3) y.val := fun y => by
            have h := now_eq (hOM.below y.prop) HN.out.2 (show j < M.stays.length from by rw [← HN.out.1]; exact HJ.out.2.2.2.2.2.2.2.2) o.s.proc
            rw [← HJ.out.2.2.2.2.2.2.1, ← HB3.out] at h
            exact h
          clear hOM
          have hV : ((get M.now o.s.proc).map (nthV M.stays)).getD (.pointer none) = .pointer none ∨ ∃ b, ((get M.now o.s.proc).map (nthV M.stays)).getD (.pointer none) = .pointer (some ⟨b, 0, none⟩) := by
            cases get M.now o.s.proc with
            | none => exact .inl rfl
            | some k => exact .inr ⟨_, rfl⟩
          generalize ((get M.now o.s.proc).map (nthV M.stays)).getD (.pointer none) = V at *
          generalize o.s.proc = op at *
          generalize o.b = ob at *
          rcases hV with rfl | ⟨vb, rfl⟩
          all_goals
            refine wp_region_bel (by kernel_rfl) (by kernel_rfl) ?_
            repeat (go_big_quiet_step ((fail)))
            refine wpQuiet_nil ?_
            intro wb hwb
            have HWB := Lib.hid (bel_out hwb)
            clear hwb c5 s0 hlk heq
            go_wp2_with fail
            go_meet
            exact ⟨rfl, HWB⟩
        case rest =>
        obtain ⟨rfl, HWB⟩ := hcut
        obtain ⟨w6, rfl⟩ : ∃ z, z = wc := ⟨_, rfl⟩
        have H6 := Lib.hid (show Own w6 b0 (parts C (cpM M s h e l vn D (Y ++ [y]) nw sa2 sc2) ++ (parts B M ++ R)) ∧ Kept (fun k => b0 ≤ k) w w6 ∧ b0 ≤ w6.heap.size from
          ⟨H3.out.1.below HWB.out, H3.out.2.1.trans (Kept.of_below HWB.out), Nat.le_trans H3.out.2.2 HWB.out.size⟩)
        clear HWB H3
        have HYN := Lib.hid (show (Y ++ [y]).length = j + 1 ∧ (∀ i (hi : i < M.stays.length) (hy : i < (Y ++ [y]).length), Like M.stays[i] (Y ++ [y])[i]) from by
          refine ⟨by simp [HJ.out.1], fun i hi hy => ?_⟩
          by_cases hij : i < Y.length
          · rw [List.getElem_append_left hij]
            exact HJ.out.2.1 i hi hij
          · have : i = Y.length := by simp at hy; omega
            subst this
            rw [List.getElem_append_right (by omega)]
            have h1 := HJ.out.2.2.2.2.2.2.1
            have h2 := H2.out.2.2.2
            simp only [Nat.sub_self, List.getElem_cons_zero]
            rw [h1] at h2
            have h3 := HJ.out.1
            subst h3
            exact h2)
        cases B3
        · have HE := Lib.hid (show CpS w B b0 C s h e l vn D M R (j + 1) w6 from by
            refine ⟨Y ++ [y], nw, sa2, sc2, HYN.out.1, HYN.out.2, fun p hp => ?_, fun p => ?_, H6.out⟩
            · have := HJ.out.2.2.1 p hp
              rw [HYN.out.1, ← HJ.out.1]
              omega
            · rw [HJ.out.2.2.2.1 p]
              cases hg : get M.now p with
              | none => rfl
              | some k =>
                have hne : k ≠ j := fun e => by
                  subst e
                  obtain ⟨hk, hpr⟩ := HPR.out.2 p k hg
                  have h1 := HB3.out
                  rw [HJ.out.2.2.2.2.2.2.1, hpr, hg] at h1
                  simp at h1
                have : (k < j) = (k < j + 1) := by
                  rw [eq_iff_iff]
                  omega
                simp only [this])
          have HLT := Lib.hid hlt
          have hj9 : (j : Int) < 20000 := by have := HPR.out.1; omega
          clear hlt hj
          go_wp2_with fail
          exact ⟨⟨j + 1, by have := HLT.out; omega, by go_num, HE⟩, by have := HLT.out; simp [intOf]; omega⟩
        · have hOM : Own w6 b0 (parts B M ++ R) := H6.out.1.sub (List.sublist_append_right _ _)
          have s0 := scell (own_stay hOM HJ.out.2.2.2.2.2.2.2.1) 0 (v := .int .i64 o.s.proc) rfl
          have c5 := mcell H6.out.1 5 (v := .map (some vn)) rfl
          have HLT := Lib.hid hlt
          have hj9 : (j : Int) < 20000 := by have := HPR.out.1; omega
          clear hOM hlt hj
          go_upto_region 14 with (fail)
          refine wp_region_bel_tail 7 (by kernel_rfl) (by kernel_rfl) ?_
          simp only [List.take_succ_cons, List.take_zero, List.drop_succ_cons, List.drop_zero]
          repeat (go_big_quiet_step ((fail)))
          refine wpQuiet_nil ?_
          intro wb hwb
          have hO7 := H6.out.1.below (bel_out hwb)
          have hb7 : b0 ≤ wb.heap.size := Nat.le_trans H6.out.2.2 (bel_out hwb).size
          obtain ⟨we, hrun, hg, hgr, hsz⟩ := (own_now hO7).update (P := Try.prog) Try.underlying52 intLaw o.s.proc (.pointer (some ⟨y.b, 0, none⟩))
          have hnth : nthV (Y ++ [y]) Y.length = .pointer (some ⟨y.b, 0, none⟩) := by
            unfold nthV ptrV
            simp
          rw [← hnth] at hg
          have h8 := cp_now (k := Y.length) hO7 hb7 hg hgr
          have HE := Lib.hid (show CpS w B b0 C s h e l vn D M R (j + 1) we from by
            refine ⟨Y ++ [y], put nw o.s.proc Y.length, sa2, sc2, HYN.out.1, HYN.out.2, fun p hp => ?_, fun p => ?_, h8.1, (H6.out.2.1.trans (Kept.of_below (bel_out hwb))).trans h8.2, Nat.le_trans hb7 h8.2.size⟩
            · rcases put_mem' hp with hp | rfl
              · have := HJ.out.2.2.1 p hp
                rw [HYN.out.1, ← HJ.out.1]
                omega
              · rw [HYN.out.1, HJ.out.1]
                exact Nat.lt_succ_self j
            · rw [get_put, HJ.out.2.2.2.1 p]
              by_cases hp : p = o.s.proc
              · rw [if_pos hp, hp, of_decide_eq_true HB3.out.symm, HJ.out.1]
                simp
              · rw [if_neg hp]
                cases hg : get M.now p with
                | none => rfl
                | some k =>
                  have hne : k ≠ j := fun e => by
                    subst e
                    obtain ⟨hk, hpr⟩ := HPR.out.2 p k hg
                    apply hp
                    rw [HJ.out.2.2.2.2.2.2.1, hpr]
                  have : (k < j) = (k < j + 1) := by
                    rw [eq_iff_iff]
                    omega
                  simp only [this])
          clear hwb c5 s0 hO7 hb7 hg hgr hsz hnth h8
          have hrun : (Instr.mapUpdate 52 (.map (some vn)) (.int .i64 o.s.proc) (.pointer (some ⟨y.b, 0, none⟩))).run Try.prog wb = .ok () we := hrun
          go_wp2_with fail
          exact ⟨⟨j + 1, by have := HLT.out; omega, by go_num, HE⟩, by have := HLT.out; simp [intOf]; omega⟩
      · have hd : decide ((j : Int) < (n3 : Int)) = false := by simpa using hlt
        obtain rfl : j = n3 := by omega
        go_wp2_with fail
        go_meet
        exact HW
  case rest =>
  have HE := Lib.hid (copy_res HD.out HN.out.2 HSZ.out (by rw [← HN.out.1]; exact hcut.out))
  clear hcut
  go_wp2_with fail
  go_ret
  exact ⟨C, rfl, HE.out⟩
end Go.Proofs.Ytogagkgkmoppmaa
