/-
  The copy of a monitor while its stays are copied, in plain.
  Conditions: those that each theorem names.
-/
import Derived.Test.YtogagkgkmoppmaaMonCD
namespace Go.Proofs.Ytogagkgkmoppmaa
set_option linter.unusedVariables false
set_option linter.unusedSimpArgs false
open Go.RowKit GM
/-- the copy with some stays copied -/
def cpM (M : MM) (s h e l vn : Nat) (D : List (PlaceK × SR)) (Y : List SX) (nw : List (Int × Nat)) (sa : Option Addr) (sc : Nat) : MM :=
  ⟨{ M.c with sb := s, hb := h, eb := e, lb := l, nb := vn, sa := sa, n := Y.length, sc := sc }, D, M.seen, M.mems, Y, M.live, nw⟩
theorem cp_start {wc : World} {b0 C s h e l : Nat} {M : MM} {D : List (PlaceK × SR)} {T : List Pc} {c1 : MC} (hc1 : c1 = { M.c with sb := s, hb := h, eb := e, lb := l })
    (hO : Own wc b0 (monPc C c1 :: mapPc placeV s (vals slV D) :: mapPc hadV h (vals (fun b : Bool => Value.bool b) M.seen) :: mapPc confV e (vals (fun n : Nat => Value.int .u64 (n : Int)) M.mems) :: mapPc intV l (vals (fun b : Bool => Value.bool b) M.live) :: ((D.map fun p => rowPc p.2).reverse ++ T))) (hb0 : b0 ≤ wc.heap.size) :
    Own (((wc.alloc (.map #[] 0)).setCell ⟨C, 5, none⟩ (.map (some wc.heap.size))).setCell ⟨C, 3, none⟩ (.slice none 0 0)) b0 (parts C (cpM M s h e l wc.heap.size D [] [] none 0) ++ T) ∧
      Kept (fun b => b = C) wc (((wc.alloc (.map #[] 0)).setCell ⟨C, 5, none⟩ (.map (some wc.heap.size))).setCell ⟨C, 3, none⟩ (.slice none 0 0)) := by
  have h1 := own_new (w' := wc.alloc (.map #[] 0)) (nowPc (cpM M s h e l wc.heap.size D [] [] none 0)) hO hb0 (ba (br wc) _) (GMap.made intV wc) (fun b e => by injection e with e; show wc.heap.size ≤ b; rw [← e]; exact Nat.le_refl _)
  have hC : MAt (wc.alloc (.map #[] 0)) C c1 := h1.ok (monPc C c1) (by simp)
  have k1 : Kept (fun b => b = C) (wc.alloc (.map #[] 0)) (((wc.alloc (.map #[] 0)).setCell ⟨C, 5, none⟩ (.map (some wc.heap.size))).setCell ⟨C, 3, none⟩ (.slice none 0 0)) := (keptS _ ⟨C, 5, none⟩ _).trans (keptS _ ⟨C, 3, none⟩ _)
  have h2 := own_at 1 (monPc C (cpM M s h e l wc.heap.size D [] [] none 0).c) h1 (Nat.le_trans hb0 (ba (br wc) _).size) (p := monPc C c1) rfl (k1.more fun k _ e => by rw [e]; rfl) (by
    have h3 := setCell_block (setCell_block hC 5 (.map (some wc.heap.size))) 3 (.slice none 0 0)
    show _ = _
    rw [h3, hc1]
    rfl) (fun b e => .inl e)
  have h4 := own_new (w' := ((wc.alloc (.map #[] 0)).setCell ⟨C, 5, none⟩ (.map (some wc.heap.size))).setCell ⟨C, 3, none⟩ (.slice none 0 0)) (rowP (cpM M s h e l wc.heap.size D [] [] none 0)) h2.1 (Nat.le_trans (Nat.le_trans hb0 (ba (br wc) _).size) k1.size) (br _) ⟨rfl, .inl ⟨rfl, rfl⟩⟩ (fun b e => by cases e)
  refine ⟨h4.perm ?_, (Kept.of_below (ba (br wc) _)).trans k1⟩
  obtain ⟨M0, hM0⟩ : ∃ M0, M0 = cpM M s h e l wc.heap.size D [] [] none 0 := ⟨_, rfl⟩
  show (([rowP (cpM M s h e l wc.heap.size D [] [] none 0), nowPc (cpM M s h e l wc.heap.size D [] [] none 0)] ++ [monPc C (cpM M s h e l wc.heap.size D [] [] none 0).c, sendsPc (cpM M s h e l wc.heap.size D [] [] none 0), seenPc (cpM M s h e l wc.heap.size D [] [] none 0), memsPc (cpM M s h e l wc.heap.size D [] [] none 0), livePc (cpM M s h e l wc.heap.size D [] [] none 0)]) ++ ((D.map fun p => rowPc p.2).reverse ++ T)).Perm
    (([monPc C (cpM M s h e l wc.heap.size D [] [] none 0).c, sendsPc (cpM M s h e l wc.heap.size D [] [] none 0), seenPc (cpM M s h e l wc.heap.size D [] [] none 0), memsPc (cpM M s h e l wc.heap.size D [] [] none 0), livePc (cpM M s h e l wc.heap.size D [] [] none 0)] ++ [nowPc (cpM M s h e l wc.heap.size D [] [] none 0), rowP (cpM M s h e l wc.heap.size D [] [] none 0)]) ++ ((D.map fun p => rowPc p.2) ++ T))
  rw [← hM0]
  exact List.Perm.append (List.perm_append_comm.trans (List.Perm.append_left _ (List.Perm.swap _ _ _))) (List.Perm.append_right _ (List.reverse_perm _))
theorem vals_nth (l : List SX) (s : SX) (L : List (Int × Nat)) (h : ∀ p ∈ L, p.2 < l.length) : vals (nthV l) L = vals (nthV (l ++ [s])) L := by
  unfold vals
  refine List.map_congr_left fun p hp => ?_
  have := h p hp
  unfold nthV
  congr 2
  rw [List.map_append, List.getD_eq_getElem?_getD, List.getD_eq_getElem?_getD, List.getElem?_append_left (by simpa using this)]
/-- one stay more -/
theorem cp_more {W w2 : World} {b0 C s h e l vn : Nat} {M : MM} {D : List (PlaceK × SR)} {Y : List SX} {nw : List (Int × Nat)} {sa sa' : Option Addr} {sc sc' : Nat} {T : List Pc} {y : SX}
    (hO : Own W b0 (parts C (cpM M s h e l vn D Y nw sa sc) ++ (stP y ++ T))) (hb0 : b0 ≤ W.heap.size) (hnw : ∀ p ∈ nw, p.2 < Y.length)
    (hk : Kept (fun k => (rowP (cpM M s h e l vn D Y nw sa sc)).blk = some k) W w2) (hrow : w2.ownsRow 0 57 1 (.slice sa' (Y.length + 1) sc') (Y.length + 1) ((Y.map fun x => ptrV x.b) ++ [ptrV y.b]))
    (hB : ∀ b, (Value.slice sa' (Y.length + 1) sc').ownBlock = some b → (rowP (cpM M s h e l vn D Y nw sa sc)).blk = some b ∨ W.heap.size ≤ b) :
    MAt w2 C (cpM M s h e l vn D Y nw sa sc).c ∧ Own (w2.setCell ⟨C, 3, none⟩ (.slice sa' (Y.length + 1) sc')) b0 (parts C (cpM M s h e l vn D (Y ++ [y]) nw sa' sc') ++ T) ∧ Kept (fun k => b0 ≤ k) W (w2.setCell ⟨C, 3, none⟩ (.slice sa' (Y.length + 1) sc')) := by
  have hl : (Y ++ [y]).length = Y.length + 1 := by simp
  have o1 := own_at 6 (rowP (cpM M s h e l vn D (Y ++ [y]) nw sa' sc')) hO hb0 (p := rowP (cpM M s h e l vn D Y nw sa sc)) rfl hk (by
    show w2.ownsRow 0 57 1 (.slice sa' (Y ++ [y]).length sc') (Y ++ [y]).length ((Y ++ [y]).map fun x => ptrV x.b)
    rw [hl, List.map_append]
    exact hrow) (fun b hb => hB b (by
    have hb : (Value.slice sa' (Y ++ [y]).length sc').ownBlock = some b := hb
    rwa [hl] at hb))
  have hC : MAt w2 C (cpM M s h e l vn D Y nw sa sc).c := o1.1.ok (monPc C _) (List.mem_of_getElem? (i := 0) rfl)
  have hks := keptS w2 ⟨C, 3, none⟩ (.slice sa' (Y.length + 1) sc')
  have o2 := own_at 0 (monPc C (cpM M s h e l vn D (Y ++ [y]) nw sa' sc').c) o1.1 (Nat.le_trans hb0 o1.2.size) (p := monPc C (cpM M s h e l vn D Y nw sa sc).c) rfl (hks.more fun k _ e => by rw [e]; rfl) (by
    have h3 := setCell_block hC 3 (.slice sa' (Y.length + 1) sc')
    show MAt _ C _
    unfold MAt
    rw [h3]
    show some (Obj.cells _ _ _) = some (Obj.cells (monC { M.c with sb := s, hb := h, eb := e, lb := l, nb := vn, sa := sa', n := (Y ++ [y]).length, sc := sc' }) _ _)
    rw [hl]
    rfl) (fun b e => .inl e)
  refine ⟨hC, o2.1.perm ?_, o1.2.trans o2.2⟩
  have hnow : nowPc (cpM M s h e l vn D Y nw sa sc) = nowPc (cpM M s h e l vn D (Y ++ [y]) nw sa' sc') := by
    show mapPc intV vn (vals (nthV Y) nw) = mapPc intV vn (vals (nthV (Y ++ [y])) nw)
    rw [vals_nth Y y nw hnw]
  show ([monPc C (cpM M s h e l vn D (Y ++ [y]) nw sa' sc').c, sendsPc (cpM M s h e l vn D Y nw sa sc), seenPc (cpM M s h e l vn D Y nw sa sc), memsPc (cpM M s h e l vn D Y nw sa sc), livePc (cpM M s h e l vn D Y nw sa sc), nowPc (cpM M s h e l vn D Y nw sa sc), rowP (cpM M s h e l vn D (Y ++ [y]) nw sa' sc')] ++ ((Y.flatMap stP ++ D.map fun p => rowPc p.2) ++ (stP y ++ T))).Perm
    ([monPc C (cpM M s h e l vn D (Y ++ [y]) nw sa' sc').c, sendsPc (cpM M s h e l vn D Y nw sa sc), seenPc (cpM M s h e l vn D Y nw sa sc), memsPc (cpM M s h e l vn D Y nw sa sc), livePc (cpM M s h e l vn D Y nw sa sc), nowPc (cpM M s h e l vn D (Y ++ [y]) nw sa' sc'), rowP (cpM M s h e l vn D (Y ++ [y]) nw sa' sc')] ++ (((Y ++ [y]).flatMap stP ++ D.map fun p => rowPc p.2) ++ T))
  rw [hnow]
  refine List.Perm.append_left _ ?_
  rw [List.flatMap_append, List.flatMap_cons, List.flatMap_nil, List.append_nil, List.append_assoc, List.append_assoc, List.append_assoc]
  refine List.Perm.append_left _ ?_
  exact List.perm_append_comm_assoc _ _ _
/-- the stay in which a process is -/
theorem cp_now {W w2 : World} {b0 C s h e l vn k : Nat} {M : MM} {D : List (PlaceK × SR)} {Y : List SX} {nw : List (Int × Nat)} {sa : Option Addr} {sc : Nat} {T : List Pc} {p : Int}
    (hO : Own W b0 (parts C (cpM M s h e l vn D Y nw sa sc) ++ T)) (hb0 : b0 ≤ W.heap.size) (hg : GMap intV w2 vn (put (vals (nthV Y) nw) p (nthV Y k))) (hgr : W.grownBy w2 (some vn)) :
    Own w2 b0 (parts C (cpM M s h e l vn D Y (put nw p k) sa sc) ++ T) ∧ Kept (fun k => b0 ≤ k) W w2 := by
  rw [put_vals (nthV Y)] at hg
  exact own_at 5 (nowPc (cpM M s h e l vn D Y (put nw p k) sa sc)) hO hb0 (p := nowPc (cpM M s h e l vn D Y nw sa sc)) rfl ((Kept.of_grown hgr).more (fun k _ e => by rw [e]; rfl)) hg (fun b e => .inl e)
end Go.Proofs.Ytogagkgkmoppmaa
