/-
  Rows of elements of some cells each, owned: one element set, the row cut.
  Conditions: those that each theorem names; no program is named.
-/
import Derived.Test.YtgjlcjbmcnofiaaDoorMaskM
import Derived.Deep.MidRow
import Derived.Laws.Tables
namespace Go.Proofs.YtgjlcjbmcnofiaaDoor
set_option linter.unusedVariables false
set_option linter.unusedSimpArgs false
open Go.RowKit
/-- the cells of some elements -/
def enL {α : Type} (en : α → Array Value) (l : List α) : List Value := l.flatMap fun x => (en x).toList
section
variable {α : Type} {en : α → Array Value} {K : Nat}
theorem enL_len (hK : ∀ x, (en x).size = K) : ∀ l : List α, (enL en l).length = l.length * K
  | [] => by simp [enL]
  | x :: l => by
    have := enL_len hK l
    unfold enL at this ⊢
    rw [List.flatMap_cons, List.length_append, this, List.length_cons, Array.length_toList, hK, Nat.succ_mul, Nat.add_comm]
theorem enL_cons (x : α) (l : List α) : enL en (x :: l) = (en x).toList ++ enL en l := rfl
theorem enL_append (a b : List α) : enL en (a ++ b) = enL en a ++ enL en b := by unfold enL; simp
theorem enL_one (h1 : ∀ x, ∀ v ∈ (en x).toList, v.oneCell' = true) (l : List α) : ∀ v ∈ enL en l, v.oneCell' = true := by
  intro v hv
  unfold enL at hv
  obtain ⟨x, _, hx⟩ := List.mem_flatMap.1 hv
  exact h1 x v hx
theorem enL_take (hK : ∀ x, (en x).size = K) : ∀ (l : List α) (n : Nat), enL en (l.take n) = (enL en l).take (n * K)
  | [], n => by simp [enL]
  | x :: l, 0 => by simp [enL]
  | x :: l, n + 1 => by
    have hx : (en x).toList.length = K := by rw [Array.length_toList, hK]
    rw [List.take_succ_cons, enL_cons, enL_cons, enL_take hK l n, List.take_append, hx, Nat.succ_mul, Nat.add_sub_cancel, List.take_of_length_le (l := (en x).toList) (by omega)]
theorem enL_drop (hK : ∀ x, (en x).size = K) : ∀ (l : List α) (n : Nat), enL en (l.drop n) = (enL en l).drop (n * K)
  | [], n => by simp [enL]
  | x :: l, 0 => by simp
  | x :: l, n + 1 => by
    have hx : (en x).toList.length = K := by rw [Array.length_toList, hK]
    rw [List.drop_succ_cons, enL_cons, enL_drop hK l n, List.drop_append, hx, Nat.succ_mul, Nat.add_sub_cancel, List.drop_of_length_le (l := (en x).toList) (by omega), List.nil_append]
theorem enL_at (hK : ∀ x, (en x).size = K) (l : List α) {j : Nat} (hj : j < l.length) {i : Nat} {u : Value} (h : (en l[j]).toList[i]? = some u) : (enL en l)[j * K + i]? = some u := by
  have h1 : ((enL en l).drop (j * K))[i]? = (enL en l)[j * K + i]? := by rw [List.getElem?_drop]
  rw [← h1, ← enL_drop hK, List.drop_eq_getElem_cons hj, enL_cons]
  have hi : i < (en l[j]).toList.length := (List.getElem?_eq_some_iff.1 h).1
  rw [List.getElem?_append_left hi]
  exact h
theorem setCells_at {g : Nat} {t : TypeId} : ∀ (vs : List Value) (o : Nat) (w : World) (cs : Array Value), w.heap[g]? = some (.cells cs t (0, 0)) → o + vs.length ≤ cs.size →
    (w.setCells g o vs).heap[g]? = some (.cells (cs.toList.take o ++ vs ++ cs.toList.drop (o + vs.length)).toArray t (0, 0))
  | [], o, w, cs, h, ho => by simpa [World.setCells] using h
  | v :: r, o, w, cs, h, ho => by
    simp only [List.length_cons] at ho
    have := setCells_at r (o + 1) (w.setCell ⟨g, o, none⟩ v) _ (setCell_block h o v) (by simp; omega)
    rw [World.setCells, this]
    congr 3
    have hlt : o < cs.toList.length := by simp; omega
    rw [Array.toList_setIfInBounds, List.take_succ_eq_append_getElem (by simp; omega)]
    simp only [List.getElem_set_self, List.take_set_of_le (Nat.le_refl o), List.append_assoc, List.cons_append, List.nil_append, List.length_cons]
    rw [List.drop_set_of_lt (by omega)]
    congr 4
    omega
theorem kept_setCells {g : Nat} : ∀ (vs : List Value) (o : Nat) (w : World), Kept (fun b => b = g) w (w.setCells g o vs)
  | [], o, w => Kept.refl _ _
  | v :: r, o, w => ((Kept.refl (fun b => b = g) w).setCell (p := ⟨g, o, none⟩) rfl v).trans (kept_setCells r (o + 1) _)
theorem kept_setRowT (w : World) (M : Nat) (cs : Array Value) : Kept (fun b => b = M) w (w.setRow M cs) := ⟨rfl, rfl, rfl, by rw [size_setRow]; exact Nat.le_refl _, fun i _ hs => setRow_other _ _ _ _ hs⟩
section
variable {w : World} {base n cap g : Nat} {e : TypeId} {zs : List α}
/-- the block of an owned row that is not empty -/
theorem own_open (h : w.ownsRow base e K (.slice (some ⟨g, 0, none⟩) n cap) n (enL en zs)) : ∃ cur, base ≤ g ∧ w.heap[g]? = some (.cells cur e (0, 0)) ∧ n ≤ cap ∧ cap ≤ maxLen ∧ cur.size = cap * K ∧ cur.toList.take (n * K) = enL en zs := by
  rcases h.2 with ⟨h1, _⟩ | ⟨g', cap', cur, h1, h2, h3, h4, h5, h6, h7⟩
  · cases h1
  · injection h1 with h1 _ h8
    injection h1 with h1
    injection h1 with h1
    subst h1; subst h8
    exact ⟨cur, h2, h3, h4, h5, h6, h7⟩
theorem own_at' (hK : ∀ x, (en x).size = K) (h : w.ownsRow base e K (.slice (some ⟨g, 0, none⟩) n cap) n (enL en zs)) {j : Nat} (hj : j < zs.length) : w.rangeAt g (j * K) (en zs[j]).toList := by
  obtain ⟨cur, _, hb, _, _, _, ht⟩ := own_open h
  intro i u hu
  have h1 := enL_at hK zs hj hu
  rw [cell_of_row _ _ _ _ _ _ hb]
  rw [← ht, List.getElem?_take] at h1
  split at h1
  · simpa using h1
  · cases h1
theorem own_there (h : w.ownsRow base e K (.slice (some ⟨g, 0, none⟩) n cap) n (enL en zs)) {o m : Nat} (hm : o + m ≤ cap * K) : w.there g o m := by
  obtain ⟨cur, _, hb, _, _, hs, _⟩ := own_open h
  intro j hj
  refine ⟨?_, frozen_of_row _ _ _ _ _ hb⟩
  rw [cell_of_row _ _ _ _ _ _ hb]
  simp
  omega
/-- an element set -/
theorem own_set' (hK : ∀ x, (en x).size = K) (h : w.ownsRow base e K (.slice (some ⟨g, 0, none⟩) n cap) n (enL en zs)) (hn : zs.length = n) {i : Nat} (hi : i < n) (x : α) :
    (w.setCells g (i * K) (en x).toList).ownsRow base e K (.slice (some ⟨g, 0, none⟩) n cap) n (enL en (zs.set i x)) := by
  obtain ⟨cur, hB, hb, hc, hm, hs, ht⟩ := own_open h
  have hl : i * K + (en x).toList.length ≤ cur.size := by
    rw [Array.length_toList, hK, hs, ← Nat.succ_mul]
    exact Nat.mul_le_mul_right K (by omega)
  have hiK : i * K + K ≤ n * K := by rw [← Nat.succ_mul]; exact Nat.mul_le_mul_right K (by omega)
  refine ⟨by rw [enL_len hK, List.length_set, hn], .inr ⟨g, cap, _, rfl, hB, setCells_at _ _ _ _ hb hl, hc, hm, ?_, ?_⟩⟩
  · simp only [List.length_append, List.length_take, List.length_drop, List.size_toArray, Array.length_toList, hK]
    rw [Array.length_toList, hK] at hl
    omega
  · have hset : zs.set i x = zs.take i ++ x :: zs.drop (i + 1) := List.set_eq_take_append_cons_drop ▸ (by rw [if_pos (by omega)])
    rw [hset, enL_append, enL_cons, enL_take hK, enL_drop hK, ← ht]
    rw [Array.length_toList, hK] at *
    have e1 : (List.take (i * K) (cur.toList.take (n * K))) = cur.toList.take (i * K) := by rw [List.take_take, Nat.min_eq_left (by omega)]
    have e2 : (List.drop ((i + 1) * K) (cur.toList.take (n * K))) = (cur.toList.drop (i * K + K)).take (n * K - (i * K + K)) := by rw [List.drop_take, Nat.succ_mul]
    rw [e1, e2]
    have l1 : (cur.toList.take (i * K)).length = i * K := by rw [List.length_take, Array.length_toList]; omega
    rw [List.take_append, List.take_append, List.length_append, l1, Array.length_toList, hK, List.take_of_length_le (l := cur.toList.take (i * K)) (by omega), List.take_of_length_le (l := (en x).toList) (by rw [Array.length_toList, hK]; omega), List.append_assoc]
/-- the row cut, whatever is laid behind -/
theorem own_cut (hK : ∀ x, (en x).size = K) (h : w.ownsRow base e K (.slice (some ⟨g, 0, none⟩) n cap) n (enL en zs)) (hn : zs.length = n) {i : Nat} (hi : i ≤ n) (vs : List Value) (hv : i * K + vs.length ≤ cap * K) :
    (w.setCells g (i * K) vs).ownsRow base e K (.slice (some ⟨g, 0, none⟩) i cap) i (enL en (zs.take i)) := by
  obtain ⟨cur, hB, hb, hc, hm, hs, ht⟩ := own_open h
  have hiK : i * K ≤ n * K := Nat.mul_le_mul_right K hi
  refine ⟨by rw [enL_len hK, List.length_take, hn, Nat.min_eq_left hi], .inr ⟨g, cap, _, rfl, hB, setCells_at _ _ _ _ hb (by omega), by omega, hm, ?_, ?_⟩⟩
  · simp only [List.length_append, List.length_take, List.length_drop, List.size_toArray, Array.length_toList]
    omega
  · have l1 : (cur.toList.take (i * K)).length = i * K := by rw [List.length_take, Array.length_toList]; omega
    rw [enL_take hK, ← ht, List.take_take, Nat.min_eq_left hiK]
    rw [List.append_assoc, List.take_append, l1, Nat.sub_self, List.take_zero, List.append_nil, List.take_of_length_le (by omega)]
end
end
/-- 'clear(s)', s of structs -/
theorem run_clear_row {P : Program} (w : World) (t e ty : TypeId) (z : Value) (cs : Array Value) (ht : P.underlying t = some (.slice e)) (hv : ∀ w, (zeroValue e).run P w = .ok z w) (hz : z.cells = cs) (h1 : ∀ v ∈ cs.toList, v.oneCell' = true) (hcs : 0 < cs.size) (b o n c : Nat) (hn : 0 < n)
    (hth : w.there b o (n * cs.size)) :
    (Builtin.clear_ #[t] ty #[.slice (some ⟨b, o, none⟩) n c]).run P w = .ok (.tuple #[]) (w.setCells b o (Builtin.zeroCells cs n).toList) := by
  have hlen : (Builtin.zeroCells cs n).toList.length = n * cs.size := by simp [Builtin.zeroCells]
  have hst := run_storeCells_cells (P := P) b o (Builtin.zeroCells cs n).toList 0 w (fun j hj => by
      have := (hth j (by omega)).1
      simpa using this) (fun j hj => by
      have := (hth j (by omega)).2
      simpa using this) (by
      intro v hv'
      have hv' : v ∈ Builtin.zeroCells cs n := by simpa using hv'
      unfold Builtin.zeroCells at hv'
      simp only [Array.mem_map, Array.mem_range] at hv'
      obtain ⟨i, hi, rfl⟩ := hv'
      have : i % cs.size < cs.size := Nat.mod_lt _ hcs
      rw [getElem!_pos cs _ this]
      exact h1 _ (by simp))
  simp only [Nat.add_zero] at hst
  obtain ⟨m, rfl⟩ : ∃ m, n = m + 1 := ⟨n - 1, by omega⟩
  simp [Builtin.clear_, run_underlying ht, hv, hz, hst]
theorem zeroCells_len (cs : Array Value) (n : Nat) : (Builtin.zeroCells cs n).toList.length = n * cs.size := by simp [Builtin.zeroCells]
theorem wpList_buildT {P : Program} {ops : Array Oper} {rest : List Oper} {o : Oper} {a : Act} {w : World} {Q : Exit → Act → World → Prop} (hg : o.guard = none) (t : TypeId) (parts : Array (Nat × Operand)) (ho : o.op = .build t parts)
    (cells : Array Value) (hc : P.built t (parts.map fun (i, x) => (i, a.eval x)).toList = some cells)
    (h : wpList P ops Q rest (a.put o.dst (.agg cells)) w) : wpList P ops Q (o :: rest) a w :=
  wpList_plain hg fun _ hK => by
    unfold Oper.wp execOp
    simp only [ho, Sem.run_bind, run_build w t _ cells hc, Result.andThen_ok]
    exact hK _ _ h
end Go.Proofs.YtgjlcjbmcnofiaaDoor
