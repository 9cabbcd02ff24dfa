/-
  Rows of messages, read and owned.
  Conditions: none.
-/
import Derived.Test.YtgjlcjbmcnofiaaDoorWords
import Derived.Test.YtgjlcjbmcnofiaaDoorMsgA
import Derived.Test.YtgjlcjbmcnofiaaDoorMsgB
import Derived.Test.YtgjlcjbmcnofiaaDoorMaskM
import Derived.Deep.AppendLies
import Derived.Deep.Upon
namespace Go.Proofs.YtgjlcjbmcnofiaaDoor
set_option linter.unusedVariables false
set_option linter.unusedSimpArgs false
open Go.RowKit
theorem Kept.of_grown' {w w' : World} {row : Option Nat} (h : w.grownBy w' row) : Kept (fun k => ∃ b, row = some b ∧ k = b) w w' := ⟨h.os, h.tape, h.output, h.size, fun i hi hs => h.block i hi (fun e => hs ⟨i, e.symm, rfl⟩)⟩
theorem new_cells (w : World) (l : List Value) (t : TypeId) (j : Nat) (u : Value) (h : l[j]? = some u) : (w.alloc (.cells l.toArray t)).cell? ((⟨w.heap.size, 0, none⟩ : Addr).add j) = some u := by
  have ha : (⟨w.heap.size, 0, none⟩ : Addr).add j = ⟨w.heap.size, j, none⟩ := by unfold Addr.add; split <;> simp_all
  rw [ha, cell_of_row _ _ j l.toArray t (0, 0) (heap_alloc_new w _)]
  simpa using h
def zeroM : Msg := ⟨0, 0, 0, 0, [], ⟨#[]⟩, none, 0⟩
def rowsM (O : List Msg) : List Value := O.flatMap fun m => (msgA m).toList
theorem rowsM_snoc (O : List Msg) (m : Msg) : rowsM (O ++ [m]) = rowsM O ++ (msgA m).toList := by unfold rowsM; simp
theorem msgA_one (m : Msg) : ∀ u ∈ (msgA m).toList, u.oneCell' = true := by
  intro u hu
  simp [msgA] at hu
  rcases hu with rfl | rfl | rfl | rfl | rfl | rfl <;> rfl
theorem info42 : (Tryd.prog.info? 42).map (fun i => (i.zero, i.size, i.bytes)) = some (some (.agg (msgA zeroM)), 6, 72) := by kernel_rfl
theorem own_keptS {S : Nat → Prop} {w w' : World} {base : Nat} {e : TypeId} {size : Nat} {v : Value} {n : Nat} {xs : List Value} (h : w.ownsRow base e size v n xs) (hk : Kept S w w') (hs : ∀ b, v.ownBlock = some b → ¬ S b) : w'.ownsRow base e size v n xs := by
  refine ⟨h.1, ?_⟩
  rcases h.2 with hn | ⟨g, cap, cur, rfl, hb, hgg, rest⟩
  · exact .inl hn
  · exact .inr ⟨g, cap, cur, rfl, hb, hk.keep hgg (hs g rfl), rest⟩
theorem rowsM_append (A B : List Msg) : rowsM (A ++ B) = rowsM A ++ rowsM B := by unfold rowsM; simp
section
variable {w w' : World} {B : Nat}
theorem grown_below {n : Nat} {w0 : World} {row : Option Nat} (hb : Below n w0 w) (hn : n ≤ w.heap.size) (hg : w.grownBy w' row) (hr : ∀ b, row = some b → n ≤ b) : Below n w0 w' :=
  (Kept.of_grown' hg).out hb hn (by rintro k hk ⟨b, hb, e⟩; have := hr b hb; omega)
theorem reads_new (w : World) (m : Msg) : Reads (w.alloc (.cells (msgA m).toList.toArray 42)) (w.heap.size + 1) 6 (some ⟨w.heap.size, 0, none⟩) 1 (msgA m).toList :=
  ⟨rfl, fun _ => ⟨_, rfl, by show w.heap.size < _; omega, fun j u hu => new_cells w (msgA m).toList 42 j u hu⟩⟩
theorem rowsM_one (A : List Msg) : ∀ u ∈ rowsM A, u.oneCell' = true := by
  intro u hu
  unfold rowsM at hu
  obtain ⟨m, _, hm⟩ := List.mem_flatMap.1 hu
  exact msgA_one m u hm
theorem rowsM_at : ∀ (A : List Msg) (j : Nat) (hj : j < A.length) (i : Nat) (u : Value), (msgA A[j]).toList[i]? = some u → (rowsM A)[j * 6 + i]? = some u
  | [], j, hj, _, _, _ => absurd hj (by simp)
  | m :: A, 0, _, i, u, h => by
    have hi : i < 6 := (List.getElem?_eq_some_iff.1 h).1
    have e : rowsM (m :: A) = (msgA m).toList ++ rowsM A := rfl
    rw [e, show 0 * 6 + i = i from by omega, List.getElem?_append_left (by exact hi)]
    exact h
  | m :: A, j + 1, hj, i, u, h => by
    have e : rowsM (m :: A) = (msgA m).toList ++ rowsM A := rfl
    have hl : (msgA m).toList.length = 6 := rfl
    rw [e, List.getElem?_append_right (by omega), hl, show (j + 1) * 6 + i - 6 = j * 6 + i from by omega]
    exact rowsM_at A j (by simpa using hj) i u (by simpa using h)
theorem own_msg {A : List Msg} {ad : Option Addr} {cap : Nat} (ho : w.ownsRow B 42 6 (.slice ad A.length cap) A.length (rowsM A)) {j : Nat} (hj : j < A.length) : ∃ g, ad = some ⟨g, 0, none⟩ ∧ g < w.heap.size ∧ w.rangeAt g (j * 6) (msgA A[j]).toList := by
  obtain ⟨g, cap', hv, hg0, hg1⟩ := ho.form (by omega)
  injection hv with h1 h2 h3
  subst h1
  refine ⟨g, rfl, hg1, fun i u hu => ?_⟩
  have := ho.cells (g := g) rfl (j * 6 + i) u (rowsM_at A j hj i u hu)
  rw [← this]
  congr 1
  unfold Addr.add
  split <;> simp_all
end
theorem wpQuiet_load_want {P : Program} {ops : Array Oper} {C : World → Prop} {Q : Act → Prop} {rest : List Oper} {o : Oper} {a : Act} (hw : Region.wanted o (yielded ops a.tmps) = true) (ty : TypeId) (x : Operand) (ho : o.op = .load ty x)
    (b off : Nat) (hx : a.eval x = .pointer (some ⟨b, off, none⟩)) (cs : List Value) (d : TypeDesc) (hc : ∀ w, C w → w.rangeAt b off cs)
    (hu : P.underlying ty = some d) (hd : d.isRow = true) (hi : (P.info? ty).map (·.size) = some cs.length) (h : wpQuiet P ops C Q rest (a.put o.dst (.agg cs.toArray))) : wpQuiet P ops C Q (o :: rest) a := by
  show (if Region.wanted o (yielded ops a.tmps) = true then _ else _)
  rw [if_pos hw]
  refine ⟨_, fun w hC => ?_, h⟩
  unfold Oper.quietAt execOp
  simp only [ho, hx, Instr.loadAt, Instr.sureAddr, Sem.run_bind, Sem.run_pure, Result.andThen_ok, run_loadVar_mid w b off ty cs d (hc w hC) hu hd hi]
  exact ⟨rfl, rfl⟩
/-- a slice of messages, read alone -/
def RowsAt (w : World) (v : Value) (J : List Msg) : Prop := ∃ ad cap, v = .slice ad J.length cap ∧ J.length ≤ cap ∧ cap ≤ 9223372036854775807 ∧ Reads w w.heap.size 6 ad J.length (rowsM J)
theorem RowsAt.below {w w' : World} {v : Value} {J : List Msg} (h : RowsAt w v J) (hb : Below w.heap.size w w') : RowsAt w' v J := by
  obtain ⟨ad, cap, e, h1, h2, h3⟩ := h
  exact ⟨ad, cap, e, h1, h2, (h3.below hb).more hb.size⟩
theorem RowsAt.nil (w : World) : RowsAt w (.slice none 0 0) [] := ⟨none, 0, rfl, by simp, by omega, Reads.none_⟩
theorem RowsAt.of_own {w : World} {base : Nat} {v : Value} {J : List Msg} (h : w.ownsRow base 42 6 v J.length (rowsM J)) : RowsAt w v J := by
  rcases h.2 with ⟨rfl, h0⟩ | ⟨g, cap, cur, rfl, _, _, h1, h2, _⟩
  · have : J = [] := List.eq_nil_of_length_eq_zero h0
    subst this
    exact RowsAt.nil w
  · exact ⟨_, cap, rfl, h1, by unfold maxLen at h2; exact h2, Reads.of_own h⟩
theorem RowsAt.msg {w : World} {v : Value} {J : List Msg} (h : RowsAt w v J) {j : Nat} (hj : j < J.length) : ∃ cap g o, v = .slice (some ⟨g, o, none⟩) J.length cap ∧ g < w.heap.size ∧ w.rangeAt g (o + j * 6) (msgA J[j]).toList := by
  obtain ⟨ad, cap, rfl, _, _, hr⟩ := h
  obtain ⟨⟨g, o, sp⟩, rfl, hb, hc⟩ := hr.2 (by omega)
  have h0 := hc 0 _ (rowsM_at J 0 (by omega) 0 _ rfl)
  have hsp : sp = none := by
    have := World.cell?_spot h0
    simpa [Addr.add] using this
  subst hsp
  refine ⟨cap, g, o, rfl, hb, fun i u hu => ?_⟩
  have := hc (j * 6 + i) u (rowsM_at J j hj i u hu)
  rw [← this]
  congr 1
  unfold Addr.add
  split <;> simp_all <;> omega
theorem rowsM_len (A : List Msg) : (rowsM A).length = A.length * 6 := by
  unfold rowsM
  induction A with
  | nil => rfl
  | cons m A ih => rw [List.flatMap_cons, List.length_append, ih, List.length_cons, show (msgA m).toList.length = 6 from rfl]; omega
theorem rowsM_get {l : List Msg} {k : Nat} {u : Value} (h : (rowsM l)[k]? = some u) : ∃ (i : Nat) (hi : i < l.length) (j : Nat), k = i * 6 + j ∧ (msgA l[i]).toList[j]? = some u := by
  have hk : k < (rowsM l).length := (List.getElem?_eq_some_iff.1 h).1
  rw [rowsM_len] at hk
  have hi : k / 6 < l.length := by omega
  refine ⟨k / 6, hi, k % 6, by omega, ?_⟩
  have hj : k % 6 < (msgA l[k / 6]).toList.length := by show k % 6 < 6; omega
  have := rowsM_at l (k / 6) hi (k % 6) _ (List.getElem?_eq_getElem hj)
  rw [show k / 6 * 6 + k % 6 = k by omega, h] at this
  rw [List.getElem?_eq_getElem hj, ← this]
/-- a slice of messages that is read alone, whatever its capacity -/
def RowsIn (w : World) (v : Value) (l : List Msg) : Prop := ∃ ad cap, v = .slice ad l.length cap ∧ Reads w w.heap.size 6 ad l.length (rowsM l)
theorem RowsAt.rowsIn {w : World} {v : Value} {l : List Msg} (h : RowsAt w v l) : RowsIn w v l := by
  obtain ⟨ad, cap, e, _, _, h3⟩ := h
  exact ⟨ad, cap, e, h3⟩
theorem RowsIn.below {w w' : World} {v : Value} {J : List Msg} (h : RowsIn w v J) (hb : Below w.heap.size w w') : RowsIn w' v J := by
  obtain ⟨ad, cap, e, h3⟩ := h
  exact ⟨ad, cap, e, (h3.below hb).more hb.size⟩
theorem own_slice {w : World} {base : Nat} {e : TypeId} {size : Nat} {v : Value} {n : Nat} {xs : List Value} (h : w.ownsRow base e size v n xs) : ∃ ad cap, v = .slice ad n cap := by
  rcases h.2 with ⟨rfl, rfl⟩ | ⟨g, cap, cur, rfl, _⟩
  · exact ⟨_, _, rfl⟩
  · exact ⟨_, _, rfl⟩
theorem Reads.rowAt {w : World} {B s n : Nat} {ad : Option Addr} {xs : List Value} (h : Reads w B s ad n xs) {k : Nat} (hk : k < n) (hs : 0 < s) : ∃ g o, ad = some ⟨g, o, none⟩ ∧ g < B ∧ ∀ i u, xs[k * s + i]? = some u → w.cell? ⟨g, o + (k * s + i), none⟩ = some u := by
  obtain ⟨⟨g, o, sp⟩, rfl, hb, hc⟩ := h.2 (by omega)
  have hl : 0 < xs.length := by rw [h.1]; exact Nat.mul_pos (by omega) hs
  have h0 := hc 0 xs[0] (List.getElem?_eq_getElem hl)
  have hsp : sp = none := by
    have := World.cell?_spot h0
    simpa [Addr.add] using this
  subst hsp
  refine ⟨g, o, rfl, hb, fun i u hu => ?_⟩
  have := hc _ u hu
  rw [← this]
  congr 1
  unfold Addr.add
  split <;> simp_all
theorem measI {n k : Nat} (h : k < n) : n - (intOf (.int .i64 ((k : Int) + 1))).toNat < n - (intOf (.int .i64 (k : Int))).toNat := by
  show n - ((k : Int) + 1).toNat < n - (k : Int).toNat
  omega
theorem measL {k c : Nat} (h : c < k) : (intOf (.int .i64 (c : Int))).toNat < (intOf (.int .i64 (k : Int))).toNat := by
  simp [intOf]; omega
theorem reads_take {w : World} {B : Nat} {ad : Option Addr} {J : List Msg} {t : Nat} (h : Reads w B 6 ad J.length (rowsM J)) (ht : t ≤ J.length) : Reads w B 6 ad t (rowsM (J.take t)) :=
  ⟨by rw [rowsM_len, List.length_take]; omega, fun hn => by
    obtain ⟨a, e, hb, hc⟩ := h.2 (by omega)
    refine ⟨a, e, hb, fun j u hu => hc j u ?_⟩
    have e : rowsM J = rowsM (J.take t) ++ rowsM (J.drop t) := by rw [← rowsM_append, List.take_append_drop]
    rw [e, List.getElem?_append_left (List.getElem?_eq_some_iff.1 hu).1]
    exact hu⟩
theorem reads_drop {w : World} {B : Nat} {ad : Option Addr} {J : List Msg} {t cap : Nat} (h : Reads w B 6 ad J.length (rowsM J)) (ht : t ≤ J.length) (hc : J.length ≤ cap) : Reads w B 6 (if cap = t then ad else ad.map (·.add (t * 6))) (J.length - t) (rowsM (J.drop t)) := by
  have := h.cut ht hc
  have e : rowsM J = rowsM (J.take t) ++ rowsM (J.drop t) := by rw [← rowsM_append, List.take_append_drop]
  rw [e, List.drop_left' (by rw [rowsM_len, List.length_take]; omega)] at this
  exact this
theorem ownFar {w : World} {base : Nat} {e : TypeId} {size n : Nat} {v : Value} {xs : List Value} (h : w.ownsRow base e size v n xs) : ∀ p m c, v = .slice (some p) m c → base ≤ p.block ∧ p.block < w.heap.size := by
  intro p m c e
  rcases h.2 with ⟨e2, _⟩ | ⟨g, _, _, e2, hg0, hg1, _⟩
  · rw [e2] at e
    cases e
  · rw [e2] at e
    injection e with e
    injection e with e
    subst e
    exact ⟨hg0, (Array.getElem?_eq_some_iff.1 hg1).1⟩
end Go.Proofs.YtgjlcjbmcnofiaaDoor
