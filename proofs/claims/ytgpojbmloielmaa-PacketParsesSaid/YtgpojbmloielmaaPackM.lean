/-
  Rows of exchanges, read and owned; a packet in memory of its own.
  Conditions: none.
-/
import Derived.Test.YtgpojbmloielmaaPackL
import Derived.Test.YtgpojbmloielmaaWords
import Derived.Deep.AppendLies
import Derived.Deep.Upon
import Derived.Deep.RegionHeld3
namespace Go.Proofs.Ytgpojbmloielmaa
set_option linter.unusedVariables false
set_option linter.unusedSimpArgs false
open Go.RowKit
def numsM (L : List Nat) : List Value := L.map fun q : Nat => .int .u32 (q : Int)
theorem numsM_one (L : List Nat) : ∀ u ∈ numsM L, u.oneCell' = true := by
  intro u hu
  unfold numsM at hu
  obtain ⟨q, _, rfl⟩ := List.mem_map.1 hu
  rfl
theorem numsM_len (L : List Nat) : (numsM L).length = L.length := by simp [numsM]
theorem info29 : (Try.prog.info? 29).map (fun i => (i.zero, i.size, i.bytes)) = some (some (.int .u32 0), 1, 4) := by kernel_rfl
def zeroX : Exch := ⟨0, 0, 0, [], 0, 0, none, 0⟩
def exsM (O : List Exch) : List Value := O.flatMap fun x => (exA x).toList
theorem info51 : (Try.prog.info? 51).map (fun i => (i.zero, i.size, i.bytes)) = some (some (.agg (exA zeroX)), 6, 64) := by kernel_rfl
theorem exA_one (x : Exch) : ∀ u ∈ (exA x).toList, u.oneCell' = true := by
  intro u hu
  simp [exA] at hu
  rcases hu with rfl | rfl | rfl | rfl | rfl | rfl <;> rfl
theorem exsM_one (A : List Exch) : ∀ u ∈ exsM A, u.oneCell' = true := by
  intro u hu
  unfold exsM at hu
  obtain ⟨m, _, hm⟩ := List.mem_flatMap.1 hu
  exact exA_one m u hm
theorem exsM_len (A : List Exch) : (exsM A).length = A.length * 6 := by
  unfold exsM
  induction A with
  | nil => rfl
  | cons x l ih =>
    have : (exA x).toList.length = 6 := rfl
    simp only [List.flatMap_cons, List.length_append, List.length_cons, ih, this]
    omega
theorem exsM_snoc (O : List Exch) (x : Exch) : exsM (O ++ [x]) = exsM O ++ (exA x).toList := by unfold exsM; simp
theorem exsM_at : ∀ (A : List Exch) (j : Nat) (hj : j < A.length) (i : Nat) (u : Value), (exA A[j]).toList[i]? = some u → (exsM A)[j * 6 + i]? = some u
  | [], j, hj, _, _, _ => absurd hj (by simp)
  | m :: A, 0, _, i, u, h => by
    have hi : i < 6 := (List.getElem?_eq_some_iff.1 h).1
    have e : exsM (m :: A) = (exA m).toList ++ exsM A := rfl
    rw [e, show 0 * 6 + i = i from by omega, List.getElem?_append_left (by exact hi)]
    exact h
  | m :: A, j + 1, hj, i, u, h => by
    have e : exsM (m :: A) = (exA m).toList ++ exsM A := rfl
    have hl : (exA m).toList.length = 6 := rfl
    rw [e, List.getElem?_append_right (by omega), hl, show (j + 1) * 6 + i - 6 = j * 6 + i from by omega]
    exact exsM_at A j (by simpa using hj) i u (by simpa using h)
theorem exsM_from {A : List Exch} {j : Nat} {u : Value} (h : (exsM A)[j]? = some u) : ∃ hj : j / 6 < A.length, (exA A[j / 6]).toList[j % 6]? = some u := by
  have hl : j < A.length * 6 := by rw [← exsM_len]; exact (List.getElem?_eq_some_iff.1 h).1
  have hj : j / 6 < A.length := by omega
  refine ⟨hj, ?_⟩
  have h6 : j % 6 < (exA A[j / 6]).toList.length := by show _ < 6; omega
  have := exsM_at A (j / 6) hj (j % 6) _ (List.getElem?_eq_getElem h6)
  rw [show j / 6 * 6 + j % 6 = j from by omega, h] at this
  rw [List.getElem?_eq_getElem h6, this]
theorem exsM_set : ∀ (A : List Exch) (k : Nat) (hk : k < A.length) (ca : Option Addr) (cc : Nat), (exsM A).set (k * 6 + 3) (.slice ca A[k].cs.length cc) = exsM (A.set k { A[k] with ca := ca, cc := cc })
  | [], k, hk, _, _ => absurd hk (by simp)
  | m :: A, 0, _, ca, cc => by
    have e : exsM (m :: A) = (exA m).toList ++ exsM A := rfl
    rw [e, List.set_append_left _ _ (by show _ < 6; omega)]
    rfl
  | m :: A, k + 1, hk, ca, cc => by
    have e : exsM (m :: A) = (exA m).toList ++ exsM A := rfl
    have hl : (exA m).toList.length = 6 := rfl
    rw [e, List.set_append_right _ _ (by omega), hl, show (k + 1) * 6 + 3 - 6 = k * 6 + 3 from by omega]
    have := exsM_set A k (by simpa using hk) ca cc
    simp only [List.getElem_cons_succ, List.set_cons_succ]
    rw [this]
    rfl
theorem add_at (b o j : Nat) : (⟨b, o, none⟩ : Addr).add j = ⟨b, o + j, none⟩ := by unfold Addr.add; split <;> simp_all
theorem NumsOk.reads {w : World} {da : Option Addr} {ds : List Nat} (h : NumsOk w da ds) : Reads w w.heap.size 1 da ds.length (numsM ds) := by
  refine ⟨by rw [numsM_len, Nat.mul_one], fun hn => ?_⟩
  obtain ⟨_, b, o, e, hlt, _⟩ := h.2 0 hn
  refine ⟨_, e, hlt, fun j u hu => ?_⟩
  have hj : j < ds.length := by rw [← numsM_len]; exact (List.getElem?_eq_some_iff.1 hu).1
  obtain ⟨_, b2, o2, e2, _, hc⟩ := h.2 j hj
  rw [e] at e2
  injection e2 with e2
  injection e2 with e3 e4
  subst e3 e4
  rw [add_at, hc]
  simp only [numsM, List.getElem?_map, List.getElem?_eq_getElem hj, Option.map_some, Option.some.injEq] at hu
  rw [← hu]
theorem ExsOk.reads {w : World} {xa : Option Addr} {xs : List Exch} (h : ExsOk w xa xs) : Reads w w.heap.size 6 xa xs.length (exsM xs) := by
  refine ⟨exsM_len _, fun hn => ?_⟩
  obtain ⟨_, b, o, e, hlt, _⟩ := h.2 0 hn
  refine ⟨_, e, hlt, fun j u hu => ?_⟩
  obtain ⟨hj, hu2⟩ := exsM_from hu
  obtain ⟨_, b2, o2, e2, _, hc⟩ := h.2 (j / 6) hj
  rw [e] at e2
  injection e2 with e2
  injection e2 with e3 e4
  subst e3 e4
  have := hc (j % 6) u hu2
  rw [show o + j / 6 * 6 + j % 6 = o + j from by omega] at this
  rw [add_at, this]
theorem own_ex {w : World} {B : Nat} {A : List Exch} {ad : Option Addr} {cap : Nat} (ho : w.ownsRow B 51 6 (.slice ad A.length cap) A.length (exsM A)) {j : Nat} (hj : j < A.length) : ∃ g, ad = some ⟨g, 0, none⟩ ∧ B ≤ g ∧ g < w.heap.size ∧ w.rangeAt g (j * 6) (exA A[j]).toList := by
  obtain ⟨g, cap', hv, hg0, hg1⟩ := ho.form (by omega)
  injection hv with h1 h2 h3
  subst h1
  refine ⟨g, rfl, hg0, hg1, fun i u hu => ?_⟩
  have := ho.cells (g := g) rfl (j * 6 + i) u (exsM_at A j hj i u hu)
  rw [add_at, Nat.zero_add] at this
  exact this
theorem own_num {w : World} {B : Nat} {A : List Nat} {ad : Option Addr} {cap : Nat} (ho : w.ownsRow B 29 1 (.slice ad A.length cap) A.length (numsM A)) {j : Nat} (hj : j < A.length) : ∃ g, ad = some ⟨g, 0, none⟩ ∧ B ≤ g ∧ g < w.heap.size ∧ w.cell? ⟨g, j, none⟩ = some (.int .u32 (A[j] : Int)) := by
  obtain ⟨g, cap', hv, hg0, hg1⟩ := ho.form (by omega)
  injection hv with h1 h2 h3
  subst h1
  refine ⟨g, rfl, hg0, hg1, ?_⟩
  have := ho.cells (g := g) rfl j (.int .u32 (A[j] : Int)) (by simp [numsM, List.getElem?_eq_getElem hj])
  rw [add_at, Nat.zero_add] at this
  exact this
def coreX (x : Exch) : Exch := { x with ca := none, cc := 0 }
def coreP (p : Pkt) : Pkt := { p with ga := none, gc := 0, xa := none, xc := 0, m := { p.m with da := none, dc := 0 }, xs := p.xs.map coreX }
def OwnN (B : Nat) (w : World) (da : Option Addr) (ds : List Nat) (dc : Nat) : Prop := w.ownsRow B 29 1 (.slice da ds.length dc) ds.length (numsM ds)
/-- all that a packet holds is in rows from B on -/
structure OwnPk (B : Nat) (w : World) (q : Pkt) : Prop where
  got : OwnN B w q.ga q.got q.gc
  ds : OwnN B w q.m.da q.m.ds q.m.dc
  xs : w.ownsRow B 51 6 (.slice q.xa q.xs.length q.xc) q.xs.length (exsM q.xs)
  cs : ∀ x ∈ q.xs, OwnN B w x.ca x.cs x.cc
theorem OwnN.below {B : Nat} {w w' : World} {da : Option Addr} {ds : List Nat} {dc : Nat} (h : OwnN B w da ds dc) (hb : Below w.heap.size w w') : OwnN B w' da ds dc := own_keptS h (Kept.of_below (S := fun _ => False) hb) (fun _ _ h => h)
theorem OwnPk.below {B : Nat} {w w' : World} {q : Pkt} (h : OwnPk B w q) (hb : Below w.heap.size w w') : OwnPk B w' q :=
  ⟨h.got.below hb, h.ds.below hb, own_keptS h.xs (Kept.of_below (S := fun _ => False) hb) (fun _ _ h => h), fun x hx => (h.cs x hx).below hb⟩
theorem OwnN.nums {B : Nat} {w : World} {da : Option Addr} {ds : List Nat} {dc : Nat} (h : OwnN B w da ds dc) (h5 : ds.length ≤ 35184372087808) (hv : ∀ d ∈ ds, d < 4294967296) : NumsOk w da ds :=
  ⟨h5, fun i hi => by
    obtain ⟨g, e, _, h2, h3⟩ := own_num h hi
    exact ⟨hv _ (List.getElem_mem _), g, 0, e, h2, by rw [Nat.zero_add]; exact h3⟩⟩
theorem OwnN.kept {B : Nat} {w w' : World} {da : Option Addr} {ds : List Nat} {dc : Nat} {S : Nat → Prop} (h : OwnN B w da ds dc) (hk : Kept S w w') (hs : ∀ b cs fr, w.heap[b]? = some (.cells cs 29 fr) → B ≤ b → ¬ S b) : OwnN B w' da ds dc := by
  refine own_keptS h hk (fun b hb => ?_)
  rcases h.2 with ⟨e, _⟩ | ⟨g, cap, cur, e, hg, hh, _⟩
  · rw [e] at hb; cases hb
  · rw [e] at hb
    injection hb with hb
    subst hb
    exact hs _ _ _ hh hg
end Go.Proofs.Ytgpojbmloielmaa
