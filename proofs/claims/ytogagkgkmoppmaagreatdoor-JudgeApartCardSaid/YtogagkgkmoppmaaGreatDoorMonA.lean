/-
  Messages as values, rows of them; copies of numbers; comparisons of keys and configurations.
  Conditions: none.
-/
import Derived.Test.YtogagkgkmoppmaaGreatDoorProg
import Derived.Test.YtogagkgkmoppmaaGreatDoorBaseZs
import Derived.Test.YtogagkgkmoppmaaGreatDoorGMap
import Derived.Lib.SlicesS
import Derived.Deep.AppendLies
import Derived.Deep.Upon
import Derived.WalkLawsBesides
import Derived.IntWalk
namespace Go.Proofs.YtogagkgkmoppmaaGreatDoor
set_option linter.unusedVariables false
set_option linter.unusedSimpArgs false
open Go.RowKit
/-- a message's cells; ds: what its vector reads as -/
structure Msg where
  frm : Int
  seq : Nat
  stamp : Nat
  service : Int
  ds : List Nat
  pay : ByteArray
  da : Option Addr
  dc : Nat
instance : Inhabited Msg := ⟨⟨0, 0, 0, 0, [], ⟨#[]⟩, none, 0⟩⟩
def msgA (m : Msg) : Array Value := #[.int .i64 m.frm, .int .u32 (m.seq : Int), .int .u64 (m.stamp : Int), .int .i64 m.service, .slice m.da m.ds.length m.dc, .string m.pay]
def MsgOk (w : World) (m : Msg) : Prop := m.ds.length ≤ 9223372036854775807 ∧ m.pay.size ≤ 9223372036854775807 ∧ m.seq < 4294967296 ∧ m.stamp < 18446744073709551616 ∧
  ∀ i (h : i < m.ds.length), ∃ B O, m.da = some ⟨B, O, none⟩ ∧ B < w.heap.size ∧ w.cell? ⟨B, O + i, none⟩ = some (.int .u32 (m.ds[i] : Int))
theorem MsgOk.kept {w w' : World} {m : Msg} {S : Nat → Prop} (h : MsgOk w m) (hk : Kept S w w') (hS : ∀ ad, m.da = some ad → 0 < m.ds.length → ¬ S ad.block) : MsgOk w' m := by
  obtain ⟨h1, h2, h3, h4, h5⟩ := h
  refine ⟨h1, h2, h3, h4, fun i hi => ?_⟩
  obtain ⟨B, O, e, hB, hc⟩ := h5 i hi
  exact ⟨B, O, e, Nat.lt_of_lt_of_le hB hk.size, (hk.cell (p := ⟨B, O + i, none⟩) hB (hS ⟨B, O, none⟩ e (by omega))).trans hc⟩
theorem MsgOk.below {w w' : World} {m : Msg} (h : MsgOk w m) (hb : Below w.heap.size w w') : MsgOk w' m := h.kept (S := fun _ => False) (.of_below hb) (fun _ _ _ h => h)
/-- two messages that read the same -/
def sameM (a b : Msg) : Bool := decide (a.frm = b.frm ∧ a.seq = b.seq ∧ a.stamp = b.stamp ∧ a.service = b.service ∧ a.pay = b.pay ∧ a.ds = b.ds)
theorem sameM_self (a : Msg) : sameM a a = true := by simp [sameM]
theorem after2w {w w1 : World} {A B : Array Value} {t t' : TypeId} (hb : Below ((w.alloc (.cells A t)).alloc (.cells B t')).heap.size ((w.alloc (.cells A t)).alloc (.cells B t')) w1) :
    w1.heap[w.heap.size]? = some (.cells A t (0, 0)) ∧ w1.heap[w.heap.size + 1]? = some (.cells B t' (0, 0)) :=
  ⟨(hb.block w.heap.size (by simp; omega)).trans (heap_alloc2_old w _ _), (hb.block (w.heap.size + 1) (by simp)).trans (heap_alloc2_new w _ _)⟩
theorem Kept.of_grown' {w w' : World} {row : Option Nat} (h : w.grownBy w' row) : Kept (fun k => ∃ b, row = some b ∧ k = b) w w' := ⟨h.os, h.tape, h.output, h.size, fun i hi hs => h.block i hi (fun e => hs ⟨i, e.symm, rfl⟩)⟩
theorem new_cells (w : World) (l : List Value) (t : TypeId) (j : Nat) (u : Value) (h : l[j]? = some u) : (w.alloc (.cells l.toArray t)).cell? ((⟨w.heap.size, 0, none⟩ : Addr).add j) = some u := by
  have ha : (⟨w.heap.size, 0, none⟩ : Addr).add j = ⟨w.heap.size, j, none⟩ := by unfold Addr.add; split <;> simp_all
  rw [ha, cell_of_row _ _ j l.toArray t (0, 0) (heap_alloc_new w _)]
  simpa using h
def zeroM : Msg := ⟨0, 0, 0, 0, [], ⟨#[]⟩, none, 0⟩
def rowsM (O : List Msg) : List Value := O.flatMap fun m => (msgA m).toList
theorem rowsM_snoc (O : List Msg) (m : Msg) : rowsM (O ++ [m]) = rowsM O ++ (msgA m).toList := by unfold rowsM; simp
theorem msgA_one (m : Msg) : ∀ u ∈ (msgA m).toList, u.oneCell' = true := by
  intro u hu
  simp [msgA] at hu
  rcases hu with rfl | rfl | rfl | rfl | rfl | rfl <;> rfl
theorem info31 : (Tryz.prog.info? 31).map (fun i => (i.zero, i.size, i.bytes)) = some (some (.agg (msgA zeroM)), 6, 72) := by kernel_rfl
theorem own_keptS {S : Nat → Prop} {w w' : World} {base : Nat} {e : TypeId} {size : Nat} {v : Value} {n : Nat} {xs : List Value} (h : w.ownsRow base e size v n xs) (hk : Kept S w w') (hs : ∀ b, v.ownBlock = some b → ¬ S b) : w'.ownsRow base e size v n xs := by
  refine ⟨h.1, ?_⟩
  rcases h.2 with hn | ⟨g, cap, cur, rfl, hb, hgg, rest⟩
  · exact .inl hn
  · exact .inr ⟨g, cap, cur, rfl, hb, hk.keep hgg (hs g rfl), rest⟩
theorem rowsM_append (A B : List Msg) : rowsM (A ++ B) = rowsM A ++ rowsM B := by unfold rowsM; simp
section
variable {w w' : World} {B : Nat}
theorem grown_below {n : Nat} {w0 : World} {row : Option Nat} (hb : Below n w0 w) (hn : n ≤ w.heap.size) (hg : w.grownBy w' row) (hr : ∀ b, row = some b → n ≤ b) : Below n w0 w' :=
  (Kept.of_grown' hg).out hb hn (by rintro k hk ⟨b, hb, e⟩; have := hr b hb; omega)
theorem reads_new (w : World) (m : Msg) : Reads (w.alloc (.cells (msgA m).toList.toArray 31)) (w.heap.size + 1) 6 (some ⟨w.heap.size, 0, none⟩) 1 (msgA m).toList :=
  ⟨rfl, fun _ => ⟨_, rfl, by show w.heap.size < _; omega, fun j u hu => new_cells w (msgA m).toList 31 j u hu⟩⟩
theorem rowsM_one (A : List Msg) : ∀ u ∈ rowsM A, u.oneCell' = true := by
  intro u hu
  unfold rowsM at hu
  obtain ⟨m, _, hm⟩ := List.mem_flatMap.1 hu
  exact msgA_one m u hm
theorem rowsM_at : ∀ (A : List Msg) (j : Nat) (hj : j < A.length) (i : Nat) (u : Value), (msgA A[j]).toList[i]? = some u → (rowsM A)[j * 6 + i]? = some u
  | [], j, hj, _, _, _ => absurd hj (by simp)
  | m :: A, 0, _, i, u, h => by
    have hi : i < 6 := (List.getElem?_eq_some_iff.1 h).1
    have e : rowsM (m :: A) = (msgA m).toList ++ rowsM A := rfl
    rw [e, show 0 * 6 + i = i from by omega, List.getElem?_append_left (by exact hi)]
    exact h
  | m :: A, j + 1, hj, i, u, h => by
    have e : rowsM (m :: A) = (msgA m).toList ++ rowsM A := rfl
    have hl : (msgA m).toList.length = 6 := rfl
    rw [e, List.getElem?_append_right (by omega), hl, show (j + 1) * 6 + i - 6 = j * 6 + i from by omega]
    exact rowsM_at A j (by simpa using hj) i u (by simpa using h)
theorem own_msg {A : List Msg} {ad : Option Addr} {cap : Nat} (ho : w.ownsRow B 31 6 (.slice ad A.length cap) A.length (rowsM A)) {j : Nat} (hj : j < A.length) : ∃ g, ad = some ⟨g, 0, none⟩ ∧ g < w.heap.size ∧ w.rangeAt g (j * 6) (msgA A[j]).toList := by
  obtain ⟨g, cap', hv, hg0, hg1⟩ := ho.form (by omega)
  injection hv with h1 h2 h3
  subst h1
  refine ⟨g, rfl, hg1, fun i u hu => ?_⟩
  have := ho.cells (g := g) rfl (j * 6 + i) u (rowsM_at A j hj i u hu)
  rw [← this]
  congr 1
  unfold Addr.add
  split <;> simp_all
end
theorem wpQuiet_load_want {P : Program} {ops : Array Oper} {C : World → Prop} {Q : Act → Prop} {rest : List Oper} {o : Oper} {a : Act} (hw : Region.wanted o (yielded ops a.tmps) = true) (ty : TypeId) (x : Operand) (ho : o.op = .load ty x)
    (b off : Nat) (hx : a.eval x = .pointer (some ⟨b, off, none⟩)) (cs : List Value) (d : TypeDesc) (hc : ∀ w, C w → w.rangeAt b off cs)
    (hu : P.underlying ty = some d) (hd : d.isRow = true) (hi : (P.info? ty).map (·.size) = some cs.length) (h : wpQuiet P ops C Q rest (a.put o.dst (.agg cs.toArray))) : wpQuiet P ops C Q (o :: rest) a := by
  show (if Region.wanted o (yielded ops a.tmps) = true then _ else _)
  rw [if_pos hw]
  refine ⟨_, fun w hC => ?_, h⟩
  unfold Oper.quietAt execOp
  simp only [ho, hx, Instr.loadAt, Instr.sureAddr, Sem.run_bind, Sem.run_pure, Result.andThen_ok, run_loadVar_mid w b off ty cs d (hc w hC) hu hd hi]
  exact ⟨rfl, rfl⟩
theorem rowsM_len (A : List Msg) : (rowsM A).length = A.length * 6 := by
  unfold rowsM
  induction A with
  | nil => rfl
  | cons m A ih => rw [List.flatMap_cons, List.length_append, ih, List.length_cons, show (msgA m).toList.length = 6 from rfl]; omega
theorem rowsM_get {l : List Msg} {k : Nat} {u : Value} (h : (rowsM l)[k]? = some u) : ∃ (i : Nat) (hi : i < l.length) (j : Nat), k = i * 6 + j ∧ (msgA l[i]).toList[j]? = some u := by
  have hk : k < (rowsM l).length := (List.getElem?_eq_some_iff.1 h).1
  rw [rowsM_len] at hk
  have hi : k / 6 < l.length := by omega
  refine ⟨k / 6, hi, k % 6, by omega, ?_⟩
  have hj : k % 6 < (msgA l[k / 6]).toList.length := by show k % 6 < 6; omega
  have := rowsM_at l (k / 6) hi (k % 6) _ (List.getElem?_eq_getElem hj)
  rw [show k / 6 * 6 + k % 6 = k by omega, h] at this
  rw [List.getElem?_eq_getElem hj, ← this]
theorem own_slice {w : World} {base : Nat} {e : TypeId} {size : Nat} {v : Value} {n : Nat} {xs : List Value} (h : w.ownsRow base e size v n xs) : ∃ ad cap, v = .slice ad n cap := by
  rcases h.2 with ⟨rfl, rfl⟩ | ⟨g, cap, cur, rfl, _⟩
  · exact ⟨_, _, rfl⟩
  · exact ⟨_, _, rfl⟩
theorem Reads.rowAt {w : World} {B s n : Nat} {ad : Option Addr} {xs : List Value} (h : Reads w B s ad n xs) {k : Nat} (hk : k < n) (hs : 0 < s) : ∃ g o, ad = some ⟨g, o, none⟩ ∧ g < B ∧ ∀ i u, xs[k * s + i]? = some u → w.cell? ⟨g, o + (k * s + i), none⟩ = some u := by
  obtain ⟨⟨g, o, sp⟩, rfl, hb, hc⟩ := h.2 (by omega)
  have hl : 0 < xs.length := by rw [h.1]; exact Nat.mul_pos (by omega) hs
  have h0 := hc 0 xs[0] (List.getElem?_eq_getElem hl)
  have hsp : sp = none := by
    have := World.cell?_spot h0
    simpa [Addr.add] using this
  subst hsp
  refine ⟨g, o, rfl, hb, fun i u hu => ?_⟩
  have := hc _ u hu
  rw [← this]
  congr 1
  unfold Addr.add
  split <;> simp_all
theorem measI {n k : Nat} (h : k < n) : n - (intOf (.int .i64 ((k : Int) + 1))).toNat < n - (intOf (.int .i64 (k : Int))).toNat := by
  show n - ((k : Int) + 1).toNat < n - (k : Int).toNat
  omega
/-- what a message reads as -/
def core (m : Msg) : Int × Nat × Nat × Int × List Nat × ByteArray := (m.frm, m.seq, m.stamp, m.service, m.ds, m.pay)
theorem core_same (a b : Msg) : sameM a b = decide (core a = core b) := by
  unfold sameM core
  congr 1
  simp only [Prod.mk.injEq, eq_iff_iff]
  constructor
  · rintro ⟨h1, h2, h3, h4, h5, h6⟩; exact ⟨h1, h2, h3, h4, h6, h5⟩
  · rintro ⟨h1, h2, h3, h4, h5, h6⟩; exact ⟨h1, h2, h3, h4, h6, h5⟩
def numsM (L : List Nat) : List Value := L.map fun q : Nat => .int .u32 (q : Int)
theorem numsM_one (L : List Nat) : ∀ u ∈ numsM L, u.oneCell' = true := by
  intro u hu
  unfold numsM at hu
  obtain ⟨q, _, rfl⟩ := List.mem_map.1 hu
  rfl
theorem numsM_len (L : List Nat) : (numsM L).length = L.length := by simp [numsM]
def cmpZ (a b : Int) : Int := if a < b then -1 else if b < a then 1 else 0
set_option maxRecDepth 100000 in
set_option maxHeartbeats 1000000 in
theorem nanU_any (a : Int) (w : World) : Calls Tryz.prog 76 #[.int .u64 a] w fun e w' => e = .returned (.bool false) ∧ w = w' := by
  go_enter Tryz.func76, Tryz.ntmps76
  go_wp2
  go_ret
  exact ⟨rfl, rfl⟩
set_option maxRecDepth 100000 in
set_option maxHeartbeats 1000000 in
theorem nanI_any (a : Int) (w : World) : Calls Tryz.prog 77 #[.int .i64 a] w fun e w' => e = .returned (.bool false) ∧ w = w' := by
  go_enter Tryz.func77, Tryz.ntmps77
  go_wp2
  go_ret
  exact ⟨rfl, rfl⟩
set_option maxRecDepth 100000 in
set_option maxHeartbeats 1000000 in
theorem cmpU_any (a b : Int) (w : World) : Calls Tryz.prog 56 #[.int .u64 a, .int .u64 b] w fun e w' => e = .returned (.int .i64 (cmpZ a b)) ∧ w = w' := by
  obtain ⟨v, hv⟩ : ∃ v, v = cmpZ a b := ⟨_, rfl⟩
  rw [← hv]
  go_enter Tryz.func56, Tryz.ntmps56
  go_wp2_with fail
  refine (nanU_any _ _).mono ?_
  rintro e w1 ⟨rfl, rfl⟩
  go_wp2_with fail
  refine (nanU_any _ _).mono ?_
  rintro e w1 ⟨rfl, rfl⟩
  by_cases h1 : a < b
  · obtain rfl : v = -1 := by rw [hv]; unfold cmpZ; rw [if_pos h1]
    have d1 : decide (a < b) = true := by simpa using h1
    clear hv h1
    go_wp2
    go_ret
    exact ⟨rfl, rfl⟩
  by_cases h2 : b < a
  · obtain rfl : v = 1 := by rw [hv]; unfold cmpZ; rw [if_neg h1, if_pos h2]
    have d1 : decide (a < b) = false := by simpa using h1
    have d2 : decide (b < a) = true := by simpa using h2
    clear hv h1 h2
    go_wp2
    go_ret
    exact ⟨rfl, rfl⟩
  obtain rfl : v = 0 := by rw [hv]; unfold cmpZ; rw [if_neg h1, if_neg h2]
  have d1 : decide (a < b) = false := by simpa using h1
  have d2 : decide (b < a) = false := by simpa using h2
  clear hv h1 h2
  go_wp2
  go_ret
  exact ⟨rfl, rfl⟩
set_option maxRecDepth 100000 in
set_option maxHeartbeats 1000000 in
theorem cmpI_any (a b : Int) (w : World) : Calls Tryz.prog 57 #[.int .i64 a, .int .i64 b] w fun e w' => e = .returned (.int .i64 (cmpZ a b)) ∧ w = w' := by
  obtain ⟨v, hv⟩ : ∃ v, v = cmpZ a b := ⟨_, rfl⟩
  rw [← hv]
  go_enter Tryz.func57, Tryz.ntmps57
  go_wp2_with fail
  refine (nanI_any _ _).mono ?_
  rintro e w1 ⟨rfl, rfl⟩
  go_wp2_with fail
  refine (nanI_any _ _).mono ?_
  rintro e w1 ⟨rfl, rfl⟩
  by_cases h1 : a < b
  · obtain rfl : v = -1 := by rw [hv]; unfold cmpZ; rw [if_pos h1]
    have d1 : decide (a < b) = true := by simpa using h1
    clear hv h1
    go_wp2
    go_ret
    exact ⟨rfl, rfl⟩
  by_cases h2 : b < a
  · obtain rfl : v = 1 := by rw [hv]; unfold cmpZ; rw [if_neg h1, if_pos h2]
    have d1 : decide (a < b) = false := by simpa using h1
    have d2 : decide (b < a) = true := by simpa using h2
    clear hv h1 h2
    go_wp2
    go_ret
    exact ⟨rfl, rfl⟩
  obtain rfl : v = 0 := by rw [hv]; unfold cmpZ; rw [if_neg h1, if_neg h2]
  have d1 : decide (a < b) = false := by simpa using h1
  have d2 : decide (b < a) = false := by simpa using h2
  clear hv h1 h2
  go_wp2
  go_ret
  exact ⟨rfl, rfl⟩
set_option maxRecDepth 100000 in
set_option maxHeartbeats 1000000 in
theorem or2_any (g : Nat) (a b : Int) (w : World) (h : w.heap[g]? = some (.cells #[.int .i64 a, .int .i64 b] 3)) : Calls Tryz.prog 55 #[.slice (some ⟨g, 0, none⟩) 2 2] w fun e w' => e = .returned (.int .i64 (if a = 0 then b else a)) ∧ w = w' := by
  have c0 : w.cell? ⟨g, 0, none⟩ = some (.int .i64 a) := cell_of_row _ _ 0 _ _ _ h
  have c1 : w.cell? ⟨g, 1, none⟩ = some (.int .i64 b) := cell_of_row _ _ 1 _ _ _ h
  obtain ⟨v, hv⟩ : ∃ v, v = if a = 0 then b else a := ⟨_, rfl⟩
  rw [← hv]
  have HV := Lib.hid hv
  clear hv h
  go_enter Tryz.func55, Tryz.ntmps55
  go_wp2
  go_loop [5, 8] (fun _ i => ∃ k : Nat, k ≤ 2 ∧ i = .int .i64 (k : Int) ∧ (0 < k → a = 0) ∧ (1 < k → b = 0)) (fun _ i => 2 - (intOf i).toNat)
  case atStart => exact ⟨0, by omega, rfl, by omega, by omega⟩
  case round =>
    obtain ⟨k, hk, rfl, h0, h1⟩ := hrel
    by_cases k0 : k = 0
    · subst k0
      by_cases ha : a = 0
      · subst ha
        go_wp2
        exact ⟨⟨1, by omega, by go_num, by simp, by simp⟩, by simp [intOf]⟩
      · have d1 : (a == 0) = false := by simpa using ha
        have d1' : (a != 0) = true := by simpa using ha
        obtain rfl : v = a := by rw [HV.out, if_neg ha]
        clear h0 h1
        go_wp2
        go_ret
        exact ⟨rfl, rfl⟩
    by_cases k1 : k = 1
    · subst k1
      have ha := h0 (by omega)
      subst ha
      by_cases hb : b = 0
      · subst hb
        go_wp2
        exact ⟨⟨2, by omega, by go_num, by simp, by simp⟩, by simp [intOf]⟩
      · have d1 : (b == 0) = false := by simpa using hb
        have d1' : (b != 0) = true := by simpa using hb
        obtain rfl : v = b := by rw [HV.out, if_pos rfl]
        clear h0 h1
        go_wp2
        go_ret
        exact ⟨rfl, rfl⟩
    · obtain rfl : k = 2 := by omega
      have ha := h0 (by omega)
      have hb := h1 (by omega)
      subst ha
      subst hb
      obtain rfl : v = 0 := by rw [HV.out, if_pos rfl]
      clear h0 h1
      go_wp2
      go_ret
      exact ⟨rfl, rfl⟩
def keyZ (a1 a2 b1 b2 : Int) : Int := if cmpZ a1 b1 = 0 then cmpZ a2 b2 else cmpZ a1 b1
set_option maxRecDepth 100000 in
set_option maxHeartbeats 1000000 in
theorem kCmp_any (a1 a2 b1 b2 : Int) (w : World) : Calls Tryz.prog 23 #[.agg #[.int .u64 a1, .int .i64 a2], .agg #[.int .u64 b1, .int .i64 b2]] w fun e w' => e = .returned (.int .i64 (keyZ a1 a2 b1 b2)) ∧ Below w.heap.size w w' := by
  have hA := heap_alloc2_old w (.cells #[.int .u64 a1, .int .i64 a2] 83) (.cells #[.int .u64 b1, .int .i64 b2] 83)
  have hB := heap_alloc2_new w (.cells #[.int .u64 a1, .int .i64 a2] 83) (.cells #[.int .u64 b1, .int .i64 b2] 83)
  have hb := ba (ba (br w) (.cells #[.int .u64 a1, .int .i64 a2] 83)) (.cells #[.int .u64 b1, .int .i64 b2] 83)
  have HU := Lib.hid (fun (W : World) => cmpU_any a1 b1 W)
  have HI := Lib.hid (fun (W : World) => cmpI_any a2 b2 W)
  have HO := Lib.hid (fun (g : Nat) (W : World) (h : W.heap[g]? = some (.cells #[.int .i64 (cmpZ a1 b1), .int .i64 (cmpZ a2 b2)] 3)) => or2_any g (cmpZ a1 b1) (cmpZ a2 b2) W h)
  unfold keyZ
  generalize cmpZ a1 b1 = x at *
  generalize cmpZ a2 b2 = y at *
  obtain ⟨v, hv⟩ : ∃ v, v = if x = 0 then y else x := ⟨_, rfl⟩
  rw [← hv] at HO ⊢
  clear hv
  go_enter Tryz.func23, Tryz.ntmps23
  go_wp2_with fail
  generalize (w.alloc (.cells #[.int .u64 a1, .int .i64 a2] 83)).alloc (.cells #[.int .u64 b1, .int .i64 b2] 83) = W at *
  have a0 := Bel.cell (cell_of_row _ _ 0 _ _ _ hA : W.cell? ⟨w.heap.size, 0, none⟩ = some (.int .u64 a1)) (Array.getElem?_eq_some_iff.1 hA).1
  have a1' := Bel.cell (cell_of_row _ _ 1 _ _ _ hA : W.cell? ⟨w.heap.size, 1, none⟩ = some (.int .i64 a2)) (Array.getElem?_eq_some_iff.1 hA).1
  have b0 := Bel.cell (cell_of_row _ _ 0 _ _ _ hB : W.cell? ⟨w.heap.size + 1, 0, none⟩ = some (.int .u64 b1)) (Array.getElem?_eq_some_iff.1 hB).1
  have b1' := Bel.cell (cell_of_row _ _ 1 _ _ _ hB : W.cell? ⟨w.heap.size + 1, 1, none⟩ = some (.int .i64 b2)) (Array.getElem?_eq_some_iff.1 hB).1
  refine wp_region_bel_tail 10 (by kernel_rfl) (by kernel_rfl) ?_
  simp only [List.take_succ_cons, List.take_zero, List.drop_succ_cons, List.drop_zero]
  repeat (go_big_quiet_step ((first | (go_at_call 56; exact bel_same (HU.out _)) | (go_at_call 57; exact bel_same (HI.out _)))))
  refine wpQuiet_nil ?_
  intro w5 hw5
  obtain ⟨x5, rfl⟩ := hw5
  have hb5 := bt hb x5.prop
  generalize x5.val = w5 at *
  clear a0 a1' b0 b1' hA hB hb
  have hn := heap_alloc_new w5 (.cells #[.int .i64 x, .int .i64 y] 3)
  have hb6 := ba hb5 (.cells #[.int .i64 x, .int .i64 y] 3)
  go_wp2_with fail
  refine (HO.out _ _ hn).mono ?_
  rintro e w6 ⟨rfl, rfl⟩
  go_wp2
  go_ret
  exact ⟨rfl, hb6⟩
set_option maxRecDepth 100000 in
set_option maxHeartbeats 1000000 in
theorem kConf_any (a1 a2 b1 b2 : Int) (w : World) : Calls Tryz.prog 51 #[.agg #[.int .u64 a1, .int .i64 a2], .agg #[.int .u64 b1, .int .i64 b2]] w fun e w' => e = .returned (.int .i64 (keyZ a1 a2 b1 b2)) ∧ Below w.heap.size w w' := by
  have hA := heap_alloc2_old w (.cells #[.int .u64 a1, .int .i64 a2] 27) (.cells #[.int .u64 b1, .int .i64 b2] 27)
  have hB := heap_alloc2_new w (.cells #[.int .u64 a1, .int .i64 a2] 27) (.cells #[.int .u64 b1, .int .i64 b2] 27)
  have hb := ba (ba (br w) (.cells #[.int .u64 a1, .int .i64 a2] 27)) (.cells #[.int .u64 b1, .int .i64 b2] 27)
  have HU := Lib.hid (fun (W : World) => cmpU_any a1 b1 W)
  have HI := Lib.hid (fun (W : World) => cmpI_any a2 b2 W)
  have HO := Lib.hid (fun (g : Nat) (W : World) (h : W.heap[g]? = some (.cells #[.int .i64 (cmpZ a1 b1), .int .i64 (cmpZ a2 b2)] 3)) => or2_any g (cmpZ a1 b1) (cmpZ a2 b2) W h)
  unfold keyZ
  generalize cmpZ a1 b1 = x at *
  generalize cmpZ a2 b2 = y at *
  obtain ⟨v, hv⟩ : ∃ v, v = if x = 0 then y else x := ⟨_, rfl⟩
  rw [← hv] at HO ⊢
  clear hv
  go_enter Tryz.func51, Tryz.ntmps51
  go_wp2_with fail
  generalize (w.alloc (.cells #[.int .u64 a1, .int .i64 a2] 27)).alloc (.cells #[.int .u64 b1, .int .i64 b2] 27) = W at *
  have a0 := Bel.cell (cell_of_row _ _ 0 _ _ _ hA : W.cell? ⟨w.heap.size, 0, none⟩ = some (.int .u64 a1)) (Array.getElem?_eq_some_iff.1 hA).1
  have a1' := Bel.cell (cell_of_row _ _ 1 _ _ _ hA : W.cell? ⟨w.heap.size, 1, none⟩ = some (.int .i64 a2)) (Array.getElem?_eq_some_iff.1 hA).1
  have b0 := Bel.cell (cell_of_row _ _ 0 _ _ _ hB : W.cell? ⟨w.heap.size + 1, 0, none⟩ = some (.int .u64 b1)) (Array.getElem?_eq_some_iff.1 hB).1
  have b1' := Bel.cell (cell_of_row _ _ 1 _ _ _ hB : W.cell? ⟨w.heap.size + 1, 1, none⟩ = some (.int .i64 b2)) (Array.getElem?_eq_some_iff.1 hB).1
  refine wp_region_bel_tail 10 (by kernel_rfl) (by kernel_rfl) ?_
  simp only [List.take_succ_cons, List.take_zero, List.drop_succ_cons, List.drop_zero]
  repeat (go_big_quiet_step ((first | (go_at_call 56; exact bel_same (HU.out _)) | (go_at_call 57; exact bel_same (HI.out _)))))
  refine wpQuiet_nil ?_
  intro w5 hw5
  obtain ⟨x5, rfl⟩ := hw5
  have hb5 := bt hb x5.prop
  generalize x5.val = w5 at *
  clear a0 a1' b0 b1' hA hB hb
  have hn := heap_alloc_new w5 (.cells #[.int .i64 x, .int .i64 y] 3)
  have hb6 := ba hb5 (.cells #[.int .i64 x, .int .i64 y] 3)
  go_wp2_with fail
  refine (HO.out _ _ hn).mono ?_
  rintro e w6 ⟨rfl, rfl⟩
  go_wp2
  go_ret
  exact ⟨rfl, hb6⟩
set_option maxRecDepth 100000 in
set_option maxHeartbeats 2000000 in
theorem kOf_any (m : Msg) (w : World) : Calls Tryz.prog 24 #[.agg (msgA m)] w fun e w' => e = .returned (.agg #[.int .u64 (m.stamp : Int), .int .i64 m.frm]) ∧ Below w.heap.size w w' := by
  obtain ⟨a, b, c, d, e, f, g, h⟩ := m
  have hb := ba (ba (br w) (.cells #[.int .i64 a, .int .u32 (b : Int), .int .u64 (c : Int), .int .i64 d, .slice g e.length h, .string f] 31)) (.cells #[.int .u64 (c : Int), .int .i64 a] 83)
  show Calls Tryz.prog 24 #[.agg #[.int .i64 a, .int .u32 (b : Int), .int .u64 (c : Int), .int .i64 d, .slice g e.length h, .string f]] w _
  go_enter Tryz.func24, Tryz.ntmps24
  go_wp2
  refine bodyPost_ret (v := .agg #[.int .u64 (c : Int), .int .i64 a]) (by simp [results, Tryz.results24, go_sem]) rfl ⟨rfl, ?_⟩
  exact hb
end Go.Proofs.YtogagkgkmoppmaaGreatDoor
