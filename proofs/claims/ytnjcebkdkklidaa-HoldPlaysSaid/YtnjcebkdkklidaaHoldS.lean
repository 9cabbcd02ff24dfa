/-
  What the reference's Count, Get, From return.
  Conditions: none.
-/
import Derived.Test.YtnjcebkdkklidaaHoldR
namespace Go.Proofs.Ytnjcebkdkklidaa
set_option linter.unusedVariables false
set_option linter.unusedSimpArgs false
open Go.RowKit
/-- the cells of the reference's hold -/
def refX (v : Value) (lo : Nat → Nat) : Array Value := (v :: (List.range 64).map fun q => Value.int .u32 (lo q : Int)).toArray
theorem refX_v (v : Value) (lo : Nat → Nat) : (refX v lo)[0]? = some v := rfl
theorem refX_lo (v : Value) (lo : Nat → Nat) {p : Nat} (hp : p < 64) : (refX v lo)[1 + p]? = some (.int .u32 (lo p : Int)) := by
  unfold refX
  rw [List.getElem?_toArray, Nat.add_comm, List.getElem?_cons_succ, List.getElem?_map, List.getElem?_range hp]; rfl
theorem refX_size (v : Value) (lo : Nat → Nat) : (refX v lo).size = 65 := by unfold refX; simp
theorem refX_setlo (v : Value) (lo : Nat → Nat) {p : Nat} (hp : p < 64) (n : Nat) : (refX v lo).setIfInBounds (1 + p) (.int .u32 (n : Int)) = refX v (upd lo p n) := by
  unfold refX
  rw [List.setIfInBounds_toArray, Nat.add_comm, List.set_cons_succ]
  congr 2
  refine List.ext_getElem? fun j => ?_
  rw [List.getElem?_set]
  by_cases hj : p = j
  · subst hj
    rw [if_pos rfl, if_pos (by simpa using hp), List.getElem?_map, List.getElem?_range hp]
    simp [upd]
  · rw [if_neg hj, List.getElem?_map, List.getElem?_map]
    by_cases h64 : j < 64
    · rw [List.getElem?_range h64]; simp [upd, Ne.symm hj]
    · rw [List.getElem?_eq_none (by simp; omega)]; rfl
theorem refX_setv (v u : Value) (lo : Nat → Nat) : (refX v lo).setIfInBounds 0 u = refX u lo := by
  unfold refX
  rw [List.setIfInBounds_toArray, List.set_cons_zero]
theorem refX_one (v : Value) (lo : Nat → Nat) (hv : v.oneCell' = true) : (refX v lo).all (·.oneCell') = true := by
  unfold refX
  refine all_oneCell_toArray (fun u hu => ?_)
  rcases List.mem_cons.1 hu with rfl | h
  · exact hv
  · obtain ⟨q, _, rfl⟩ := List.mem_map.1 h
    rfl
theorem results_cell_tmp {P : Program} {fn : Func} {p t : Tmp} {ty : TypeId} (h : fn.results = #[.cell p ty, .tmp t]) (tmps : Array Value) (w : World) (g : Nat) (tt : TypeId) (cs : Array Value) (fr : Nat × Nat) (d : TypeDesc) (x : Value)
    (hp : tmps.getD p undef = .pointer (some ⟨g, 0, none⟩)) (ht : tmps.getD t undef = x) (hg : w.heap[g]? = some (.cells cs tt fr))
    (hu : P.underlying ty = some d) (hd : (match d with | .struct _ | .array _ _ => true | _ => false) = true) (hi : (P.info? ty).map (·.size) = some cs.size) :
    (results fn tmps).run P w = .ok (.tuple #[.agg cs, x]) w := by
  have hp' : tmps[p]?.getD undef = .pointer (some ⟨g, 0, none⟩) := by simpa using hp
  have ht' : tmps[t]?.getD undef = x := by simpa using ht
  simp [results, h, hp', ht', asAddr, run_loadVar_row w g tt ty cs fr d hg hu hd hi]
theorem bsr' {a b : World} (h : Below a.heap.size a b) {g : Nat} (hg : a.heap.size ≤ g) (cs : Array Value) : Below a.heap.size a (b.setRow g cs) :=
  ⟨h.os, h.tape, h.output, by rw [size_setRow]; exact h.size, fun i hi => (setRow_other b g i cs (by omega)).trans (h.block i hi)⟩
theorem msgA_all (m : Msg) : (msgA m).toList.toArray.all (·.oneCell') = true := all_oneCell_toArray (msgA_one m)
theorem cntA_le (A : List Msg) (k : Nat) (p : Int) : cntA (A.take k) p ≤ k := by
  have h1 := ofP_len (A.take k) p
  have h2 := List.length_take_le k A
  unfold cntA
  omega
set_option maxRecDepth 100000 in
set_option maxHeartbeats 2000000 in
theorem rCount_any (v : Value) (lo : Nat → Nat) (A : List Msg) (p : Int) (w : World) (h : RowsIn w v A) (hl : A.length ≤ 1000) :
    Calls Try.prog 19 #[.agg (refX v lo), .int .i64 p] w fun e w' => e = .returned (.int .u32 (cntA A p : Int)) ∧ Below w.heap.size w w' := by
  obtain ⟨ad, cap, rfl, _⟩ := id h
  obtain ⟨X, hX⟩ : ∃ X, X = refX (.slice ad A.length cap) lo := ⟨_, rfl⟩
  have x0 := refX_v (.slice ad A.length cap) lo
  rw [← hX] at x0 ⊢
  have hx := heap_alloc_new w (.cells X 34)
  have hb := ba (br w) (.cells X 34)
  have hr := h.below hb
  clear h hX
  go_enter Try.func19, Try.ntmps19
  go_wp2
  generalize w.alloc (.cells X 34) = W at *
  have c0 : W.cell? ⟨w.heap.size, 0, none⟩ = some (.slice ad A.length cap) := (cell_of_row _ _ 0 _ _ _ hx).trans x0
  have HH := Lib.hid (And.intro hb hr)
  clear hx hb hr x0
  go_loop [5, 6] (fun n i => ∃ k : Nat, k ≤ A.length ∧ i = .int .i64 (k : Int) ∧ n = .int .u32 (cntA (A.take k) p : Int)) (fun _ i => A.length - (intOf i).toNat)
  case atStart => exact ⟨0, by omega, rfl, rfl⟩
  case round =>
    obtain ⟨k, hk, rfl, rfl⟩ := hrel
    by_cases hlt : k < A.length
    · have hbool : decide ((k : Int) < (A.length : Int)) = true := by simpa using hlt
      have hboolN : decide (k < A.length) = true := by simpa using hlt
      have hki : (k : Int) < (A.length : Int) := by omega
      obtain ⟨cap', g, o, e, hg, hrow⟩ := HH.out.2.msg hlt
      injection e with e1 e2 e3
      subst e1
      have s0 : W.cell? ⟨g, o + k * 6, none⟩ = some (.int .i64 A[k].frm) := hrow 0 _ rfl
      have hle := cntA_le A k p
      have hsu := cntA_take_succ hlt p
      obtain ⟨c, hc⟩ : ∃ c, c = cntA (A.take k) p := ⟨_, rfl⟩
      rw [← hc] at hle hsu ⊢
      have HS := Lib.hid hsu
      have hc1 : c ≤ 1000 := by omega
      clear hrow hsu hle hc
      by_cases hq : A[k].frm = p
      · have d1 : (A[k].frm == p) = true := by simpa using hq
        have HC := Lib.hid (show cntA (A.take (k + 1)) p = c + 1 by rw [HS.out, if_pos hq])
        generalize A[k].frm = f at *
        clear hq
        go_wp2
        exact ⟨⟨k + 1, hlt, by go_num, by rw [HC.out]; go_num⟩, by simp [intOf]; omega⟩
      · have d1 : (A[k].frm == p) = false := by simpa using hq
        have HC := Lib.hid (show cntA (A.take (k + 1)) p = c by rw [HS.out, if_neg hq]; rfl)
        generalize A[k].frm = f at *
        clear hq
        go_wp2
        exact ⟨⟨k + 1, hlt, by go_num, by rw [HC.out]⟩, by simp [intOf]; omega⟩
    · have hbool : decide ((k : Int) < (A.length : Int)) = false := by simpa using hlt
      have hboolN : decide (k < A.length) = false := by simpa using hlt
      rw [List.take_of_length_le (show A.length ≤ k by omega)]
      go_wp2
      go_ret
      exact ⟨rfl, HH.out.1⟩
/-- the reference's answer to Get -/
def getR (o : Option Msg) : Value := match o with
  | none => .tuple #[.agg (msgA zeroM), .bool false]
  | some m => .tuple #[.agg (msgA m), .bool true]
theorem getA_at {A : List Msg} {lo : Nat → Nat} {p : Int} {seq k : Nat} (hk : k < A.length) (h1 : A[k].frm = p) (h2 : A[k].seq = seq) (h3 : lo p.toNat < seq) (hn : ∀ j (h : j < A.length), j < k → ¬ (A[j].frm = p ∧ A[j].seq = seq ∧ lo p.toNat < seq)) : getA A lo p seq = some A[k] := by
  unfold getA
  refine List.find?_eq_some_iff_getElem.2 ⟨by simp [h1, h2, h3], k, hk, rfl, fun j hj => ?_⟩
  have := hn j (by omega) hj
  simp
  omega
theorem getA_none {A : List Msg} {lo : Nat → Nat} {p : Int} {seq : Nat} (hn : ∀ j (h : j < A.length), ¬ (A[j].frm = p ∧ A[j].seq = seq ∧ lo p.toNat < seq)) : getA A lo p seq = none := by
  unfold getA
  refine List.find?_eq_none.2 fun m hm => ?_
  obtain ⟨j, hj, rfl⟩ := List.mem_iff_getElem.1 hm
  have := hn j hj
  simp
  intro a b
  by_cases hlt : lo p.toNat < seq
  · exact absurd ⟨a, b, hlt⟩ this
  · omega
set_option maxRecDepth 100000 in
set_option maxHeartbeats 4000000 in
theorem rGet_any (v : Value) (lo : Nat → Nat) (A : List Msg) (p : Int) (seq : Nat) (w : World) (h : RowsIn w v A) (hl : A.length ≤ 1000) (hf : ∀ m ∈ A, procB m.frm = true) :
    Calls Try.prog 16 #[.agg (refX v lo), .int .i64 p, .int .u32 (seq : Int)] w fun e w' => e = .returned (getR (getA A lo p seq)) ∧ Below w.heap.size w w' := by
  obtain ⟨ad, cap, rfl, _⟩ := id h
  obtain ⟨X, hX⟩ : ∃ X, X = refX (.slice ad A.length cap) lo := ⟨_, rfl⟩
  have x0 := refX_v (.slice ad A.length cap) lo
  have hlo : ∀ q : Nat, q < 64 → X[1 + q]? = some (.int .u32 (lo q : Int)) := fun q hq => by rw [hX]; exact refX_lo _ lo hq
  rw [← hX] at x0 ⊢
  have hx := heap_alloc2_old w (.cells X 34) (.cells (msgA zeroM) 37)
  have hy := heap_alloc2_new w (.cells X 34) (.cells (msgA zeroM) 37)
  have hb := ba (ba (br w) (.cells X 34)) (.cells (msgA zeroM) 37)
  have hr := h.below hb
  rw [show msgA zeroM = #[.int .i64 0, .int .u32 0, .int .u64 0, .int .i64 0, .slice none 0 0, .string ⟨#[]⟩] from rfl] at hx hy hb hr
  have HF := Lib.hid hf
  clear h hX hf
  go_enter Try.func16, Try.ntmps16
  go_wp2
  generalize (w.alloc (.cells X 34)).alloc (.cells #[.int .i64 0, .int .u32 0, .int .u64 0, .int .i64 0, .slice none 0 0, .string ⟨#[]⟩] 37) = W at *
  have c0 : W.cell? ⟨w.heap.size, 0, none⟩ = some (.slice ad A.length cap) := (cell_of_row _ _ 0 _ _ _ hx).trans x0
  have HLO := Lib.hid (fun q hq => (cell_of_row _ _ (1 + q) _ _ _ hx).trans (hlo q hq))
  have HH := Lib.hid (And.intro hb (And.intro hr hy))
  clear hx hb hr x0 hy hlo
  go_loop [8] (fun i => ∃ k : Nat, k ≤ A.length ∧ i = .int .i64 (k : Int) ∧ Hid (∀ j (h : j < A.length), j < k → ¬ (A[j].frm = p ∧ A[j].seq = seq ∧ lo p.toNat < seq))) (fun i => A.length - (intOf i).toNat)
  case atStart => exact ⟨0, by omega, rfl, fun j _ hj => by omega⟩
  case round =>
    obtain ⟨k, hk, rfl, HN⟩ := hrel
    by_cases hlt : k < A.length
    · have hbool : decide ((k : Int) < (A.length : Int)) = true := by simpa using hlt
      have hboolN : decide (k < A.length) = true := by simpa using hlt
      have hki : (k : Int) < (A.length : Int) := by omega
      obtain ⟨cap', g, o, e, hg, hrow⟩ := HH.out.2.1.msg hlt
      injection e with e1 e2 e3
      subst e1
      have s0 : W.cell? ⟨g, o + k * 6, none⟩ = some (.int .i64 A[k].frm) := hrow 0 _ rfl
      have s1 : W.cell? ⟨g, o + k * 6 + 1, none⟩ = some (.int .u32 (A[k].seq : Int)) := hrow 1 _ rfl
      have HR := Lib.hid hrow
      have HG := Lib.hid (fun h1 h2 h3 => getA_at (A := A) (lo := lo) (p := p) (seq := seq) hlt h1 h2 h3 HN.out)
      have HM := Lib.hid (HF.out _ (List.getElem_mem hlt))
      have HL := Lib.hid (show ¬ (A[k].frm = p ∧ A[k].seq = seq ∧ lo p.toNat < seq) → ∀ j (h : j < A.length), j < k + 1 → ¬ (A[j].frm = p ∧ A[j].seq = seq ∧ lo p.toNat < seq) from fun hno j h hj => by
        by_cases e : j = k
        · subst e; exact hno
        · exact HN.out j h (by omega))
      clear hrow
      generalize A[k] = x at *
      by_cases h1 : x.frm = p
      · have d1 : (x.frm == p) = true := by simpa using h1
        obtain ⟨q, hq⟩ := Int.eq_ofNat_of_zero_le (procB_iff.1 HM.out).1
        have hq' : x.frm = (q : Int) := hq
        have hq64 : (q : Int) < 64 := by have := (procB_iff.1 HM.out).2; omega
        have hpq : p = (q : Int) := h1.symm.trans hq'
        have HQ := Lib.hid (And.intro h1 hpq)
        have cl : W.cell? ⟨w.heap.size, 1 + q, none⟩ = some (.int .u32 (lo q : Int)) := HLO.out q (by omega)
        subst hpq
        clear h1 hq hq'
        by_cases h2 : x.seq = seq
        · have d2 : ((x.seq : Int) == (seq : Int)) = true := by simp [h2]
          by_cases h3 : lo q < seq
          · have d3 : decide ((lo q : Int) < (seq : Int)) = true := by simpa using h3
            have d3' : decide (lo q < seq) = true := by simpa using h3
            have HE := Lib.hid (HG.out HQ.out.1 h2 (by rw [Int.toNat_natCast]; exact h3))
            generalize lo q = l0 at *
            clear h2 h3
            go_wp2_with (first
              | (refine wpList_load_mid rfl 37 (.tmp 45) rfl g (o + k * 6) rfl (msgA x).toList _ HR.out Try.underlying37 rfl (by kernel_rfl) ?_)
              | (refine wpList_store_row rfl 37 (.tmp 6) (.tmp 46) rfl (w.heap.size + 1) (msgA x).toList.toArray rfl rfl 37 _ HH.out.2.2 (by kernel_rfl) rfl (msgA_all x) ?_)
              | fail)
            refine bodyPost_ret (results_cell_tmp Try.results16 _ _ (w.heap.size + 1) 37 _ (0, 0) _ _ rfl rfl (setRow_heap _ _ _ _ _ _ HH.out.2.2) Try.underlying37 rfl (by kernel_rfl)) rfl ⟨?_, bsr' HH.out.1 (by omega) _⟩
            rw [HE.out]; rfl
          · have d3 : decide ((lo q : Int) < (seq : Int)) = false := by simpa using h3
            have d3' : decide (lo q < seq) = false := by simpa using h3
            have HL2 := Lib.hid (HL.out (fun hc => h3 (by have := hc.2.2; rwa [Int.toNat_natCast] at this)))
            generalize lo q = l0 at *
            clear h2 h3
            go_wp2
            exact ⟨⟨k + 1, hlt, by go_num, HL2⟩, by simp [intOf]; omega⟩
        · have d2 : ((x.seq : Int) == (seq : Int)) = false := by simp; omega
          have HL2 := Lib.hid (HL.out (fun hc => h2 hc.2.1))
          clear h2
          go_wp2
          exact ⟨⟨k + 1, hlt, by go_num, HL2⟩, by simp [intOf]; omega⟩
      · have d1 : (x.frm == p) = false := by simpa using h1
        have HL2 := Lib.hid (HL.out (fun hc => h1 hc.1))
        clear h1
        go_wp2
        exact ⟨⟨k + 1, hlt, by go_num, HL2⟩, by simp [intOf]; omega⟩
    · have hbool : decide ((k : Int) < (A.length : Int)) = false := by simpa using hlt
      have hboolN : decide (k < A.length) = false := by simpa using hlt
      have HE := Lib.hid (getA_none (A := A) (lo := lo) (p := p) (seq := seq) (fun j h => HN.out j h (by omega)))
      go_wp2_with (first
        | (refine wpList_store_row rfl 37 (.tmp 6) (.tmp 47) rfl (w.heap.size + 1) (msgA zeroM) rfl rfl 37 _ HH.out.2.2 (by kernel_rfl) rfl (msgA_all zeroM) ?_)
        | fail)
      refine bodyPost_ret (results_cell_tmp Try.results16 _ _ (w.heap.size + 1) 37 (msgA zeroM) (0, 0) _ _ rfl rfl (setRow_heap _ _ _ _ _ _ HH.out.2.2) Try.underlying37 rfl (by kernel_rfl)) rfl ⟨?_, bsr' HH.out.1 (by omega) _⟩
      rw [HE.out]; rfl
end Go.Proofs.Ytnjcebkdkklidaa
