/-
  What the reference's Take returns.
  Conditions: none.
-/
import Derived.Test.YtodlmboagbjcbaaStreamG
import Derived.Deep.DeepCutAuto
import Derived.IntWalk
namespace Go.Proofs.Ytodlmboagbjcbaa
set_option linter.unusedVariables false
set_option linter.unusedSimpArgs false
open Go.RowKit IM
def HM (H : Hel) : List Msg := H.map (·.2)
def KeyOk (H : Hel) : Prop := ∀ x ∈ H, x.1 = x.2.seq
theorem KeyOk.del {H : Hel} (h : KeyOk H) (q : Nat) : KeyOk (delH H q) := fun x hx => h x ((List.mem_filter.1 hx).1)
theorem KeyOk.add {H : Hel} (h : KeyOk H) (m : Msg) : KeyOk (H ++ [(m.seq, m)]) := fun x hx => by
  rcases List.mem_append.1 hx with hx | hx
  · exact h x hx
  · simp at hx
    subst hx
    rfl
theorem HM_none {H : Hel} {q : Nat} (hk : KeyOk H) (h : hasH H q = false) : findJ (HM H) q = -1 := by
  refine findJ_none (fun i hi e => ?_)
  unfold HM at hi e
  rw [List.getElem_map] at e
  have hm := List.getElem_mem (l := H) (n := i) (by simpa using hi)
  have h1 := hk _ hm
  have : hasH H q = true := (hasH_iff H q).2 (List.mem_map.2 ⟨_, hm, by rw [h1, e]⟩)
  rw [h] at this
  cases this
theorem delH_not : ∀ {H : Hel} {q : Nat}, hasH H q = false → delH H q = H := by
  intro H q h
  unfold delH
  rw [List.filter_eq_self]
  intro x hx
  have : ¬ (x.1 == q) = true := fun e => by
    have : hasH H q = true := List.any_eq_true.2 ⟨x, hx, e⟩
    rw [h] at this
    cases this
  simpa using this
theorem HM_idx : ∀ (H : Hel) (q : Nat), KeyOk H → Keys H → hasH H q = true → ∃ i, i < H.length ∧ (HM H).findIdx? (fun x => x.seq == q) = some i ∧ (HM H)[i]? = some (getH H q) ∧ (HM H).take i ++ (HM H).drop (i + 1) = HM (delH H q) := by
  intro H
  induction H with
  | nil => intro q _ _ h; cases h
  | cons x H ih =>
    intro q hk hK h
    have hx := hk x List.mem_cons_self
    unfold Keys at hK
    rw [List.map_cons, List.nodup_cons] at hK
    by_cases he : x.1 = q
    · have hb : (x.1 == q) = true := by simpa using he
      have hs : (x.2.seq == q) = true := by rw [← hx]; exact hb
      have hno : hasH H q = false := by
        cases hh : hasH H q
        · rfl
        · exact absurd ((hasH_iff H q).1 hh) (he ▸ hK.1)
      refine ⟨0, by simp, ?_, ?_, ?_⟩
      · show (x.2 :: HM H).findIdx? _ = _
        rw [List.findIdx?_cons, if_pos hs]
      · show some x.2 = some (getH (x :: H) q)
        unfold getH
        rw [List.find?_cons, hb]
        rfl
      · show HM H = HM (delH (x :: H) q)
        have : delH (x :: H) q = delH H q := by unfold delH; rw [List.filter_cons, hb]; rfl
        rw [this, delH_not hno]
    · have hb : (x.1 == q) = false := by simpa using he
      have hs : ¬ (x.2.seq == q) = true := by rw [← hx, hb]; simp
      have h2 : hasH H q = true := by
        unfold hasH at h ⊢
        rw [List.any_cons, hb] at h
        simpa using h
      obtain ⟨i, hi, h3, h4, h5⟩ := ih q (fun y hy => hk y (List.mem_cons_of_mem _ hy)) hK.2 h2
      refine ⟨i + 1, by simp; omega, ?_, ?_, ?_⟩
      · show (x.2 :: HM H).findIdx? _ = _
        rw [List.findIdx?_cons, if_neg hs, h3]
        rfl
      · show (HM H)[i]? = some (getH (x :: H) q)
        rw [h4]
        unfold getH
        rw [List.find?_cons, hb]
      · show x.2 :: ((HM H).take i ++ (HM H).drop (i + 1)) = HM (delH (x :: H) q)
        have : delH (x :: H) q = x :: delH H q := by unfold delH; rw [List.filter_cons, hb]; rfl
        rw [this, h5]
        rfl
theorem HM_some {H : Hel} {q : Nat} (hk : KeyOk H) (hK : Keys H) (h : hasH H q = true) : ∃ i, i < H.length ∧ findJ (HM H) q = (i : Int) ∧ (HM H)[i]? = some (getH H q) ∧ (HM H).take i ++ (HM H).drop (i + 1) = HM (delH H q) := by
  obtain ⟨i, h1, h2, h3, h4⟩ := HM_idx H q hk hK h
  exact ⟨i, h1, by unfold findJ; rw [h2], h3, h4⟩
theorem HM_len (H : Hel) : (HM H).length = H.length := by unfold HM; simp
def RTP (w : World) (z : Int) (P : Nat × Hel × List Msg) (kd : Int) (v : Value) (e : Ending) (w' : World) : Prop := ∃ v' o, (v' = v ∨ ∀ p m c, v' = .slice (some p) m c → w.heap.size ≤ p.block ∧ p.block < w'.heap.size) ∧
  e = .returned (.tuple #[.agg #[.int .i64 z, .int .u32 (P.1 : Int), v'], o, .int .i64 kd]) ∧ RowsAt w' v' (HM P.2.1) ∧ RowsAt w' o P.2.2 ∧ (∀ p m c, o = .slice (some p) m c → w.heap.size ≤ p.block ∧ p.block < w'.heap.size) ∧ Below w.heap.size w w'
def RTakePost (w : World) (z : Int) (c : Nat) (H : Hel) (v : Value) (m : Msg) (e : Ending) (w' : World) : Prop := RTP w z (takeS z c H m) (codeS z c H m) v e w'
/-- the way out: the first block is read, the third one written -/
theorem ref_ret3 {w W w9 : World} {a b d : Value} (q0 : W.heap[w.heap.size]? = some (.cells #[a, b, d] 29)) (q1 : W.heap[w.heap.size + 1 + 1]? = some (.cells #[.int .i64 0, .int .u32 0, .slice none 0 0] 29)) (fb : Below w.heap.size w W) (hb9 : Below W.heap.size W w9) :
    (w9.cell? ⟨w.heap.size, 0, none⟩ = some a ∧ w9.cell? ⟨w.heap.size, 1, none⟩ = some b ∧ w9.cell? ⟨w.heap.size, 2, none⟩ = some d ∧ w9.cell? ⟨w.heap.size + 1 + 1, 0, none⟩ = some (.int .i64 0) ∧ w9.cell? ⟨w.heap.size + 1 + 1, 1, none⟩ = some (.int .u32 0) ∧ w9.cell? ⟨w.heap.size + 1 + 1, 2, none⟩ = some (.slice none 0 0) ∧
      w9.frozen? ⟨w.heap.size + 1 + 1, 0, none⟩ = false ∧ w9.frozen? ⟨w.heap.size + 1 + 1, 1, none⟩ = false ∧ w9.frozen? ⟨w.heap.size + 1 + 1, 2, none⟩ = false) ∧
    ((((w9.setCell ⟨w.heap.size + 1 + 1, 0, none⟩ a).setCell ⟨w.heap.size + 1 + 1, 1, none⟩ b).setCell ⟨w.heap.size + 1 + 1, 2, none⟩ d).cell? ⟨w.heap.size + 1 + 1, 0, none⟩ = some a ∧
     (((w9.setCell ⟨w.heap.size + 1 + 1, 0, none⟩ a).setCell ⟨w.heap.size + 1 + 1, 1, none⟩ b).setCell ⟨w.heap.size + 1 + 1, 2, none⟩ d).cell? ⟨w.heap.size + 1 + 1, 1, none⟩ = some b ∧
     (((w9.setCell ⟨w.heap.size + 1 + 1, 0, none⟩ a).setCell ⟨w.heap.size + 1 + 1, 1, none⟩ b).setCell ⟨w.heap.size + 1 + 1, 2, none⟩ d).cell? ⟨w.heap.size + 1 + 1, 2, none⟩ = some d) ∧
    Kept (fun k => k = w.heap.size + 1 + 1) w9 (((w9.setCell ⟨w.heap.size + 1 + 1, 0, none⟩ a).setCell ⟨w.heap.size + 1 + 1, 1, none⟩ b).setCell ⟨w.heap.size + 1 + 1, 2, none⟩ d) ∧
    Below w.heap.size w (((w9.setCell ⟨w.heap.size + 1 + 1, 0, none⟩ a).setCell ⟨w.heap.size + 1 + 1, 1, none⟩ b).setCell ⟨w.heap.size + 1 + 1, 2, none⟩ d) := by
  have e0 := (hb9.block _ (Array.getElem?_eq_some_iff.1 q0).1).trans q0
  have e1 := (hb9.block _ (Array.getElem?_eq_some_iff.1 q1).1).trans q1
  have kk := setCell_block (setCell_block (setCell_block e1 0 a) 1 b) 2 d
  have hk : Kept (fun k => k = w.heap.size + 1 + 1) w9 (((w9.setCell ⟨w.heap.size + 1 + 1, 0, none⟩ a).setCell ⟨w.heap.size + 1 + 1, 1, none⟩ b).setCell ⟨w.heap.size + 1 + 1, 2, none⟩ d) :=
    (((show Kept (fun k => k = w.heap.size + 1 + 1) w9 w9 from Kept.of_below (br w9)).setCell (p := ⟨w.heap.size + 1 + 1, 0, none⟩) rfl _).setCell (p := ⟨w.heap.size + 1 + 1, 1, none⟩) rfl _).setCell (p := ⟨w.heap.size + 1 + 1, 2, none⟩) rfl _
  have hbw := bt fb hb9
  exact ⟨⟨cell_of_row _ _ 0 _ _ _ e0, cell_of_row _ _ 1 _ _ _ e0, cell_of_row _ _ 2 _ _ _ e0, cell_of_row _ _ 0 _ _ _ e1, cell_of_row _ _ 1 _ _ _ e1, cell_of_row _ _ 2 _ _ _ e1, frozen_of_row _ _ _ _ _ e1, frozen_of_row _ _ _ _ _ e1, frozen_of_row _ _ _ _ _ e1⟩,
    ⟨cell_of_row _ _ 0 _ _ _ kk, cell_of_row _ _ 1 _ _ _ kk, cell_of_row _ _ 2 _ _ _ kk⟩, hk, hk.out hbw hbw.size (by intro k hk; omega)⟩
theorem alloc3S (w : World) (A B C : Obj) : (((w.alloc A).alloc B).alloc C).heap[w.heap.size]? = some A ∧ (((w.alloc A).alloc B).alloc C).heap[w.heap.size + 1]? = some B ∧ (((w.alloc A).alloc B).alloc C).heap[w.heap.size + 1 + 1]? = some C := by
  have h0 := heap_alloc2_old w A B
  have h1 := heap_alloc2_new w A B
  have h2 := heap_alloc_new ((w.alloc A).alloc B) C
  refine ⟨(Below.heap_alloc _ C _ (Array.getElem?_eq_some_iff.1 h0).1).trans h0, (Below.heap_alloc _ C _ (Array.getElem?_eq_some_iff.1 h1).1).trans h1, ?_⟩
  simpa using h2
theorem Reads.takeS {w : World} {B size n : Nat} {A : Option Addr} {xs : List Value} (h : Reads w B size A n xs) {k : Nat} (hk : k ≤ n) : Reads w B size A k (xs.take (k * size)) := by
  have hl : k * size ≤ n * size := Nat.mul_le_mul_right _ hk
  refine ⟨by rw [List.length_take, h.1]; omega, fun hn => ?_⟩
  obtain ⟨ad, rfl, hb, hcell⟩ := h.2 (by omega)
  refine ⟨ad, rfl, hb, fun j u hu => hcell j u ?_⟩
  rw [List.getElem?_take] at hu
  split at hu
  · exact hu
  · cases hu
theorem rowsM_lenS (A : List Msg) : (rowsM A).length = A.length * 6 := by
  unfold rowsM
  induction A with
  | nil => rfl
  | cons x A ih => rw [List.flatMap_cons, List.length_append, ih, List.length_cons]; show 6 + _ = _; omega
theorem rowsM_splitS (A : List Msg) (i : Nat) : rowsM A = rowsM (A.take i) ++ rowsM (A.drop i) := by unfold rowsM; rw [← List.flatMap_append, List.take_append_drop]
theorem rowsM_takeS (A : List Msg) (i : Nat) (h : i ≤ A.length) : (rowsM A).take (i * 6) = rowsM (A.take i) := by
  rw [rowsM_splitS A i]
  exact List.take_left' (by rw [rowsM_lenS, List.length_take]; omega)
theorem rowsM_dropS (A : List Msg) (i : Nat) (h : i ≤ A.length) : (rowsM A).drop (i * 6) = rowsM (A.drop i) := by
  rw [rowsM_splitS A i]
  exact List.drop_left' (by rw [rowsM_lenS, List.length_take]; omega)
theorem ownFar {w : World} {base : Nat} {e : TypeId} {size n : Nat} {v : Value} {xs : List Value} (h : w.ownsRow base e size v n xs) : ∀ p m c, v = .slice (some p) m c → base ≤ p.block ∧ p.block < w.heap.size := by
  intro p m c e
  rcases h.2 with ⟨e2, _⟩ | ⟨g, _, _, e2, hg0, hg1, _⟩
  · rw [e2] at e
    cases e
  · rw [e2] at e
    injection e with e
    injection e with e
    subst e
    exact ⟨hg0, (Array.getElem?_eq_some_iff.1 hg1).1⟩
def heldLen (w : World) (A : Nat) : Nat := match w.cell? ⟨A, 2, none⟩ with | some (.slice _ n _) => n | _ => 0
set_option maxRecDepth 100000 in
set_option maxHeartbeats 4000000 in
theorem refTakeS_any (z : Int) (c : Nat) (v : Value) (H : Hel) (m : Msg) (w : World) (h : RowsAt w v (HM H)) (hk : KeyOk H) (hK : Keys H) (hH : H.length ≤ 900) (hc : c ≤ 1000000) (hz : 1 ≤ z ∧ z ≤ 64) (hm : m.seq < 4294967296) :
    Calls Try.prog 18 #[.agg #[.int .i64 z, .int .u32 (c : Int), v], .agg (msgA m)] w (RTakePost w z c H v m) := by
  have HF := Lib.hid (show ∀ (W : World) (q : Nat), Below w.heap.size w W → Calls Try.prog 40 #[.agg #[.int .i64 z, .int .u32 (c : Int), v], .int .u32 (q : Int)] W fun e w' => e = .returned (.int .i64 (findJ (HM H) q)) ∧ Below W.heap.size W w' from fun W q hb => refFindS_any z c q v (HM H) W (h.below hb) (by rw [HM_len]; omega))
  show Calls Try.prog 18 #[.agg #[.int .i64 z, .int .u32 (c : Int), v], .agg (msgA m)] w (RTP w z (takeS z c H m) (codeS z c H m) v)
  obtain ⟨P, hP0⟩ : ∃ P, P = takeS z c H m := ⟨_, rfl⟩
  obtain ⟨kd, hkd⟩ : ∃ kd, kd = codeS z c H m := ⟨_, rfl⟩
  rw [← hP0, ← hkd]
  have HP := Lib.hid (show ∀ (W' : World) (k : Int), kd = k → k ≠ 0 → Below w.heap.size w W' → RTP w z P kd v (.returned (.tuple #[.agg #[.int .i64 z, .int .u32 (c : Int), v], .slice none 0 0, .int .i64 k])) W' from fun W' k e h0 hb => by
    rw [hP0]
    unfold takeS
    rw [← hkd, e, if_neg h0]
    exact ⟨_, _, .inl rfl, rfl, h.below hb, RowsAt.nil _, (fun p m c e => by cases e), hb⟩)
  have HP0 := Lib.hid hP0
  clear hP0
  have HR := Lib.hid h
  obtain ⟨ad, cap, rfl, hcap1, hcap2, hrd⟩ := id h
  have HD := Lib.hid (And.intro hcap1 (And.intro hcap2 hrd))
  have hlen := HM_len H
  rw [hlen]
  rw [hlen] at HF HP HR
  have k1 : (msgA m)[1]? = some (.int .u32 (m.seq : Int)) := rfl
  have hxl : (msgA m).toList.length = 6 := rfl
  have hx1 := msgA_one m
  have hcd : kd = if m.seq = 0 then 1 else if m.seq ≤ c ∨ hasH H m.seq = true then 12 else if (c : Int) + z < (m.seq : Int) then 6 else 0 := hkd
  obtain ⟨X, hX⟩ : ∃ X, X = msgA m := ⟨_, rfl⟩
  rw [← hX] at k1 hxl hx1 ⊢
  have HX := Lib.hid hX
  clear hX h hcap1 hcap2 hrd
  obtain ⟨f0, f1, f2⟩ := alloc3S w (.cells #[.int .i64 z, .int .u32 (c : Int), .slice ad H.length cap] 29) (.cells X 37) (.cells #[.int .i64 0, .int .u32 0, .slice none 0 0] 29)
  have fb := ba (ba (ba (br w) (.cells #[.int .i64 z, .int .u32 (c : Int), .slice ad H.length cap] 29)) (.cells X 37)) (.cells #[.int .i64 0, .int .u32 0, .slice none 0 0] 29)
  have FF := Lib.hid (And.intro f0 (And.intro f1 (And.intro f2 fb)))
  clear f0 f1 f2 fb
  have HCD := Lib.hid hcd
  have HKD := Lib.hid hkd
  clear hcd hkd
  go_enter Try.func18, Try.ntmps18
  go_upto_region 1 with (fail)
  generalize ((w.alloc (.cells #[.int .i64 z, .int .u32 (c : Int), .slice ad H.length cap] 29)).alloc (.cells X 37)).alloc (.cells #[.int .i64 0, .int .u32 0, .slice none 0 0] 29) = W at *
  have a0 : W.cell? ⟨w.heap.size, 0, none⟩ = some (.int .i64 z) := cell_of_row _ _ 0 _ _ _ FF.out.1
  have a1 : W.cell? ⟨w.heap.size, 1, none⟩ = some (.int .u32 (c : Int)) := cell_of_row _ _ 1 _ _ _ FF.out.1
  have a2 : W.cell? ⟨w.heap.size, 2, none⟩ = some (.slice ad H.length cap) := cell_of_row _ _ 2 _ _ _ FF.out.1
  have b1 : W.cell? ⟨w.heap.size + 1, 1, none⟩ = some (.int .u32 (m.seq : Int)) := (cell_of_row _ _ 1 _ _ _ FF.out.2.1).trans k1
  clear k1
  by_cases h1 : m.seq = 0
  · have d1 : ((m.seq : Int) == 0) = true := by simp; omega
    have hcode : kd = 1 := by rw [HCD.out, if_pos h1]
    obtain ⟨⟨c0, c1, c2, c3, c4, c5, c6, c7, c8⟩, ⟨r0, r1, r2⟩, _, hbe⟩ := ref_ret3 FF.out.1 FF.out.2.2.1 FF.out.2.2.2 (br W)
    have RR := Lib.hid (And.intro r0 (And.intro r1 (And.intro r2 (And.intro hbe hcode))))
    clear r0 r1 r2 hbe hcode
    go_wp2
    refine bodyPost_ret (v := .tuple #[.agg #[.int .i64 z, .int .u32 (c : Int), .slice ad H.length cap], .slice none 0 0, .int .i64 1]) (by simp [results, Try.results18, go_sem, RR.out.1, RR.out.2.1, RR.out.2.2.1]) rfl (HP.out _ 1 RR.out.2.2.2.2 (by omega) RR.out.2.2.2.1)
  have d1 : ((m.seq : Int) == 0) = false := by simp; omega
  by_cases h2 : m.seq ≤ c
  · have d2 : decide ((m.seq : Int) ≤ (c : Int)) = true := by simp; omega
    have d2' : decide (m.seq ≤ c) = true := by simp; omega
    have hcode : kd = 12 := by rw [HCD.out, if_neg h1, if_pos (.inl h2)]
    obtain ⟨⟨c0, c1, c2, c3, c4, c5, c6, c7, c8⟩, ⟨r0, r1, r2⟩, _, hbe⟩ := ref_ret3 FF.out.1 FF.out.2.2.1 FF.out.2.2.2 (br W)
    have RR := Lib.hid (And.intro r0 (And.intro r1 (And.intro r2 (And.intro hbe hcode))))
    clear r0 r1 r2 hbe hcode
    go_wp2
    refine bodyPost_ret (v := .tuple #[.agg #[.int .i64 z, .int .u32 (c : Int), .slice ad H.length cap], .slice none 0 0, .int .i64 12]) (by simp [results, Try.results18, go_sem, RR.out.1, RR.out.2.1, RR.out.2.2.1]) rfl (HP.out _ 12 RR.out.2.2.2.2 (by omega) RR.out.2.2.2.1)
  have d2 : decide ((m.seq : Int) ≤ (c : Int)) = false := by simp; omega
  have d2' : decide (m.seq ≤ c) = false := by simp; omega
  go_wp2_with fail
  refine (HF.out _ m.seq FF.out.2.2.2).mono ?_
  rintro e w5 ⟨rfl, hb5⟩
  cases hh : hasH H m.seq
  case true =>
    obtain ⟨i, hi, hfi, _⟩ := HM_some hk hK hh
    have d3 : decide ((0 : Int) ≤ (i : Int)) = true := by simp
    have hcode : kd = 12 := by rw [HCD.out, if_neg h1, if_pos (.inr hh)]
    obtain ⟨⟨c0, c1, c2, c3, c4, c5, c6, c7, c8⟩, ⟨r0, r1, r2⟩, _, hbe⟩ := ref_ret3 FF.out.1 FF.out.2.2.1 FF.out.2.2.2 hb5
    have RR := Lib.hid (And.intro r0 (And.intro r1 (And.intro r2 (And.intro hbe hcode))))
    rw [hfi]
    clear r0 r1 r2 hbe hcode
    go_wp2
    refine bodyPost_ret (v := .tuple #[.agg #[.int .i64 z, .int .u32 (c : Int), .slice ad H.length cap], .slice none 0 0, .int .i64 12]) (by simp [results, Try.results18, go_sem, RR.out.1, RR.out.2.1, RR.out.2.2.1]) rfl (HP.out _ 12 RR.out.2.2.2.2 (by omega) RR.out.2.2.2.1)
  case false =>
    rw [HM_none hk hh]
    have g0 := (hb5.block _ (Array.getElem?_eq_some_iff.1 FF.out.1).1).trans FF.out.1
    have g1 := (hb5.block _ (Array.getElem?_eq_some_iff.1 FF.out.2.1).1).trans FF.out.2.1
    have g2 := (hb5.block _ (Array.getElem?_eq_some_iff.1 FF.out.2.2.1).1).trans FF.out.2.2.1
    have hbw5 := bt FF.out.2.2.2 hb5
    clear a0 a1 a2
    have a0 : w5.cell? ⟨w.heap.size, 0, none⟩ = some (.int .i64 z) := cell_of_row _ _ 0 _ _ _ g0
    have a1 : w5.cell? ⟨w.heap.size, 1, none⟩ = some (.int .u32 (c : Int)) := cell_of_row _ _ 1 _ _ _ g0
    have a2 : w5.cell? ⟨w.heap.size, 2, none⟩ = some (.slice ad H.length cap) := cell_of_row _ _ 2 _ _ _ g0
    have b15 : w5.cell? ⟨w.heap.size + 1, 1, none⟩ = some (.int .u32 (m.seq : Int)) := (hb5.cell (p := ⟨w.heap.size + 1, 1, none⟩) (Array.getElem?_eq_some_iff.1 FF.out.2.1).1).trans b1
    clear b1
    by_cases h3 : (c : Int) + z < (m.seq : Int)
    · have d3 : decide ((c : Int) + z < (m.seq : Int)) = true := by simpa using h3
      have hcode : kd = 6 := by rw [HCD.out, if_neg h1, if_neg (by rw [hh]; simp; omega), if_pos h3]
      obtain ⟨⟨c0, c1, c2, c3, c4, c5, c6, c7, c8⟩, ⟨r0, r1, r2⟩, _, hbe⟩ := ref_ret3 FF.out.1 FF.out.2.2.1 FF.out.2.2.2 hb5
      have RR := Lib.hid (And.intro r0 (And.intro r1 (And.intro r2 (And.intro hbe hcode))))
      clear r0 r1 r2 hbe hcode
      go_wp2
      refine bodyPost_ret (v := .tuple #[.agg #[.int .i64 z, .int .u32 (c : Int), .slice ad H.length cap], .slice none 0 0, .int .i64 6]) (by simp [results, Try.results18, go_sem, RR.out.1, RR.out.2.1, RR.out.2.2.1]) rfl (HP.out _ 6 RR.out.2.2.2.2 (by omega) RR.out.2.2.2.1)
    have d3 : decide ((c : Int) + z < (m.seq : Int)) = false := by simpa using h3
    have hcode : kd = 0 := by rw [HCD.out, if_neg h1, if_neg (by rw [hh]; simp; omega), if_neg h3]
    have GG0 := Lib.hid (And.intro hcode (And.intro g0 (And.intro g1 (And.intro g2 hbw5))))
    clear hcode
    go_upto_region 7 with (fail)
    go_cut [] (fun wx => ∃ v8, wx.heap[w.heap.size]? = some (.cells #[.int .i64 z, .int .u32 (c : Int), v8] 29) ∧ wx.heap[w.heap.size + 1 + 1]? = some (.cells #[.int .i64 0, .int .u32 0, .slice none 0 0] 29) ∧ wx.ownsRow (w.heap.size + 3) 37 6 v8 (H.length + 1) (rowsM (HM H) ++ X.toList) ∧ Below w.heap.size w wx)
    case first =>
      have hS : ∀ w', Below w5.heap.size w5 w' → w'.cell? ⟨w.heap.size, 2, none⟩ = some (.slice ad H.length cap) ∧ w'.rangeAt (w.heap.size + 1) 0 X.toList := by
        intro w' hb
        have e0 := (hb.block _ (Array.getElem?_eq_some_iff.1 g0).1).trans g0
        have e1 := (hb.block _ (Array.getElem?_eq_some_iff.1 g1).1).trans g1
        exact ⟨cell_of_row _ _ 2 _ _ _ e0, fun j u hu => (cell_of_row _ _ _ _ _ _ e1).trans (by simpa using hu)⟩
      refine wp_region_mask (fun w' => w'.cell? ⟨w.heap.size, 2, none⟩ = some (.slice ad H.length cap) ∧ w'.rangeAt (w.heap.size + 1) 0 X.toList) 8 6 [false, true, true, false, true, false, false, false, false] #[false, true, true, false, true, false, false, false, false] (by kernel_rfl) (by kernel_rfl) (by kernel_rfl) (hS _ (br w5).drew) ?_
      have GG2 : w5.drew.heap[w.heap.size]? = some (.cells #[.int .i64 z, .int .u32 (c : Int), .slice ad H.length cap] 29) ∧ w5.drew.heap[w.heap.size + 1 + 1]? = some (.cells #[.int .i64 0, .int .u32 0, .slice none 0 0] 29) ∧ Below w.heap.size w w5.drew := ⟨g0, g2, hbw5.drew⟩
      have HS2 := Lib.hid (show ∀ w', Below w5.drew.heap.size w5.drew w' → _ from fun w' hb => hS w' ⟨hb.os, hb.tape, hb.output, hb.size, hb.block⟩)
      clear hS GG0 g0 g1 g2 hbw5 hb5 a0 a1 a2 b15
      generalize w5.drew = W5 at *
      have GG := Lib.hid GG2
      clear GG2
      have HE := Lib.hid (show ∀ v8 w8, w8.ownsRow W5.heap.size 37 6 v8 (H.length + 1) (rowsM (HM H) ++ X.toList) → Below W5.heap.size W5 w8 → ∃ v8', (w8.setCell ⟨w.heap.size, 2, none⟩ v8).heap[w.heap.size]? = some (.cells #[.int .i64 z, .int .u32 (c : Int), v8'] 29) ∧ (w8.setCell ⟨w.heap.size, 2, none⟩ v8).heap[w.heap.size + 1 + 1]? = some (.cells #[.int .i64 0, .int .u32 0, .slice none 0 0] 29) ∧ (w8.setCell ⟨w.heap.size, 2, none⟩ v8).ownsRow (w.heap.size + 3) 37 6 v8' (H.length + 1) (rowsM (HM H) ++ X.toList) ∧ Below w.heap.size w (w8.setCell ⟨w.heap.size, 2, none⟩ v8) from fun v8 w8 ho8 hb8 => by
        have hlt1 := (Array.getElem?_eq_some_iff.1 GG.out.1).1
        have hlt2 := (Array.getElem?_eq_some_iff.1 GG.out.2.1).1
        have e1 := (hb8.block _ hlt1).trans GG.out.1
        have e2 := (hb8.block _ hlt2).trans GG.out.2.1
        have hk : Kept (fun k => k = w.heap.size) w8 (w8.setCell ⟨w.heap.size, 2, none⟩ v8) := (show Kept (fun k => k = w.heap.size) w8 w8 from Kept.of_below (br w8)).setCell (p := ⟨w.heap.size, 2, none⟩) rfl v8
        refine ⟨v8, setCell_block e1 2 v8, (hk.block _ (Array.getElem?_eq_some_iff.1 e2).1 (by omega)).trans e2, ?_, hk.out (bt GG.out.2.2 hb8) (bt GG.out.2.2 hb8).size (by intro k hk; omega)⟩
        have hbs := GG.out.2.2.size
        refine ownMore (ownKept ho8 hk ?_) (by omega)
        intro b hb
        have := (ho8.lt b hb).1
        omega)
      refine wpMask_skip ?_
      refine wpMask_take _ (Or.inl ⟨by rfl, fun w' hS => by (try dsimp only at hS); go_simp; try with_reducible rfl⟩) ?_
      simp only [Act.put, List.setIfInBounds_toArray, List.set_cons_zero, List.set_cons_succ]
      refine wpMask_take _ (Or.inl ⟨by rfl, fun w' hS => by (try dsimp only at hS); go_simp; try with_reducible rfl⟩) ?_
      simp only [Act.put, List.setIfInBounds_toArray, List.set_cons_zero, List.set_cons_succ]
      refine wpMask_skip ?_
      refine wpMask_take _ (yieldsIf_load_mid (by rfl) 37 (.tmp 3) rfl (w.heap.size + 1) 0 rfl X.toList _ (fun w' hS => hS.2) Try.underlying37 rfl (by rw [hxl]; kernel_rfl)) ?_
      have hXl : X.toList.toArray = X := by simp
      simp only [Act.put, List.setIfInBounds_toArray, List.set_cons_zero, List.set_cons_succ]
      refine wpMask_skip (wpMask_skip (wpMask_skip (wpMask_skip (wpMask_nil ?_))))
      obtain ⟨i0, hi, hz0, hz1, hz2⟩ := info_parts info37
      have hone := rowsM_one (HM H)
      have hrd : Reads w w.heap.size 6 ad H.length (rowsM (HM H)) := by have := HD.out.2.2; rwa [hlen] at this
      have HRD := Lib.hid hrd
      clear hrd
      have hb5 := br W5
      have hXs : i0.size = X.size := hz1.trans (by simpa using hxl.symm)
      refine wpAnyS_ready (rs := [0, 5]) (by kernel_rfl) (by simp) ?_
      refine AllReadyS.cons rfl (fun K hK => ?_) ?_
      · -- the empty slice first
        go_simp
        refine hK.out _ _ (fun _ => HS2.out _ (ba hb5 _)) ?_
        clear hK K
        simp only [Act.put, List.setIfInBounds_toArray, List.set_cons_zero, List.set_cons_succ]
        have own1 := ownNil W5 W5.heap.size 37 6 hb5.size
        have hb1 := ba hb5 (.cells #[] 37)
        refine wpAnyS_ready (rs := [3, 5]) (by kernel_rfl) (by simp) ?_
        refine AllReadyS.cons rfl (fun K hK => ?_) ?_
        · -- the first append next
          refine step_append_any _ rfl (.tmp 37) (.tmp 39) 22 rfl W5.heap.size 37 i0 _ 6 72 Try.underlying22 hi hz0 hz1 hz2 rfl (by decide) _ 0 [] rfl own1 w.heap.size ad H.length cap (rowsM (HM H)) rfl (HRD.out.below (bt GG.out.2.2 hb1)) hone (by unfold maxLen; omega) (by omega) hb1.size ?_
          intro v6 w6 ho6 hg6 hu6
          have hb6 := grownB hb1 hb1.size hg6 (fun b hb => (own1.lt b hb).1)
          refine hK.out _ _ (fun _ => HS2.out _ hb6) ?_
          clear hK K
          simp only [Act.put, List.setIfInBounds_toArray, List.set_cons_zero, List.set_cons_succ]
          refine wpAnyS_ready (rs := [5]) (by kernel_rfl) (by simp) ?_
          refine AllReadyS.cons rfl (fun K hK => ?_) ?_
          · -- the second slice
            refine step_buildSlice_row rfl 22 (.tmp 41) rfl 37 i0 _ Try.underlying22 hi hz0 X rfl hXs (by omega) (by omega) ?_
            refine hK.out _ _ (fun _ => HS2.out _ (ba hb6 _)) ?_
            clear hK K
            simp only [Act.put, List.setIfInBounds_toArray, List.set_cons_zero, List.set_cons_succ]
            have ownX := ownOne w6 W5.heap.size 37 X 6 (by simpa using hxl) hb6.size
            have hb7 := ba hb6 (.cells X 37)
            refine wpAnyS_ready (rs := [6]) (by kernel_rfl) (by simp) ?_
            refine AllReadyS.cons rfl (fun K hK => ?_) ?_
            · -- the second append
              refine step_append_any _ rfl (.tmp 40) (.tmp 42) 22 rfl W5.heap.size 37 i0 _ 6 72 Try.underlying22 hi hz0 hz1 hz2 rfl (by decide) _ (0 + H.length) ([] ++ rowsM (HM H)) rfl (ho6.alloc _) _ _ 1 1 X.toList rfl (Reads.of_own ownX) hx1 (by unfold maxLen; omega) (by omega) hb7.size ?_
              intro v8 w8 ho8 hg8 hu8
              have hb8 := grownB hb7 hb7.size hg8 (fun b hb => (ho6.lt b hb).1)
              refine hK.out _ _ (fun _ => HS2.out _ hb8) ?_
              clear hK K
              simp only [Act.put, List.setIfInBounds_toArray, List.set_cons_zero, List.set_cons_succ]
              rw [List.nil_append, Nat.zero_add] at ho8
              obtain ⟨ad8, cap8, rfl⟩ := ownForm ho8
              have c8 := (HS2.out _ hb8).1
              have f8 : w8.frozen? ⟨w.heap.size, 2, none⟩ = false := frozen_of_row _ _ _ _ _ ((hb8.block _ (Array.getElem?_eq_some_iff.1 GG.out.1).1).trans GG.out.1)
              have hE := HE.out _ _ ho8 hb8
              refine wpAnyS_ready (rs := [7]) (by kernel_rfl) (by simp) ?_
              refine AllReadyS.cons rfl (fun K hK => ?_) ?_
              · go_simp
                refine hK.out _ _ (fun _ => HS2.out _ hb8) ?_
                clear hK K
                simp only [Act.put, List.setIfInBounds_toArray, List.set_cons_zero, List.set_cons_succ]
                refine wpAnyS_ready (rs := [8]) (by kernel_rfl) (by simp) ?_
                refine AllReadyS.cons rfl (fun K hK => ?_) ?_
                · go_simp
                  refine hK.out _ _ (fun h => absurd h (by omega)) ?_
                  clear hK K
                  simp only [Act.put, List.setIfInBounds_toArray, List.set_cons_zero, List.set_cons_succ]
                  refine wpAnyS_done (by kernel_rfl) ?_ _
                  go_wp2
                  go_meet
                  exact hE
                · exact AllReadyS.nil
              · exact AllReadyS.nil
            · exact AllReadyS.nil
          · exact AllReadyS.nil
        refine AllReadyS.cons rfl (fun K hK => ?_) ?_
        · -- the second slice next
          refine step_buildSlice_row rfl 22 (.tmp 41) rfl 37 i0 _ Try.underlying22 hi hz0 X rfl hXs (by omega) (by omega) ?_
          refine hK.out _ _ (fun _ => HS2.out _ (ba hb1 _)) ?_
          clear hK K
          simp only [Act.put, List.setIfInBounds_toArray, List.set_cons_zero, List.set_cons_succ]
          have ownX := ownOne _ W5.heap.size 37 X 6 (by simpa using hxl) hb1.size
          have hb7 := ba hb1 (.cells X 37)
          refine wpAnyS_ready (rs := [3]) (by kernel_rfl) (by simp) ?_
          refine AllReadyS.cons rfl (fun K hK => ?_) ?_
          · -- the first append
            refine step_append_any _ rfl (.tmp 37) (.tmp 39) 22 rfl W5.heap.size 37 i0 _ 6 72 Try.underlying22 hi hz0 hz1 hz2 rfl (by decide) _ 0 [] rfl (own1.alloc _) w.heap.size ad H.length cap (rowsM (HM H)) rfl (HRD.out.below (bt GG.out.2.2 hb7)) hone (by unfold maxLen; omega) (by omega) hb7.size ?_
            intro v6 w6 ho6 hg6 hu6
            have hb6 := grownB hb7 hb7.size hg6 (fun b hb => (own1.lt b hb).1)
            refine hK.out _ _ (fun _ => HS2.out _ hb6) ?_
            clear hK K
            simp only [Act.put, List.setIfInBounds_toArray, List.set_cons_zero, List.set_cons_succ]
            have ownX6 := ownX.kept hg6 (.inr (fun e => by
                have e2 := Option.some.inj (show some (W5.alloc (.cells #[] 37)).heap.size = some W5.heap.size from e)
                simp at e2))
            refine wpAnyS_ready (rs := [6]) (by kernel_rfl) (by simp) ?_
            refine AllReadyS.cons rfl (fun K hK => ?_) ?_
            · -- the second append
              refine step_append_any _ rfl (.tmp 40) (.tmp 42) 22 rfl W5.heap.size 37 i0 _ 6 72 Try.underlying22 hi hz0 hz1 hz2 rfl (by decide) _ (0 + H.length) ([] ++ rowsM (HM H)) rfl ho6 _ _ 1 1 X.toList rfl (Reads.of_own ownX6) hx1 (by unfold maxLen; omega) (by omega) hb6.size ?_
              intro v8 w8 ho8 hg8 hu8
              have hb8 := grownB hb6 hb6.size hg8 (fun b hb => (ho6.lt b hb).1)
              refine hK.out _ _ (fun _ => HS2.out _ hb8) ?_
              clear hK K
              simp only [Act.put, List.setIfInBounds_toArray, List.set_cons_zero, List.set_cons_succ]
              rw [List.nil_append, Nat.zero_add] at ho8
              obtain ⟨ad8, cap8, rfl⟩ := ownForm ho8
              have c8 := (HS2.out _ hb8).1
              have f8 : w8.frozen? ⟨w.heap.size, 2, none⟩ = false := frozen_of_row _ _ _ _ _ ((hb8.block _ (Array.getElem?_eq_some_iff.1 GG.out.1).1).trans GG.out.1)
              have hE := HE.out _ _ ho8 hb8
              refine wpAnyS_ready (rs := [7]) (by kernel_rfl) (by simp) ?_
              refine AllReadyS.cons rfl (fun K hK => ?_) ?_
              · go_simp
                refine hK.out _ _ (fun _ => HS2.out _ hb8) ?_
                clear hK K
                simp only [Act.put, List.setIfInBounds_toArray, List.set_cons_zero, List.set_cons_succ]
                refine wpAnyS_ready (rs := [8]) (by kernel_rfl) (by simp) ?_
                refine AllReadyS.cons rfl (fun K hK => ?_) ?_
                · go_simp
                  refine hK.out _ _ (fun h => absurd h (by omega)) ?_
                  clear hK K
                  simp only [Act.put, List.setIfInBounds_toArray, List.set_cons_zero, List.set_cons_succ]
                  refine wpAnyS_done (by kernel_rfl) ?_ _
                  go_wp2
                  go_meet
                  exact hE
                · exact AllReadyS.nil
              · exact AllReadyS.nil
            · exact AllReadyS.nil
          · exact AllReadyS.nil
        exact AllReadyS.nil
      refine AllReadyS.cons rfl (fun K hK => ?_) ?_
      · -- the second slice first
        refine step_buildSlice_row rfl 22 (.tmp 41) rfl 37 i0 _ Try.underlying22 hi hz0 X rfl hXs (by omega) (by omega) ?_
        refine hK.out _ _ (fun _ => HS2.out _ (ba hb5 _)) ?_
        clear hK K
        simp only [Act.put, List.setIfInBounds_toArray, List.set_cons_zero, List.set_cons_succ]
        have ownX := ownOne W5 W5.heap.size 37 X 6 (by simpa using hxl) hb5.size
        have hb1 := ba hb5 (.cells X 37)
        refine wpAnyS_ready (rs := [0]) (by kernel_rfl) (by simp) ?_
        refine AllReadyS.cons rfl (fun K hK => ?_) ?_
        · -- the empty slice
          go_simp
          refine hK.out _ _ (fun _ => HS2.out _ (ba hb1 _)) ?_
          clear hK K
          simp only [Act.put, List.setIfInBounds_toArray, List.set_cons_zero, List.set_cons_succ]
          have own1 := ownNil _ W5.heap.size 37 6 hb1.size
          rw [show (W5.alloc (.cells X 37)).heap.size = W5.heap.size + 1 by simp] at own1
          have hb7 := ba hb1 (.cells #[] 37)
          refine wpAnyS_ready (rs := [3]) (by kernel_rfl) (by simp) ?_
          refine AllReadyS.cons rfl (fun K hK => ?_) ?_
          · -- the first append
            refine step_append_any _ rfl (.tmp 37) (.tmp 39) 22 rfl W5.heap.size 37 i0 _ 6 72 Try.underlying22 hi hz0 hz1 hz2 rfl (by decide) _ 0 [] rfl own1 w.heap.size ad H.length cap (rowsM (HM H)) rfl (HRD.out.below (bt GG.out.2.2 hb7)) hone (by unfold maxLen; omega) (by omega) hb7.size ?_
            intro v6 w6 ho6 hg6 hu6
            have hb6 := grownB hb7 hb7.size hg6 (fun b hb => (own1.lt b hb).1)
            refine hK.out _ _ (fun _ => HS2.out _ hb6) ?_
            clear hK K
            simp only [Act.put, List.setIfInBounds_toArray, List.set_cons_zero, List.set_cons_succ]
            have ownX6 := (ownX.alloc _).kept hg6 (.inr (fun e => absurd (Option.some.inj (show some W5.heap.size = some (W5.heap.size + 1) from e)) (by omega)))
            refine wpAnyS_ready (rs := [6]) (by kernel_rfl) (by simp) ?_
            refine AllReadyS.cons rfl (fun K hK => ?_) ?_
            · -- the second append
              refine step_append_any _ rfl (.tmp 40) (.tmp 42) 22 rfl W5.heap.size 37 i0 _ 6 72 Try.underlying22 hi hz0 hz1 hz2 rfl (by decide) _ (0 + H.length) ([] ++ rowsM (HM H)) rfl ho6 _ _ 1 1 X.toList rfl (Reads.of_own ownX6) hx1 (by unfold maxLen; omega) (by omega) hb6.size ?_
              intro v8 w8 ho8 hg8 hu8
              have hb8 := grownB hb6 hb6.size hg8 (fun b hb => (ho6.lt b hb).1)
              refine hK.out _ _ (fun _ => HS2.out _ hb8) ?_
              clear hK K
              simp only [Act.put, List.setIfInBounds_toArray, List.set_cons_zero, List.set_cons_succ]
              rw [List.nil_append, Nat.zero_add] at ho8
              obtain ⟨ad8, cap8, rfl⟩ := ownForm ho8
              have c8 := (HS2.out _ hb8).1
              have f8 : w8.frozen? ⟨w.heap.size, 2, none⟩ = false := frozen_of_row _ _ _ _ _ ((hb8.block _ (Array.getElem?_eq_some_iff.1 GG.out.1).1).trans GG.out.1)
              have hE := HE.out _ _ ho8 hb8
              refine wpAnyS_ready (rs := [7]) (by kernel_rfl) (by simp) ?_
              refine AllReadyS.cons rfl (fun K hK => ?_) ?_
              · go_simp
                refine hK.out _ _ (fun _ => HS2.out _ hb8) ?_
                clear hK K
                simp only [Act.put, List.setIfInBounds_toArray, List.set_cons_zero, List.set_cons_succ]
                refine wpAnyS_ready (rs := [8]) (by kernel_rfl) (by simp) ?_
                refine AllReadyS.cons rfl (fun K hK => ?_) ?_
                · go_simp
                  refine hK.out _ _ (fun h => absurd h (by omega)) ?_
                  clear hK K
                  simp only [Act.put, List.setIfInBounds_toArray, List.set_cons_zero, List.set_cons_succ]
                  refine wpAnyS_done (by kernel_rfl) ?_ _
                  go_wp2
                  go_meet
                  exact hE
                · exact AllReadyS.nil
              · exact AllReadyS.nil
            · exact AllReadyS.nil
          · exact AllReadyS.nil
        · exact AllReadyS.nil
      exact AllReadyS.nil
    case rest =>
      obtain ⟨v8, q0, q1, q2, q3⟩ := hcut
      have hP : drainF (H ++ [(m.seq, m)]).length c (H ++ [(m.seq, m)]) [] = P := by
        rw [HP0.out]
        unfold takeS
        rw [if_pos (HKD.out ▸ GG0.out.1)]
        simp
      have hX2 : X = msgA m := HX.out
      have q2' : wc.ownsRow (w.heap.size + 3) 37 6 v8 (HM (H ++ [(m.seq, m)])).length (rowsM (HM (H ++ [(m.seq, m)]))) := by
        have e1 : HM (H ++ [(m.seq, m)]) = HM H ++ [m] := by unfold HM; simp
        rw [e1, rowsM_snoc, ← hX2, List.length_append, HM_len]
        exact q2
      have hH1 : (H ++ [(m.seq, m)]).length ≤ 901 := by simp; omega
      have hcH : c + (H ++ [(m.seq, m)]).length ≤ 1000901 := by omega
      have hK1 := hK.add hh m
      have hk1 := hk.add m
      have hcode := GG0.out.1
      subst hcode
      generalize H ++ [(m.seq, m)] = H1 at *
      have HW := Lib.hid (And.intro hP (And.intro hK1 (And.intro hk1 (And.intro q0 (And.intro q1 (And.intro q2' q3))))))
      clear hP hX2 q0 q1 q2 q2' q3 hK1 hk1 GG0 g0 g1 g2 hbw5 hb5 a0 a1 a2 b15 HF HP HP0 HKD HR HD HCD HX hx1 hxl hk hK hh d1 d2 d2' d3
      obtain ⟨i0, hi, hz0, hz1, hz2⟩ := info_parts info37
      go_wp2
      go_loopw [7] (fun o wr => ∃ (c' : Nat) (H' : Hel) (O : List Msg) (v' : Value), drainF H'.length c' H' O = P ∧ Keys H' ∧ KeyOk H' ∧ H'.length + O.length ≤ 901 ∧ c' + H'.length ≤ 1000901 ∧ wr.heap[w.heap.size]? = some (.cells #[.int .i64 z, .int .u32 (c' : Int), v'] 29) ∧ wr.heap[w.heap.size + 1 + 1]? = some (.cells #[.int .i64 0, .int .u32 0, .slice none 0 0] 29) ∧ wr.ownsRow (w.heap.size + 3) 37 6 v' (HM H').length (rowsM (HM H')) ∧ wr.ownsRow (w.heap.size + 3) 37 6 o O.length (rowsM O) ∧ (∀ b, v'.ownBlock = some b → o.ownBlock ≠ some b) ∧ Below w.heap.size w wr) (fun _ wr => heldLen wr w.heap.size)
      case atStart => exact ⟨c, H1, [], v8, HW.out.1, HW.out.2.1, HW.out.2.2.1, by simpa using hH1, hcH, HW.out.2.2.2.1, HW.out.2.2.2.2.1, HW.out.2.2.2.2.2.1, World.ownsRow_nil _ _ _ _, (by intro b _ h; cases h), HW.out.2.2.2.2.2.2⟩
      case round =>
        obtain ⟨c', H', O, v', hD, hK, hk, hlen1, hcH1, q0, q1, hv, ho, hne, hbr⟩ := hrel
        obtain ⟨adv, capv, rfl⟩ := own_slice hv
        obtain ⟨ado, capo, rfl⟩ := own_slice ho
        have a0 : wr.cell? ⟨w.heap.size, 0, none⟩ = some (.int .i64 z) := cell_of_row _ _ 0 _ _ _ q0
        have a1 : wr.cell? ⟨w.heap.size, 1, none⟩ = some (.int .u32 (c' : Int)) := cell_of_row _ _ 1 _ _ _ q0
        have a2 : wr.cell? ⟨w.heap.size, 2, none⟩ = some (.slice adv (HM H').length capv) := cell_of_row _ _ 2 _ _ _ q0
        have hmeas : heldLen wr w.heap.size = H'.length := by unfold heldLen; rw [a2]; exact HM_len H'
        have hcall : Calls Try.prog 40 #[.agg #[.int .i64 z, .int .u32 (c' : Int), .slice adv (HM H').length capv], .int .u32 ((c' : Int) + 1)] wr fun e w' => e = .returned (.int .i64 (findJ (HM H') (c' + 1))) ∧ Below wr.heap.size wr w' := by
          have := refFindS_any z c' (c' + 1) _ (HM H') wr (RowsAt.of_own hv) (by rw [HM_len]; omega)
          rwa [show ((c' + 1 : Nat) : Int) = (c' : Int) + 1 by omega] at this
        have HQ := Lib.hid (And.intro hD (And.intro hK (And.intro hk (And.intro q0 (And.intro q1 (And.intro hv (And.intro ho (And.intro hne hbr))))))))
        have HC := Lib.hid hcall
        have HME := Lib.hid hmeas
        clear hD hK hk q0 q1 hv ho hne hbr hcall hmeas
        go_wp2_with fail
        refine HC.out.mono ?_
        rintro e w5 ⟨rfl, hb5⟩
        cases hh : hasH H' (c' + 1)
        case false =>
          rw [HM_none HQ.out.2.2.1 hh]
          have hP := HQ.out.1
          rw [drainF_stop hh] at hP
          obtain ⟨⟨y0, y1, y2, y3, y4, y5, y6, y7, y8⟩, ⟨r0, r1, r2⟩, hkk, hbe⟩ := ref_ret3 HQ.out.2.2.2.1 HQ.out.2.2.2.2.1 HQ.out.2.2.2.2.2.2.2.2 hb5
          have RR := Lib.hid (And.intro r0 (And.intro r1 (And.intro r2 (And.intro hkk (And.intro hbe hb5)))))
          clear r0 r1 r2 hkk hbe hb5 a0 a1 a2
          subst hP
          go_wp2
          refine bodyPost_ret (v := .tuple #[.agg #[.int .i64 z, .int .u32 (c' : Int), .slice adv (HM H').length capv], .slice ado O.length capo, .int .i64 0]) (by simp [results, Try.results18, go_sem, RR.out.1, RR.out.2.1, RR.out.2.2.1]) rfl ?_
          have hv9 := ownKept (hown_below HQ.out.2.2.2.2.2.1 RR.out.2.2.2.2.2) RR.out.2.2.2.1 (fun b hb e => by have := (HQ.out.2.2.2.2.2.1.lt b hb).1; omega)
          have ho9 := ownKept (hown_below HQ.out.2.2.2.2.2.2.1 RR.out.2.2.2.2.2) RR.out.2.2.2.1 (fun b hb e => by have := (HQ.out.2.2.2.2.2.2.1.lt b hb).1; omega)
          exact ⟨_, _, .inr (fun q n k e => by have := ownFar hv9 q n k e; omega), rfl, RowsAt.of_own hv9, RowsAt.of_own ho9, (fun q n k e => by have := ownFar ho9 q n k e; omega), RR.out.2.2.2.2.1⟩
        case true =>
          obtain ⟨i, hi9, hfi, hgi, hdi⟩ := HM_some HQ.out.2.2.1 HQ.out.2.1 hh
          rw [hfi]
          have hlm := HM_len H'
          have hil : i < (HM H').length := by omega
          have hii : (i : Int) < ((HM H').length : Int) := by omega
          have hi0' : (0 : Int) ≤ (i : Int) := by omega
          have d5 : decide ((i : Int) < 0) = false := by simp
          have hP := HQ.out.1
          rw [drainF_step HQ.out.2.1 hh] at hP
          obtain ⟨g, rfl, hg, hrow⟩ := own_msg HQ.out.2.2.2.2.2.1 hil
          rw [List.getElem?_eq_getElem hil] at hgi
          have hgi2 := Option.some.inj hgi
          rw [hgi2] at hrow
          generalize getH H' (c' + 1) = x at *
          have HX := Lib.hid (And.intro hP (And.intro hdi hfi))
          have hq0 := (hb5.block _ (Array.getElem?_eq_some_iff.1 HQ.out.2.2.2.1).1).trans HQ.out.2.2.2.1
          have hq1 := (hb5.block _ (Array.getElem?_eq_some_iff.1 HQ.out.2.2.2.2.1).1).trans HQ.out.2.2.2.2.1
          have hv5 := hown_below HQ.out.2.2.2.2.2.1 hb5
          have ho5 := hown_below HQ.out.2.2.2.2.2.2.1 hb5
          have hbw5 := HQ.out.2.2.2.2.2.2.2.2.trans (hb5.mono HQ.out.2.2.2.2.2.2.2.2.size)
          have x0 : w5.cell? ⟨g, i * 6, none⟩ = some (.int .i64 x.frm) := (hb5.cell (p := ⟨g, i * 6, none⟩) hg).trans (hrow 0 _ rfl)
          have x1 : w5.cell? ⟨g, i * 6 + 1, none⟩ = some (.int .u32 (x.seq : Int)) := (hb5.cell (p := ⟨g, i * 6 + 1, none⟩) hg).trans (hrow 1 _ rfl)
          have x2 : w5.cell? ⟨g, i * 6 + 2, none⟩ = some (.int .u64 (x.stamp : Int)) := (hb5.cell (p := ⟨g, i * 6 + 2, none⟩) hg).trans (hrow 2 _ rfl)
          have x3 : w5.cell? ⟨g, i * 6 + 3, none⟩ = some (.int .i64 x.service) := (hb5.cell (p := ⟨g, i * 6 + 3, none⟩) hg).trans (hrow 3 _ rfl)
          have x4 : w5.cell? ⟨g, i * 6 + 4, none⟩ = some (.slice x.da x.ds.length x.dc) := (hb5.cell (p := ⟨g, i * 6 + 4, none⟩) hg).trans (hrow 4 _ rfl)
          have x5 : w5.cell? ⟨g, i * 6 + 5, none⟩ = some (.string x.pay) := (hb5.cell (p := ⟨g, i * 6 + 5, none⟩) hg).trans (hrow 5 _ rfl)
          clear a0 a1 a2
          have a2 : w5.cell? ⟨w.heap.size, 2, none⟩ = some (.slice (some ⟨g, 0, none⟩) (HM H').length capv) := cell_of_row _ _ 2 _ _ _ hq0
          have H5 := Lib.hid (And.intro hq0 (And.intro hq1 (And.intro hv5 (And.intro ho5 hbw5))))
          clear hP hdi hfi hgi hgi2 hrow hq0 hq1 hv5 ho5 hbw5 hb5
          go_wp2_with (at_builtin; refine wpList_append_any _ rfl (.tmp 54) (.tmp 60) 22 rfl (w.heap.size + 3) 37 i0 _ 6 72 Try.underlying22 hi hz0 hz1 hz2 rfl (by decide) _ O.length (rowsM O) rfl (H5.out.2.2.2.1.alloc _) _ _ 1 1 (msgA x).toList rfl (reads_new w5 x) (msgA_one x) ?c3 ?c4 ?c5 ?_)
          case c3 => unfold maxLen; omega
          case c4 => omega
          case c5 => have := (Array.getElem?_eq_some_iff.1 H5.out.2.1).1; simp; omega
          intro v6 w6 ho6 hg6 hu6
          have hA5 := H5.out.2.2.2.2.size
          have hq0 := (hg6.block _ (by have := (Array.getElem?_eq_some_iff.1 H5.out.1).1; simp; omega) (fun e => by have := (H5.out.2.2.2.1.lt _ e.symm).1; omega)).trans ((Below.heap_alloc _ (.cells (msgA x).toList.toArray 37) _ (Array.getElem?_eq_some_iff.1 H5.out.1).1).trans H5.out.1)
          have hq1 := (hg6.block _ (by have := (Array.getElem?_eq_some_iff.1 H5.out.2.1).1; simp; omega) (fun e => by have := (H5.out.2.2.2.1.lt _ e.symm).1; omega)).trans ((Below.heap_alloc _ (.cells (msgA x).toList.toArray 37) _ (Array.getElem?_eq_some_iff.1 H5.out.2.1).1).trans H5.out.2.1)
          have hv6 := (H5.out.2.2.1.alloc (.cells (msgA x).toList.toArray 37)).kept hg6 (.inr (fun e => HQ.out.2.2.2.2.2.2.2.1 g rfl e.symm))
          have hbw6 := grownB (ba H5.out.2.2.2.2 (.cells (msgA x).toList.toArray 37)) (ba H5.out.2.2.2.2 (.cells (msgA x).toList.toArray 37)).size hg6 (fun b hb => by have := (H5.out.2.2.2.1.lt b hb).1; omega)
          have hlt6 : ∀ b, v6.ownBlock = some b → b < w6.heap.size := fun b hb => (ho6.lt b hb).2
          rw [← rowsM_snoc, show O.length + 1 = (O ++ [x]).length by simp] at ho6
          have hcapv : (HM H').length ≤ capv := by
            obtain ⟨g2, cap2, cur2, e1, e2, e3, e4, e5⟩ := hv6.2.resolve_left (by rintro ⟨h, _⟩; cases h)
            injection e1 with e1 e6 e7
            omega
          have hcapm : capv ≤ 9223372036854775807 := by
            obtain ⟨g2, cap2, cur2, e1, e2, e3, e4, e5, _⟩ := hv6.2.resolve_left (by rintro ⟨h, _⟩; cases h)
            injection e1 with e1 e6 e7
            unfold maxLen at e5
            omega
          have hrow := Reads.of_own hv6
          have hrt := hrow.takeS (k := i) (by omega)
          rw [rowsM_takeS _ _ (by omega)] at hrt
          have hcut : Reads w6 w6.heap.size 6 (if capv = i + 1 then some ⟨g, 0, none⟩ else some ⟨g, (i + 1) * 6, none⟩) ((HM H').length - (i + 1)) (rowsM ((HM H').drop (i + 1))) := by
            have := hrow.cut (k := i + 1) (cap := capv) (by omega) hcapv
            rw [rowsM_dropS _ _ (by omega)] at this
            simpa [Addr.add] using this
          clear a2 x0 x1 x2 x3 x4 x5 hrow
          obtain ⟨ad6, cap6, rfl⟩ := own_slice ho6
          have H6 := Lib.hid (And.intro hq0 (And.intro hq1 (And.intro hv6 (And.intro ho6 (And.intro hbw6 (And.intro hg6 (And.intro hu6 hlt6)))))))
          have HRD := Lib.hid (And.intro hrt hcut)
          clear hq0 hq1 hv6 ho6 hbw6 hg6 hu6 hrt hcut hlt6
          go_wp2_with fail
          have HS13 := Lib.hid (show ∀ w', Below w6.drew.heap.size w6.drew w' → w'.cell? ⟨w.heap.size, 2, none⟩ = some (.slice (some ⟨g, 0, none⟩) (HM H').length capv) from fun w' hb => cell_of_row _ _ 2 _ _ _ ((hb.block _ (Array.getElem?_eq_some_iff.1 H6.out.1).1).trans H6.out.1))
          have e1 : IntKind.i64.wrap ((i : Int) + 1) = (i : Int) + 1 := IntWalk.i64_in _ (by omega)
          have e2 : (0 : Int) ≤ (i : Int) + 1 := by omega
          have e3 : (i : Int) + 1 ≤ ((HM H').length : Int) := by omega
          have e4 : ((i : Int) + 1).toNat = i + 1 := by omega
          have e5 : (i : Int) ≤ (capv : Int) := by omega
          have e6 : ((HM H').length : Int) ≤ (capv : Int) := by omega
          have e8 : (0 : Int) ≤ ((HM H').length : Int) := by omega
          have HLM := Lib.hid hlm
          clear hlm
          refine wp_region_mask (fun w' => w'.cell? ⟨w.heap.size, 2, none⟩ = some (.slice (some ⟨g, 0, none⟩) (HM H').length capv)) 13 5 [false, true, true, true, true, false, true, true, true, true, true, false, false, false] #[false, true, true, true, true, false, true, true, true, true, true, false, false, false] (by kernel_rfl) (by kernel_rfl) (by kernel_rfl) (HS13.out _ (br _)) ?_
          refine wpMask_skip ?_
          refine wpMask_take _ (Or.inl ⟨by rfl, fun w' hS => by (try dsimp only at hS); go_simp; try with_reducible rfl⟩) ?_
          simp only [Act.put, List.setIfInBounds_toArray, List.set_cons_zero, List.set_cons_succ]
          refine wpMask_take _ (Or.inl ⟨by rfl, fun w' hS => by (try dsimp only at hS); go_simp; try with_reducible rfl⟩) ?_
          simp only [Act.put, List.setIfInBounds_toArray, List.set_cons_zero, List.set_cons_succ]
          refine wpMask_take _ (Or.inl ⟨by rfl, fun w' hS => by (try dsimp only at hS); go_simp; try with_reducible rfl⟩) ?_
          simp only [Act.put, List.setIfInBounds_toArray, List.set_cons_zero, List.set_cons_succ]
          refine wpMask_take _ (Or.inl ⟨by rfl, fun w' hS => by (try dsimp only at hS); go_simp; try with_reducible rfl⟩) ?_
          simp only [Act.put, List.setIfInBounds_toArray, List.set_cons_zero, List.set_cons_succ]
          refine wpMask_skip ?_
          refine wpMask_take _ (Or.inl ⟨by rfl, fun w' hS => by (try dsimp only at hS); go_simp; try with_reducible rfl⟩) ?_
          simp only [Act.put, List.setIfInBounds_toArray, List.set_cons_zero, List.set_cons_succ]
          refine wpMask_take _ (Or.inl ⟨by rfl, fun w' hS => by (try dsimp only at hS); go_simp; try with_reducible rfl⟩) ?_
          simp only [Act.put, List.setIfInBounds_toArray, List.set_cons_zero, List.set_cons_succ]
          refine wpMask_take _ (Or.inl ⟨by rfl, fun w' hS => by (try dsimp only at hS); go_simp; try with_reducible rfl⟩) ?_
          simp only [Act.put, List.setIfInBounds_toArray, List.set_cons_zero, List.set_cons_succ]
          refine wpMask_take _ (Or.inl ⟨by rfl, fun w' hS => by (try dsimp only at hS); go_simp; try with_reducible rfl⟩) ?_
          simp only [Act.put, List.setIfInBounds_toArray, List.set_cons_zero, List.set_cons_succ]
          refine wpMask_take _ (Or.inl ⟨by rfl, fun w' hS => by (try dsimp only at hS); go_simp; try with_reducible rfl⟩) ?_
          simp only [Act.put, List.setIfInBounds_toArray, List.set_cons_zero, List.set_cons_succ]
          refine wpMask_skip (wpMask_skip (wpMask_skip (wpMask_nil ?_)))
          have HG := Lib.hid (show w6.drew.heap[w.heap.size]? = some (.cells #[.int .i64 z, .int .u32 (c' : Int), .slice (some ⟨g, 0, none⟩) (HM H').length capv] 29) ∧ w6.drew.heap[w.heap.size + 1 + 1]? = some (.cells #[.int .i64 0, .int .u32 0, .slice none 0 0] 29) ∧ w6.drew.ownsRow (w.heap.size + 3) 37 6 (.slice ad6 (O ++ [x]).length cap6) (O ++ [x]).length (rowsM (O ++ [x])) ∧ Below w.heap.size w w6.drew ∧ Reads w6.drew w6.drew.heap.size 6 (some ⟨g, 0, none⟩) i (rowsM ((HM H').take i)) ∧ Reads w6.drew w6.drew.heap.size 6 (if capv = i + 1 then some ⟨g, 0, none⟩ else some ⟨g, (i + 1) * 6, none⟩) ((HM H').length - (i + 1)) (rowsM ((HM H').drop (i + 1))) from ⟨H6.out.1, H6.out.2.1, H6.out.2.2.2.1, H6.out.2.2.2.2.1.drew, HRD.out.1, HRD.out.2⟩)
          have hlt6 : ∀ b, (Value.slice ad6 (O ++ [x]).length cap6).ownBlock = some b → b < w6.drew.heap.size := H6.out.2.2.2.2.2.2.2
          have HLT := Lib.hid hlt6
          clear hlt6 H6 HRD H5
          generalize w6.drew = W6 at *
          clear e1 e2 e3 e4 e5 e6 e8
          have hb6 := br W6
          refine wpAnyS_ready (rs := [0]) (by kernel_rfl) (by simp) ?_
          refine AllReadyS.cons rfl (fun K hK => ?_) AllReadyS.nil
          go_simp
          refine hK.out _ _ (fun _ => HS13.out _ (ba hb6 _)) ?_
          clear hK K
          simp only [Act.put, List.setIfInBounds_toArray, List.set_cons_zero, List.set_cons_succ]
          have hlm := HLM.out
          have own1 := ownNil W6 W6.heap.size 37 6 (Nat.le_refl _)
          have hb7 := ba hb6 (.cells #[] 37)
          refine wpAnyS_ready (rs := [5]) (by kernel_rfl) (by simp) ?_
          refine AllReadyS.cons rfl (fun K hK => ?_) AllReadyS.nil
          refine step_append_any _ rfl (.tmp 62) (.tmp 66) 22 rfl W6.heap.size 37 i0 _ 6 72 Try.underlying22 hi hz0 hz1 hz2 rfl (by decide) _ 0 [] rfl own1 W6.heap.size _ i _ (rowsM ((HM H').take i)) rfl (HG.out.2.2.2.2.1.below hb7) (rowsM_one _) (by unfold maxLen; omega) (by omega) hb7.size ?_
          intro v7 w7 ho7 hg7 hu7
          have hb8 := grownB hb7 hb7.size hg7 (fun b hb => (own1.lt b hb).1)
          refine hK.out _ _ (fun _ => HS13.out _ hb8) ?_
          clear hK K
          simp only [Act.put, List.setIfInBounds_toArray, List.set_cons_zero, List.set_cons_succ]
          refine wpAnyS_ready (rs := [11]) (by kernel_rfl) (by simp) ?_
          refine AllReadyS.cons rfl (fun K hK => ?_) AllReadyS.nil
          refine step_append_any _ rfl (.tmp 67) (.tmp 72) 22 rfl W6.heap.size 37 i0 _ 6 72 Try.underlying22 hi hz0 hz1 hz2 rfl (by decide) v7 _ _ rfl ho7 W6.heap.size _ ((HM H').length - (i + 1)) _ (rowsM ((HM H').drop (i + 1))) rfl (HG.out.2.2.2.2.2.below hb8) (rowsM_one _) (by unfold maxLen; omega) (by omega) hb8.size ?_
          intro v8 w8 ho8 hg8 hu8
          have hb9 := grownB hb8 hb8.size hg8 (fun b hb => (ho7.lt b hb).1)
          refine hK.out _ _ (fun _ => HS13.out _ hb9) ?_
          clear hK K
          simp only [Act.put, List.setIfInBounds_toArray, List.set_cons_zero, List.set_cons_succ]
          rw [List.nil_append, ← rowsM_append, HX.out.2.1, show 0 + i + ((HM H').length - (i + 1)) = (HM (delH H' (c' + 1))).length by rw [← HX.out.2.1]; simp; omega] at ho8
          obtain ⟨ad8, cap8, rfl⟩ := ownForm ho8
          have e0 := (hb9.block _ (Array.getElem?_eq_some_iff.1 HG.out.1).1).trans HG.out.1
          have e1 := (hb9.block _ (Array.getElem?_eq_some_iff.1 HG.out.2.1).1).trans HG.out.2.1
          have k1 := setCell_block e0 2 (.slice ad8 (HM (delH H' (c' + 1))).length cap8)
          have k2 := setCell_block k1 1 (.int .u32 ((c' : Int) + 1))
          have hk9 : Kept (fun q => q = w.heap.size) w8 ((w8.setCell ⟨w.heap.size, 2, none⟩ (.slice ad8 (HM (delH H' (c' + 1))).length cap8)).setCell ⟨w.heap.size, 1, none⟩ (.int .u32 ((c' : Int) + 1))) :=
            ((show Kept (fun q => q = w.heap.size) w8 w8 from Kept.of_below (br w8)).setCell (p := ⟨w.heap.size, 2, none⟩) rfl _).setCell (p := ⟨w.heap.size, 1, none⟩) rfl _
          have hA6 := HG.out.2.2.2.1.size
          have hl3 := (Array.getElem?_eq_some_iff.1 HG.out.2.1).1
          have hvF := ownMore (base := w.heap.size + 3) (ownKept ho8 hk9 (fun b hb e => by have := (ho8.lt b hb).1; omega)) (by omega)
          have hoF := ownKept (hown_below HG.out.2.2.1 hb9) hk9 (fun b hb e => by have := (HG.out.2.2.1.lt b hb).1; omega)
          have hbF := hk9.out (HG.out.2.2.2.1.trans (hb9.mono hA6)) (Nat.le_trans hA6 hb9.size) (by intro q hq; omega)
          have hq1F := (hk9.block _ (Array.getElem?_eq_some_iff.1 e1).1 (by omega)).trans e1
          have hneF : ∀ b, (Value.slice ad8 (HM (delH H' (c' + 1))).length cap8).ownBlock = some b → (Value.slice ad6 (O ++ [x]).length cap6).ownBlock ≠ some b := fun b hb h2 => by
            have := (ho8.lt b hb).1
            have := HLT.out b h2
            omega
          have c8 : w8.cell? ⟨w.heap.size, 2, none⟩ = some (.slice (some ⟨g, 0, none⟩) (HM H').length capv) := cell_of_row _ _ 2 _ _ _ e0
          have f8 : w8.frozen? ⟨w.heap.size, 2, none⟩ = false := frozen_of_row _ _ _ _ _ e0
          have c9 : (w8.setCell ⟨w.heap.size, 2, none⟩ (.slice ad8 (HM (delH H' (c' + 1))).length cap8)).cell? ⟨w.heap.size, 1, none⟩ = some (.int .u32 (c' : Int)) := cell_of_row _ _ 1 _ _ _ k1
          have f9 : (w8.setCell ⟨w.heap.size, 2, none⟩ (.slice ad8 (HM (delH H' (c' + 1))).length cap8)).frozen? ⟨w.heap.size, 1, none⟩ = false := frozen_of_row _ _ _ _ _ k1
          have hml : heldLen ((w8.setCell ⟨w.heap.size, 2, none⟩ (.slice ad8 (HM (delH H' (c' + 1))).length cap8)).setCell ⟨w.heap.size, 1, none⟩ (.int .u32 ((c' : Int) + 1))) w.heap.size = (delH H' (c' + 1)).length := by
            unfold heldLen
            rw [show ((w8.setCell ⟨w.heap.size, 2, none⟩ (.slice ad8 (HM (delH H' (c' + 1))).length cap8)).setCell ⟨w.heap.size, 1, none⟩ (.int .u32 ((c' : Int) + 1))).cell? ⟨w.heap.size, 2, none⟩ = some (.slice ad8 (HM (delH H' (c' + 1))).length cap8) from cell_of_row _ _ 2 _ _ _ k2]
            exact HM_len _
          have hdl := delH_length HQ.out.2.1 hh
          have HZ := Lib.hid (And.intro k2 (And.intro hq1F (And.intro hvF (And.intro hoF (And.intro hneF (And.intro hbF (And.intro hml hdl)))))))
          clear e0 e1 k1 k2 hk9 hvF hoF hbF hq1F hneF hml hdl ho8 hg8 hu8 ho7 hg7 hu7 hb7 hb8 own1 hlm
          refine wpAnyS_ready (rs := [12]) (by kernel_rfl) (by simp) ?_
          refine AllReadyS.cons rfl (fun K hK => ?_) AllReadyS.nil
          go_simp
          refine hK.out _ _ (fun _ => HS13.out _ hb9) ?_
          clear hK K
          simp only [Act.put, List.setIfInBounds_toArray, List.set_cons_zero, List.set_cons_succ]
          refine wpAnyS_ready (rs := [13]) (by kernel_rfl) (by simp) ?_
          refine AllReadyS.cons rfl (fun K hK => ?_) AllReadyS.nil
          go_simp
          refine hK.out _ _ (fun h => absurd h (by omega)) ?_
          clear hK K
          simp only [Act.put, List.setIfInBounds_toArray, List.set_cons_zero, List.set_cons_succ]
          refine wpAnyS_done (by kernel_rfl) ?_ _
          clear c8 f8 hb9 HS13
          go_wp2
          have eS : Value.slice ad6 (O ++ [x]).length cap6 = Value.slice ad6 (O.length + 1) cap6 := by simp
          refine ⟨⟨c' + 1, delH H' (c' + 1), O ++ [x], _, HX.out.1, HQ.out.2.1.del _, HQ.out.2.2.1.del _, by have := HZ.out.2.2.2.2.2.2.2; simp; omega, by have := HZ.out.2.2.2.2.2.2.2; omega, HZ.out.1, HZ.out.2.1, HZ.out.2.2.1, eS ▸ HZ.out.2.2.2.1, eS ▸ HZ.out.2.2.2.2.1, HZ.out.2.2.2.2.2.1⟩, ?_⟩
          rw [HZ.out.2.2.2.2.2.2.1, HME.out]
          have := HZ.out.2.2.2.2.2.2.2
          omega
end Go.Proofs.Ytodlmboagbjcbaa
