/-
  What the reference's taker takes: numbers, processes, configurations, vectors, messages, exchanges.
  Conditions: those that each theorem names.
-/
import Derived.Test.YtgpojbmloielmaaReadE
import Derived.Test.YtgpojbmloielmaaMaskB
namespace Go.Proofs.Ytgpojbmloielmaa
set_option linter.unusedVariables false
set_option linter.unusedSimpArgs false
open Go.RowKit
theorem refGet_none (s : ByteArray) (a n : Nat) (w : World) (hs : s.size ≤ 1000000000) (ha : a ≤ 1000000000) (hp : s.size < a + n) (hn : n ≤ 8) (hn0 : 0 < n) :
    Calls Try.prog 52 #[.string s, .int .i64 (a : Int), .int .i64 (n : Int)] w fun e w' => e = .returned (.tuple #[.int .u64 0, .bool false]) ∧ w = w' := by
  have d1 : decide ((n : Int) < 1) = false := by simp; omega
  have d2 : decide ((8 : Int) < (n : Int)) = false := by simp; omega
  have d3 : decide ((a : Int) < 0) = false := by simp
  by_cases h : s.size < a
  · have d4 : decide ((s.size : Int) < (a : Int)) = true := by simp; omega
    have d5 : decide (s.size < a) = true := by simp; omega
    go_enter Try.func52, Try.ntmps52
    go_wp2
    go_ret2
    exact ⟨rfl, rfl⟩
  · have d4 : decide ((s.size : Int) < (a : Int)) = false := by simp; omega
    have d5 : decide (s.size < a) = false := by simp; omega
    have d6 : decide ((s.size : Int) - (a : Int) < (n : Int)) = true := by simp; omega
    go_enter Try.func52, Try.ntmps52
    go_wp2
    go_ret2
    exact ⟨rfl, rfl⟩
def getV (s : ByteArray) (p n : Nat) : Nat := if p + n ≤ s.size then valB (s.extract p (p + n)) else 0
theorem refGet_all (s : ByteArray) (a n : Nat) (w : World) (hs : s.size ≤ 1000000000) (ha : a ≤ 1000000000) (hn : n ≤ 8) (hn0 : 0 < n) :
    Calls Try.prog 52 #[.string s, .int .i64 (a : Int), .int .i64 (n : Int)] w fun e w' => e = .returned (.tuple #[.int .u64 (getV s a n : Int), .bool (decide (a + n ≤ s.size))]) ∧ w = w' := by
  unfold getV
  by_cases h : a + n ≤ s.size
  · rw [if_pos h, decide_eq_true h]
    exact refGet_any s a n w hs h hn hn0
  · rw [if_neg h, decide_eq_false h]
    exact refGet_none s a n w hs ha (by omega) hn hn0
theorem refText_any (s : ByteArray) (a n : Nat) (w : World) (hs : s.size ≤ 1000000000) (ha : a ≤ s.size) (hp : a + n ≤ s.size) :
    Calls Try.prog 80 #[.string s, .int .i64 (a : Int), .int .i64 (n : Int)] w fun e w' => e = .returned (.tuple #[.string (s.extract a (a + n)), .int .i64 ((a + n : Nat) : Int), .bool true]) ∧ w = w' := by
  have d1 : decide ((n : Int) < 0) = false := by simp
  have d2 : decide ((s.size : Int) - (a : Int) < (n : Int)) = false := by simp; omega
  go_enter Try.func80, Try.ntmps80
  go_wp2
  go_ret3
  exact ⟨rfl, rfl⟩
theorem refText_none (s : ByteArray) (a n : Nat) (w : World) (hs : s.size ≤ 1000000000) (ha : a ≤ s.size) (hp : s.size < a + n) (hn : n ≤ 1000000000) :
    Calls Try.prog 80 #[.string s, .int .i64 (a : Int), .int .i64 (n : Int)] w fun e w' => e = .returned (.tuple #[.string ⟨#[]⟩, .int .i64 (a : Int), .bool false]) ∧ w = w' := by
  have d1 : decide ((n : Int) < 0) = false := by simp
  have d2 : decide ((s.size : Int) - (a : Int) < (n : Int)) = true := by simp; omega
  go_enter Try.func80, Try.ntmps80
  go_wp2
  go_ret3
  exact ⟨rfl, rfl⟩
/-- a taker's cells -/
def TkAt (w : World) (T : Nat) (s : ByteArray) (p : Nat) (e : Int) : Prop := w.heap[T]? = some (.cells #[.string s, .int .i64 (p : Int), .int .i64 e] 70 (0, 0))
theorem TkAt.lt {w : World} {T : Nat} {s : ByteArray} {p : Nat} {e : Int} (h : TkAt w T s p e) : T < w.heap.size := (Array.getElem?_eq_some_iff.1 h).1
theorem TkAt.below {w w' : World} {T : Nat} {s : ByteArray} {p : Nat} {e : Int} (h : TkAt w T s p e) (hb : Below w.heap.size w w') : TkAt w' T s p e := (hb.block _ h.lt).trans h
/-- what is left, or the first error -/
def StR (s : ByteArray) (p : Nat) (e : Int) (st : Except Int (List UInt8)) : Prop := (e = 0 → p ≤ s.size ∧ st = .ok (s.data.toList.drop p)) ∧ (e ≠ 0 → st = .error e)
structure TkS (w : World) (T : Nat) (s : ByteArray) (A : Nat) (st : Except Int (List UInt8)) : Prop where
  sz : s.size ≤ 1000000
  ex : ∃ p e, TkAt w T s p e ∧ p ≤ A ∧ StR s p e st
theorem TkS.lt {w : World} {T : Nat} {s : ByteArray} {A : Nat} {st : Except Int (List UInt8)} (h : TkS w T s A st) : T < w.heap.size := by obtain ⟨_, _, h, _⟩ := h.ex; exact h.lt
theorem TkS.below {w w' : World} {T : Nat} {s : ByteArray} {A : Nat} {st : Except Int (List UInt8)} (h : TkS w T s A st) (hb : Below w.heap.size w w') : TkS w' T s A st := by
  obtain ⟨p, e, h1, h2⟩ := h.ex
  exact ⟨h.sz, p, e, h1.below hb, h2⟩
theorem TkS.kept {w w' : World} {T : Nat} {s : ByteArray} {A : Nat} {st : Except Int (List UInt8)} {S : Nat → Prop} (h : TkS w T s A st) (hk : Kept S w w') (hs : ¬ S T) : TkS w' T s A st := by
  obtain ⟨p, e, h1, h2⟩ := h.ex
  exact ⟨h.sz, p, e, (hk.block T h1.lt hs).trans h1, h2⟩
theorem TkS.le {w : World} {T : Nat} {s : ByteArray} {A A' : Nat} {st : Except Int (List UInt8)} (h : TkS w T s A st) (ha : A ≤ A') : TkS w T s A' st := by
  obtain ⟨p, e, h1, h2, h3⟩ := h.ex
  exact ⟨h.sz, p, e, h1, by omega, h3⟩
def TR {α : Type} (st : Except Int (List UInt8)) (r : List UInt8 → Except Int (α × List UInt8)) (a : α) (st' : Except Int (List UInt8)) : Prop := match st with
  | .error c => st' = .error c
  | .ok l => match r l with
    | .ok (x, l') => a = x ∧ st' = .ok l'
    | .error c => st' = .error c
theorem TR.bind {α β : Type} {st st1 st2 : Except Int (List UInt8)} {r1 : List UInt8 → Except Int (α × List UInt8)} {r2 : α → List UInt8 → Except Int (β × List UInt8)} {a : α} {b : β} (h1 : TR st r1 a st1) (h2 : TR st1 (r2 a) b st2) : TR st (fun l => andR (r1 l) r2) b st2 := by
  cases st with
  | error c => cases h1; exact h2
  | ok l =>
    unfold TR at h1 ⊢
    simp only at h1 ⊢
    cases hr : r1 l with
    | error c => rw [hr] at h1; cases h1; exact h2
    | ok x =>
      obtain ⟨x, l'⟩ := x
      rw [hr] at h1
      obtain ⟨rfl, rfl⟩ := h1
      exact h2
theorem TR.pure {α : Type} (st : Except Int (List UInt8)) (a : α) : TR st (fun l => .ok (a, l)) a st := by
  cases st with
  | error c => rfl
  | ok l => exact ⟨rfl, rfl⟩
theorem TR.eq {α : Type} {st st' : Except Int (List UInt8)} {r r' : List UInt8 → Except Int (α × List UInt8)} {a : α} (h : TR st r a st') (he : ∀ l, r l = r' l) : TR st r' a st' := by
  rw [show r' = r from funext fun l => (he l).symm]; exact h
def rdBad (c : Int) (b : Bool) (l : List UInt8) : Except Int (Unit × List UInt8) := if b = true then .error c else .ok ((), l)
def badE (e c : Int) (b : Bool) : Int := if b = true ∧ e = 0 then c else e
set_option maxHeartbeats 1000000 in
theorem tBad_at {w : World} {T : Nat} {s : ByteArray} {p : Nat} {e : Int} (h : TkAt w T s p e) (c : Int) (b : Bool) :
    Calls Try.prog 27 #[.pointer (some ⟨T, 0, none⟩), .int .i64 c, .bool b] w fun en w' => en = .returned (.tuple #[]) ∧ TkAt w' T s p (badE e c b) ∧ Kept (fun b => b = T) w w' := by
  have c1 : w.cell? ⟨T, 2, none⟩ = some (.int .i64 e) := cell_of_row _ _ 2 _ _ _ h
  have f1 : w.frozen? ⟨T, 2, none⟩ = false := frozen_of_row _ _ _ _ _ h
  have HH := Lib.hid h
  unfold TkAt at h
  cases b
  · have HE := Lib.hid (show TkAt w T s p (badE e c false) ∧ Kept (fun b => b = T) w w from ⟨HH.out, .refl _ _⟩)
    clear h
    go_enter Try.func27, Try.ntmps27
    go_wp2_with fail
    go_end0
    exact ⟨rfl, HE.out⟩
  · by_cases he : e = 0
    · subst he
      have hk : Kept (fun b => b = T) w (w.setCell ⟨T, 2, none⟩ (.int .i64 c)) := (show Kept (fun b => b = T) w w from .refl _ _).setCell (p := ⟨T, 2, none⟩) rfl _
      have HE := Lib.hid (show TkAt (w.setCell ⟨T, 2, none⟩ (.int .i64 c)) T s p (badE 0 c true) ∧ Kept (fun b => b = T) w (w.setCell ⟨T, 2, none⟩ (.int .i64 c)) from ⟨setCell_block h 2 _, hk⟩)
      clear hk h
      go_enter Try.func27, Try.ntmps27
      go_wp2_with fail
      go_end0
      exact ⟨rfl, HE.out⟩
    · have he2 : (e == 0) = false := by simpa using he
      have he3 : decide (e = 0) = false := by simpa using he
      have HE := Lib.hid (show TkAt w T s p (badE e c true) ∧ Kept (fun b => b = T) w w from ⟨by unfold badE; rw [if_neg (fun h => he h.2)]; exact HH.out, .refl _ _⟩)
      clear h
      go_enter Try.func27, Try.ntmps27
      go_wp2_with fail
      go_end0
      exact ⟨rfl, HE.out⟩
theorem StR.bad {s : ByteArray} {p : Nat} {e : Int} {st : Except Int (List UInt8)} (h : StR s p e st) (c : Int) (hc : c ≠ 0) (b : Bool) : ∃ st', StR s p (badE e c b) st' ∧ TR st (rdBad c b) () st' := by
  by_cases he : e = 0
  · subst he
    obtain ⟨h1, rfl⟩ := h.1 rfl
    cases b
    · exact ⟨_, h, rfl, rfl⟩
    · refine ⟨.error c, ⟨fun h => absurd h ?_, fun h => rfl⟩, rfl⟩
      simpa [badE] using hc
  · have h2 := h.2 he
    subst h2
    refine ⟨.error e, ?_, rfl⟩
    unfold badE
    rw [if_neg (fun h => he h.2)]
    exact h
theorem tBad_any {w : World} {T : Nat} {s : ByteArray} {A : Nat} {st : Except Int (List UInt8)} (h : TkS w T s A st) (c : Int) (hc : c ≠ 0) (b : Bool) :
    Calls Try.prog 27 #[.pointer (some ⟨T, 0, none⟩), .int .i64 c, .bool b] w fun en w' => en = .returned (.tuple #[]) ∧ ∃ st', TkS w' T s A st' ∧ Kept (fun b => b = T) w w' ∧ TR st (rdBad c b) () st' := by
  obtain ⟨p, e, h1, h2, h3⟩ := h.ex
  refine (tBad_at h1 c b).mono ?_
  rintro en w' ⟨rfl, h4, h5⟩
  obtain ⟨st', h6, h7⟩ := h3.bad c hc b
  exact ⟨rfl, st', ⟨h.sz, p, _, h4, h2, h6⟩, h5, h7⟩
set_option maxHeartbeats 4000000 in
theorem tNum_at {w : World} {T : Nat} {s : ByteArray} {p : Nat} {e : Int} (h : TkAt w T s p e) (n : Nat) (hs : s.size ≤ 1000000) (hp : p ≤ 10000000) (hn : n ≤ 8) (hn0 : 0 < n) :
    Calls Try.prog 55 #[.pointer (some ⟨T, 0, none⟩), .int .i64 (n : Int)] w fun en w' => en = .returned (.int .u64 (if badE e 2 (!decide (p + n ≤ s.size)) = 0 then getV s p n else 0 : Nat)) ∧ TkAt w' T s (p + n) (badE e 2 (!decide (p + n ≤ s.size))) ∧ Kept (fun b => b = T) w w' := by
  obtain ⟨b, hb⟩ : ∃ b : Bool, b = decide (p + n ≤ s.size) := ⟨_, rfl⟩
  obtain ⟨v, hv⟩ : ∃ v : Nat, v = getV s p n := ⟨_, rfl⟩
  obtain ⟨e2, he2⟩ : ∃ e2 : Int, e2 = badE e 2 (!b) := ⟨_, rfl⟩
  have HG := Lib.hid (show ∀ W : World, Calls Try.prog 52 #[.string s, .int .i64 (p : Int), .int .i64 (n : Int)] W fun e w' => e = .returned (.tuple #[.int .u64 (v : Int), .bool b]) ∧ W = w' from fun W => by
    rw [hv, hb]
    exact refGet_all s p n W (by omega) (by omega) hn hn0)
  rw [← hb, ← hv, ← he2]
  obtain ⟨u, hu⟩ : ∃ u : Nat, u = if e2 = 0 then v else 0 := ⟨_, rfl⟩
  rw [← hu]
  have HU := Lib.hid hu
  clear hu
  have c0 : w.cell? ⟨T, 0, none⟩ = some (.string s) := cell_of_row _ _ 0 _ _ _ h
  have c1 : w.cell? ⟨T, 1, none⟩ = some (.int .i64 (p : Int)) := cell_of_row _ _ 1 _ _ _ h
  have HH := Lib.hid h
  have HE2 := Lib.hid he2
  clear h hb hv he2
  go_enter Try.func55, Try.ntmps55
  go_upto_region 1 with (fail)
  refine wp_region_mask (fun w' => w'.cell? ⟨T, 0, none⟩ = some (.string s) ∧ w'.cell? ⟨T, 1, none⟩ = some (.int .i64 (p : Int))) 14 6 [true, true, true, true, true, true, true, true, true, false, false, false, false, false, false] #[true, true, true, true, true, true, true, true, true, false, false, false, false, false, false] (by kernel_rfl) (by kernel_rfl) (by kernel_rfl) ⟨c0, c1⟩ ?_
  have hb5 : Below w.heap.size w w.drew := (br w).drew
  have c01 := Lib.hid (show w.drew.cell? ⟨T, 0, none⟩ = some (.string s) ∧ w.drew.cell? ⟨T, 1, none⟩ = some (.int .i64 (p : Int)) from ⟨c0, c1⟩)
  clear c0 c1
  generalize w.drew = w5 at *
  iterate 9
    refine wpMask_take _ (Or.inl ⟨by rfl, fun w' hS => by (try dsimp only at hS); obtain ⟨hS1, hS2⟩ := hS; go_simp; try with_reducible rfl⟩) ?_
    simp only [Act.put, List.setIfInBounds_toArray, List.set_cons_zero, List.set_cons_succ]
  iterate 6 refine wpMask_skip ?_
  refine wpMask_nil ?_
  refine wpAnyS_ready (rs := [9]) (by kernel_rfl) (by simp) ?_
  refine AllReadyS.cons rfl (fun K hK => ?_) AllReadyS.nil
  go_simp
  refine (HG.out _).mono ?_
  rintro e w' ⟨rfl, rfl⟩
  refine hK.out _ _ (fun _ => c01.out) ?_
  clear hK K
  simp only [Act.put, List.setIfInBounds_toArray, List.set_cons_zero, List.set_cons_succ]
  refine wpAnyS_take (i := 10) _ rfl (by kernel_rfl) (Or.inl ⟨by rfl, fun w' hS => by go_simp; try with_reducible rfl⟩) c01.out ?_
  simp only [Act.put, List.setIfInBounds_toArray, List.set_cons_zero, List.set_cons_succ]
  refine wpAnyS_take (i := 11) _ rfl (by kernel_rfl) (Or.inl ⟨by rfl, fun w' hS => by go_simp; try with_reducible rfl⟩) c01.out ?_
  simp only [Act.put, List.setIfInBounds_toArray, List.set_cons_zero, List.set_cons_succ]
  refine wpAnyS_take (i := 12) _ rfl (by kernel_rfl) (Or.inl ⟨by rfl, fun w' hS => by go_simp; try with_reducible rfl⟩) c01.out ?_
  simp only [Act.put, List.setIfInBounds_toArray, List.set_cons_zero, List.set_cons_succ]
  refine wpAnyS_ready (rs := [13]) (by kernel_rfl) (by simp) ?_
  refine AllReadyS.cons rfl (fun K hK => ?_) AllReadyS.nil
  go_simp
  refine hK.out _ _ (fun _ => c01.out) ?_
  clear hK K
  simp only [Act.put, List.setIfInBounds_toArray, List.set_cons_zero, List.set_cons_succ]
  refine wpAnyS_ready (rs := [14]) (by kernel_rfl) (by simp) ?_
  refine AllReadyS.cons rfl (fun K hK => ?_) AllReadyS.nil
  go_simp
  refine hK.out _ _ (fun h => absurd h (by decide)) ?_
  clear hK K
  simp only [Act.put, List.setIfInBounds_toArray, List.set_cons_zero, List.set_cons_succ]
  refine wpAnyS_done (by kernel_rfl) ?_ _
  have h5 := HH.out.below hb5
  have HB := Lib.hid (tBad_at h5 2 (!b))
  have HB5 := Lib.hid hb5
  clear h5 hb5
  go_wp2_with fail
  refine HB.out.mono ?_
  rintro en w6 ⟨rfl, h6, k6⟩
  rw [← HE2.out] at h6
  unfold TkAt at h6
  have c1 : w6.cell? ⟨T, 1, none⟩ = some (.int .i64 (p : Int)) := cell_of_row _ _ 1 _ _ _ h6
  have f1 : w6.frozen? ⟨T, 1, none⟩ = false := frozen_of_row _ _ _ _ _ h6
  have h7 := setCell_block h6 1 (.int .i64 ((p + n : Nat) : Int))
  have k7 : Kept (fun b => b = T) w6 (w6.setCell ⟨T, 1, none⟩ (.int .i64 ((p + n : Nat) : Int))) := (show Kept (fun b => b = T) w6 w6 from .refl _ _).setCell (p := ⟨T, 1, none⟩) rfl _
  have hpn : (p : Int) + (n : Int) = ((p + n : Nat) : Int) := by omega
  obtain ⟨q, hq⟩ : ∃ q, q = p + n := ⟨_, rfl⟩
  rw [← hq] at h7 k7 hpn
  have HQ := Lib.hid hq
  clear hq
  obtain ⟨w7, hw7⟩ : ∃ w7, w7 = w6.setCell ⟨T, 1, none⟩ (.int .i64 (q : Int)) := ⟨_, rfl⟩
  rw [← hw7] at h7 k7
  have HE := Lib.hid (show TkAt w7 T s q e2 ∧ Kept (fun b => b = T) w w7 from ⟨h7, (Kept.of_below HB5.out).trans (k6.trans k7)⟩)
  have c2 : w7.cell? ⟨T, 2, none⟩ = some (.int .i64 e2) := cell_of_row _ _ 2 _ _ _ h7
  clear h6 h7 k6 k7 HB
  go_upto_region 4 with (fail)
  rw [← hw7]
  clear hw7 c1 f1 hpn hp
  by_cases hz : e2 = 0
  · have hz3 : u = v := by rw [HU.out, if_pos hz]
    subst hz3
    subst hz
    go_wp2_with fail
    go_ret
    exact ⟨rfl, by rw [← HQ.out]; exact HE.out⟩
  · have hz2 : (e2 != 0) = true := by simpa using hz
    have hz3 : u = 0 := by rw [HU.out, if_neg hz]
    subst hz3
    go_wp2_with fail
    go_ret
    exact ⟨rfl, by rw [← HQ.out]; exact HE.out⟩
theorem getV_eq (s : ByteArray) (p n : Nat) (h : p + n ≤ s.size) : rdN n (s.data.toList.drop p) = .ok (getV s p n, s.data.toList.drop (p + n)) := by
  have hlen : (s.data.toList.drop p).length = s.size - p := by rw [List.length_drop]; rfl
  unfold rdN getV
  rw [if_pos (by rw [hlen]; omega), if_pos h, rd_val, List.drop_drop]
theorem getV_no (s : ByteArray) (p n : Nat) (hp : p ≤ s.size) (h : ¬ p + n ≤ s.size) : rdN n (s.data.toList.drop p) = .error 2 := by
  have hlen : (s.data.toList.drop p).length = s.size - p := by rw [List.length_drop]; rfl
  unfold rdN
  rw [if_neg (by rw [hlen]; omega)]
theorem tNum_any {w : World} {T : Nat} {s : ByteArray} {A : Nat} {st : Except Int (List UInt8)} (h : TkS w T s A st) (n : Nat) (hA : A ≤ 10000000) (hn : n ≤ 8) (hn0 : 0 < n) :
    Calls Try.prog 55 #[.pointer (some ⟨T, 0, none⟩), .int .i64 (n : Int)] w fun en w' => ∃ (v : Nat) (st' : Except Int (List UInt8)), en = .returned (.int .u64 (v : Int)) ∧ v < 256 ^ n ∧ TkS w' T s (A + n) st' ∧ Kept (fun b => b = T) w w' ∧ TR st (rdN n) v st' := by
  obtain ⟨p, e, h1, h2, h3⟩ := h.ex
  have h0 : 0 < 256 ^ n := Nat.pow_pos (by omega)
  refine (tNum_at h1 n h.sz (by omega) hn hn0).mono ?_
  rintro en w' ⟨rfl, h4, h5⟩
  by_cases he : e = 0
  · subst he
    obtain ⟨hp, rfl⟩ := h3.1 rfl
    by_cases hpn : p + n ≤ s.size
    · have hr := getV_eq s p n hpn
      rw [decide_eq_true hpn] at h4 ⊢
      refine ⟨_, .ok (s.data.toList.drop (p + n)), rfl, ?_, ⟨h.sz, p + n, _, h4, by omega, ⟨fun _ => ⟨hpn, rfl⟩, fun h => absurd rfl h⟩⟩, h5, ?_⟩
      · exact (rdN_lt hn hr).1
      · show TR (.ok _) _ _ _
        unfold TR
        simp only
        rw [hr]
        exact ⟨rfl, rfl⟩
    · have hr := getV_no s p n hp hpn
      rw [decide_eq_false hpn] at h4 ⊢
      refine ⟨_, .error 2, rfl, h0, ⟨h.sz, p + n, _, h4, by omega, ⟨fun h => absurd h (by decide), fun _ => rfl⟩⟩, h5, ?_⟩
      show TR (.ok _) _ _ _
      unfold TR
      simp only
      rw [hr]
  · have h6 := h3.2 he
    subst h6
    have hb : badE e 2 (!decide (p + n ≤ s.size)) = e := if_neg (fun h => he h.2)
    rw [hb] at h4 ⊢
    rw [if_neg he]
    exact ⟨0, .error e, rfl, h0, ⟨h.sz, p + n, _, h4, by omega, ⟨fun h => absurd h he, fun _ => rfl⟩⟩, h5, rfl⟩
theorem rdProc_eq (l : List UInt8) : (andR (rdN 1 l) fun v l => andR (rdBad 1 (decide (63 < v)) l) fun _ l => .ok (v, l)) = rdProc l := by
  unfold rdProc rdBad
  rcases rdN 1 l with c | ⟨v, l'⟩
  · rfl
  · show (andR (if decide (63 < v) = true then .error 1 else .ok ((), l')) fun _ l => .ok (v, l)) = if 64 ≤ v then .error 1 else .ok (v, l')
    by_cases h : 64 ≤ v
    · rw [if_pos h, if_pos (by simp; omega)]; rfl
    · rw [if_neg h, if_neg (by simp; omega)]; rfl
theorem rdConf_eq (l : List UInt8) : (andR (rdN 8 l) fun e l => andR (rdProc l) fun r l => .ok ((e, r), l)) = rdConf l := by
  unfold rdConf
  rcases rdN 8 l with c | ⟨v, l'⟩
  · rfl
  · show (andR (rdProc l') fun r l => .ok ((v, r), l)) = _
    simp only
    rcases rdProc l' with c | ⟨r, l2⟩ <;> rfl
set_option maxHeartbeats 2000000 in
theorem tProc_any {w : World} {T : Nat} {s : ByteArray} {A : Nat} {st : Except Int (List UInt8)} (h : TkS w T s A st) (hA : A ≤ 10000000) :
    Calls Try.prog 57 #[.pointer (some ⟨T, 0, none⟩)] w fun en w' => ∃ (v : Nat) (st' : Except Int (List UInt8)), en = .returned (.int .i64 (v : Int)) ∧ v < 256 ∧ TkS w' T s (A + 1) st' ∧ Kept (fun b => b = T) w w' ∧ TR st rdProc v st' := by
  have HN := Lib.hid (tNum_any h 1 hA (by omega) (by omega))
  clear h
  go_enter Try.func57, Try.ntmps57
  go_wp2_with fail
  refine HN.out.mono ?_
  rintro en w1 ⟨v, st1, rfl, hv, h1, k1, r1⟩
  have hv2 : v < 256 := by simpa using hv
  have hw : IntKind.i64.wrap (v : Int) = (v : Int) := IntWalk.i64_in _ (by omega)
  obtain ⟨b, hb⟩ : ∃ b : Bool, b = decide (63 < v) := ⟨_, rfl⟩
  have hb2 : decide ((63 : Int) < (v : Int)) = b := by rw [hb, decide_eq_decide]; omega
  have HB := Lib.hid (tBad_any h1 1 (by decide) b)
  have HK := Lib.hid (And.intro k1 (And.intro r1 hb))
  have hb3 := hb.symm
  clear h1 k1 r1 HN hv hb
  go_wp2_with fail
  refine HB.out.mono ?_
  rintro en w2 ⟨rfl, st2, h2, k2, r2⟩
  have HE := Lib.hid (show v < 256 ∧ TkS w2 T s (A + 1) st2 ∧ Kept (fun b => b = T) w w2 ∧ TR st rdProc v st2 from
    ⟨hv2, h2, HK.out.1.trans k2, TR.eq (TR.bind HK.out.2.1 (r2 := fun v l => andR (rdBad 1 (decide (63 < v)) l) fun _ l => .ok (v, l)) (TR.bind (r2 := fun _ l => .ok (v, l)) (by have := HK.out.2.2; rw [← this]; exact r2) (TR.pure _ _))) rdProc_eq⟩)
  clear h2 k2 r2 HB
  go_wp2_with fail
  go_ret
  exact ⟨v, st2, rfl, HE.out⟩
set_option maxHeartbeats 2000000 in
theorem tConf_any {w : World} {T : Nat} {s : ByteArray} {A : Nat} {st : Except Int (List UInt8)} (h : TkS w T s A st) (hA : A ≤ 9999900) :
    Calls Try.prog 53 #[.pointer (some ⟨T, 0, none⟩)] w fun en w' => ∃ (c r : Nat) (st' : Except Int (List UInt8)), en = .returned (.agg #[.int .u64 (c : Int), .int .i64 (r : Int)]) ∧ c < 18446744073709551616 ∧ TkS w' T s (A + 9) st' ∧ Kept (fun b => b = T) w w' ∧ TR st rdConf (c, r) st' := by
  obtain ⟨N, hN⟩ : ∃ N, N = w.heap.size := ⟨_, rfl⟩
  obtain ⟨W, hW⟩ : ∃ W, W = w.alloc (.cells #[.int .u64 0, .int .i64 0] 28) := ⟨_, rfl⟩
  have hbA := ba (br w) (.cells #[.int .u64 0, .int .i64 0] 28)
  have hxA := heap_alloc_new w (.cells #[.int .u64 0, .int .i64 0] 28)
  rw [← hW] at hxA hbA
  rw [← hN] at hxA
  have hlt := h.lt
  have hne : N ≠ T := by omega
  have HN := Lib.hid (tNum_any (h.below hbA) 8 (by omega) (by omega) (by omega))
  have HX := Lib.hid (And.intro hbA (And.intro hxA (And.intro hne hN)))
  clear h hbA hxA hlt hne
  go_enter Try.func53, Try.ntmps53
  go_upto_region 1 with (fail)
  rw [← hW, ← hN]
  clear hW hN
  go_wp2_with fail
  refine HN.out.mono ?_
  rintro en w1 ⟨c, st1, rfl, hv, h1, k1, r1⟩
  have HP := Lib.hid (tProc_any h1 (by omega))
  have x1 := k1.keep HX.out.2.1 HX.out.2.2.1
  have HK := Lib.hid (And.intro k1 (And.intro r1 (And.intro x1 (show c < 18446744073709551616 by simpa using hv))))
  clear h1 k1 r1 x1 hv HN
  go_wp2_with fail
  refine HP.out.mono ?_
  rintro en w2 ⟨r, st2, rfl, hr, h2, k2, r2⟩
  have x2 := k2.keep HK.out.2.2.1 HX.out.2.2.1
  have d0 : w2.cell? ⟨N, 0, none⟩ = some (.int .u64 0) := cell_of_row _ _ 0 _ _ _ x2
  have d1 : w2.cell? ⟨N, 1, none⟩ = some (.int .i64 0) := cell_of_row _ _ 1 _ _ _ x2
  have f0 : w2.frozen? ⟨N, 0, none⟩ = false := frozen_of_row _ _ _ _ _ x2
  have f1 : w2.frozen? ⟨N, 1, none⟩ = false := frozen_of_row _ _ _ _ _ x2
  have kc : Kept (fun b => b = N) w2 ((w2.setCell ⟨N, 0, none⟩ (.int .u64 (c : Int))).setCell ⟨N, 1, none⟩ (.int .i64 (r : Int))) := ((show Kept (fun b => b = N) w2 w2 from .refl _ _).setCell (p := ⟨N, 0, none⟩) rfl _).setCell (p := ⟨N, 1, none⟩) rfl _
  have m4 := setCell_block (setCell_block x2 0 (.int .u64 (c : Int))) 1 (.int .i64 (r : Int))
  have HE := Lib.hid (show c < 18446744073709551616 ∧ TkS ((w2.setCell ⟨N, 0, none⟩ (.int .u64 (c : Int))).setCell ⟨N, 1, none⟩ (.int .i64 (r : Int))) T s (A + 9) st2 ∧ Kept (fun b => b = T) w ((w2.setCell ⟨N, 0, none⟩ (.int .u64 (c : Int))).setCell ⟨N, 1, none⟩ (.int .i64 (r : Int))) ∧ TR st rdConf (c, r) st2 from by
    refine ⟨HK.out.2.2.2, h2.kept kc (fun e => HX.out.2.2.1 e.symm), ?_, TR.eq (TR.bind HK.out.2.1 (r2 := fun e l => andR (rdProc l) fun r l => .ok ((e, r), l)) (TR.bind (r2 := fun r l => .ok ((c, r), l)) r2 (TR.pure _ _))) rdConf_eq⟩
    have hh := (Kept.of_below (S := fun b => b = T) HX.out.1).trans (HK.out.1.trans k2)
    refine ⟨kc.os.trans hh.os, kc.tape.trans hh.tape, kc.output.trans hh.output, Nat.le_trans hh.size kc.size, fun i hi hs => ?_⟩
    exact (kc.block i (Nat.lt_of_lt_of_le hi hh.size) (fun e => by have := HX.out.2.2.2; omega)).trans (hh.block i hi hs))
  clear h2 k2 r2 x2 kc HP
  go_wp2_with fail
  refine bodyPost_ret (results_cell_row Try.results53 _ _ N 28 #[.int .u64 (c : Int), .int .i64 (r : Int)] (0, 0) _ rfl m4 Try.underlying28 rfl (by kernel_rfl)) rfl ?_
  exact ⟨c, r, st2, rfl, HE.out⟩
end Go.Proofs.Ytgpojbmloielmaa
namespace Go.Proofs.Ytgpojbmloielmaa
set_option linter.unusedVariables false
set_option linter.unusedSimpArgs false
open Go.RowKit
theorem TR.okay {α : Type} {st : Except Int (List UInt8)} {r : List UInt8 → Except Int (α × List UInt8)} {a : α} {l' : List UInt8} (h : TR st r a (.ok l')) : ∃ l, st = .ok l ∧ r l = .ok (a, l') := by
  cases st with
  | error c => cases h
  | ok l =>
    unfold TR at h
    simp only at h
    cases hr : r l with
    | error c => rw [hr] at h; cases h
    | ok x =>
      obtain ⟨x, l2⟩ := x
      rw [hr] at h
      obtain ⟨rfl, h2⟩ := h
      injection h2 with h2
      subst h2
      exact ⟨l, rfl, hr⟩
theorem TR.stay {α β : Type} {st : Except Int (List UInt8)} {r : List UInt8 → Except Int (α × List UInt8)} {r2 : List UInt8 → Except Int (β × List UInt8)} {a : α} {b : β} {c : Int} (h : TR st r a (.error c)) (hr : ∀ l c, r l = .error c → r2 l = .error c) : TR st r2 b (.error c) := by
  cases st with
  | error d => exact h
  | ok l =>
    unfold TR at h ⊢
    simp only at h ⊢
    cases h1 : r l with
    | error d => rw [h1] at h; rw [hr l d h1]; exact h
    | ok x =>
      obtain ⟨x, l2⟩ := x
      rw [h1] at h
      cases h.2
theorem rdVec_eq (l : List UInt8) : (andR (rdN 1 l) fun n l => andR (rdBad 3 (decide (64 < n)) l) fun _ l => rdNs n l) = rdVec l := by
  unfold rdVec rdBad
  rcases rdN 1 l with c | ⟨v, l'⟩
  · rfl
  · show (andR (if decide (64 < v) = true then .error 3 else .ok ((), l')) fun _ l => rdNs v l) = if 64 < v then .error 3 else rdNs v l'
    by_cases h : 64 < v
    · rw [if_pos h, if_pos (by simpa using h)]; rfl
    · rw [if_neg h, if_neg (by simpa using h)]; rfl
theorem rdNs_next (k : Nat) (l : List UInt8) : (andR (rdNs k l) fun vs l => andR (rdN 4 l) fun v l => .ok (vs ++ [v], l)) = rdNs (k + 1) l := by
  rw [rdNs_snoc]
  rcases rdNs k l with c | ⟨v, l'⟩
  · rfl
  · show (andR (rdN 4 l') fun w l => .ok (v ++ [w], l)) = _
    simp only
    rcases rdN 4 l' with c | ⟨x, l2⟩ <;> rfl
def TVec (T : Nat) (s : ByteArray) (A : Nat) (w : World) (st : Except Int (List UInt8)) (en : Ending) (w' : World) : Prop :=
  ∃ (ds : List Nat) (ad : Option Addr) (cap : Nat) (st' : Except Int (List UInt8)), en = .returned (.slice ad ds.length cap) ∧ OwnN w.heap.size w' ad ds cap ∧ ds.length ≤ 64 ∧ (∀ d ∈ ds, d < 4294967296) ∧ TkS w' T s (A + 257) st' ∧ Kept (fun b => b = T) w w' ∧ TR st rdVec ds st'
set_option maxRecDepth 100000 in
set_option maxHeartbeats 4000000 in
theorem tVec_any {w : World} {T : Nat} {s : ByteArray} {A : Nat} {st : Except Int (List UInt8)} (h : TkS w T s A st) (hA : A ≤ 9000000) :
    Calls Try.prog 56 #[.pointer (some ⟨T, 0, none⟩)] w fun en w' => TVec T s A w st en w' := by
  have hlt := h.lt
  have HN := Lib.hid (tNum_any h 1 (by omega) (by omega) (by omega))
  have HA := Lib.hid (And.intro hA hlt)
  clear h hA hlt
  obtain ⟨i1, hi, hz0, hz1, hz2⟩ := info_parts info29
  go_enter Try.func56, Try.ntmps56
  go_wp2_with fail
  refine HN.out.mono ?_
  rintro en w1 ⟨n, st1, rfl, hv, h1, k1, r1⟩
  have hv2 : n < 256 := by simpa using hv
  have hw : IntKind.i64.wrap (n : Int) = (n : Int) := IntWalk.i64_in _ (by omega)
  obtain ⟨b, hb⟩ : ∃ b : Bool, b = decide (64 < n) := ⟨_, rfl⟩
  have hb2 : decide ((64 : Int) < (n : Int)) = b := by rw [hb, decide_eq_decide]; omega
  have HB := Lib.hid (tBad_any h1 3 (by decide) b)
  have HK := Lib.hid (And.intro k1 (And.intro r1 hb))
  have hb3 := hb.symm
  clear h1 k1 r1 HN hv hb
  go_wp2_with fail
  refine HB.out.mono ?_
  rintro en w2 ⟨rfl, st2, h2, k2, r2⟩
  have HR := Lib.hid (show (∀ ds st', TR st2 (rdNs n) ds st' → TR st rdVec ds st') ∧ (∀ l, st2 = .ok l → n ≤ 64) from by
    refine ⟨fun ds st' hd => TR.eq (TR.bind HK.out.2.1 (r2 := fun n l => andR (rdBad 3 (decide (64 < n)) l) fun _ l => rdNs n l) (TR.bind (r2 := fun _ l => rdNs n l) (by have := HK.out.2.2; rw [← this]; exact r2) hd)) rdVec_eq, fun l hl => ?_⟩
    subst hl
    obtain ⟨l0, _, h0⟩ := r2.okay
    unfold rdBad at h0
    split at h0
    · cases h0
    · rename_i hnb
      rw [HK.out.2.2] at hnb
      simpa using hnb)
  have H2 := Lib.hid (And.intro h2 (HK.out.1.trans k2))
  clear h2 k2 r2 HB hb2 hb3 HK hw
  go_wp2_with fail
  go_loopw [4, 5] (fun u i wr => ∃ (k : Nat) (vs : List Nat) (ad : Option Addr) (cap : Nat) (stk : Except Int (List UInt8)), k ≤ n ∧ k ≤ 64 ∧ i = .int .i64 (k : Int) ∧ u = .slice ad k cap ∧ Hid (vs.length = k ∧ (∀ v ∈ vs, v < 4294967296) ∧ TR st2 (rdNs k) vs stk) ∧ wr.ownsRow w.heap.size 29 1 (.slice ad k cap) k (numsM vs) ∧ TkS wr T s (A + 1 + 4 * k) stk ∧ Kept (fun b => b = T) w wr) (fun _ i _ => n - (intOf i).toNat)
  case atStart => exact ⟨0, [], none, 0, st2, by omega, by omega, rfl, rfl, ⟨rfl, by simp, TR.pure _ _⟩, ⟨rfl, .inl ⟨rfl, rfl⟩⟩, H2.out.1, H2.out.2⟩
  case round =>
    obtain ⟨k, vs, ad, cap, stk, hk, hk6, rfl, rfl, HV, ho, hl, hkr⟩ := hrel
    obtain ⟨p, e, hat, hpA, hst⟩ := hl.ex
    have c2 : wr.cell? ⟨T, 2, none⟩ = some (.int .i64 e) := cell_of_row _ _ 2 _ _ _ hat
    by_cases hlt : k < n
    · have hbool : decide ((k : Int) < (n : Int)) = true := by simpa using hlt
      have hbool' : decide (k < n) = true := by simpa using hlt
      have hki : (k : Int) < (n : Int) := by omega
      by_cases he : e = 0
      · subst he
        have hst0 := (hst.1 rfl).2
        have hk64 : n ≤ 64 := by
          obtain ⟨l0, h0, _⟩ := (show TR st2 (rdNs k) vs (.ok _) from hst0 ▸ HV.out.2.2).okay
          exact HR.out.2 l0 h0
        have HN := Lib.hid (tNum_any hl 4 (by have := HA.out.1; omega) (by omega) (by omega))
        have HB := Lib.hid (And.intro ho (And.intro hkr (And.intro hlt hk64)))
        clear ho hl hkr hlt hat hpA hst hst0 hk64
        go_wp2_with fail
        refine HN.out.mono ?_
        rintro en w4 ⟨v, st4, rfl, hv4, h4, k4, r4⟩
        have hv2 : v < 4294967296 := by simpa using hv4
        have hw : IntKind.u32.wrap (v : Int) = (v : Int) := by rw [IntKind.wrap_u32]; omega
        have hs : TR st2 (rdNs (k + 1)) (vs ++ [v]) st4 := TR.eq (TR.bind HV.out.2.2 (r2 := fun vs l => andR (rdN 4 l) fun v l => .ok (vs ++ [v], l)) (TR.bind (r2 := fun v l => .ok (vs ++ [v], l)) r4 (TR.pure _ _))) (rdNs_next k)
        have ho2 := own_keptS HB.out.1 k4 (fun b hb e => by have h1 := (HB.out.1.lt b hb).1; have := HA.out.2; omega)
        have hsz2 : w.heap.size ≤ w4.heap.size := Nat.le_trans HB.out.2.1.size k4.size
        have H4 := Lib.hid (And.intro h4 (And.intro (HB.out.2.1.trans k4) (And.intro hs (ho2.alloc (.cells #[.int .u32 (v : Int)] 29)))))
        clear h4 k4 r4 HN c2 hs ho2 hv4
        have hkn := HB.out.2.2.1
        have hk64 := HB.out.2.2.2
        go_wp2_with (at_builtin; (refine wpList_append_any _ rfl (.tmp 25) (.tmp 29) 30 rfl w.heap.size 29 i1 _ 1 4 Try.underlying30 hi hz0 hz1 hz2 rfl (by decide) _ k (numsM vs) rfl H4.out.2.2.2 (w4.heap.size + 1) (some ⟨w4.heap.size, 0, none⟩) 1 1 (numsM [v]) rfl (new_cell32 w4 v) (numsM_one _) (by unfold maxLen; omega) (by omega) (by simp; omega) ?_))
        intro v6 w6 ho6 hg6 hu6
        obtain ⟨a6, q6, rfl⟩ := ownForm ho6
        have hblt := fun b hb => (H4.out.2.2.2.lt b hb).1
        have hk6 : Kept (fun b => w.heap.size ≤ b) w4 w6 := by
          have h1 : Kept (fun b => w.heap.size ≤ b) w4 (w4.alloc (.cells #[.int .u32 (v : Int)] 29)) := Kept.of_below (ba (br w4) _)
          refine h1.trans ⟨hg6.os, hg6.tape, hg6.output, hg6.size, fun i hi hs => hg6.block i hi (fun e => hs (hblt i e.symm))⟩
        have HE := Lib.hid (And.intro (show w6.ownsRow w.heap.size 29 1 (.slice a6 (k + 1) q6) (k + 1) (numsM (vs ++ [v])) from by
          have := ho6
          rw [show numsM (vs ++ [v]) = numsM vs ++ numsM [v] by simp [numsM]]
          exact this) (And.intro ((H4.out.1.kept hk6 (by have := HA.out.2; omega)).le (show A + 1 + 4 * k + 4 ≤ A + 1 + 4 * (k + 1) by omega)) (And.intro (show Kept (fun b => b = T) w w6 from by
            have hh := H4.out.2.1
            refine ⟨hk6.os.trans hh.os, hk6.tape.trans hh.tape, hk6.output.trans hh.output, Nat.le_trans hh.size hk6.size, fun i hi hs => ?_⟩
            exact (hk6.block i (Nat.lt_of_lt_of_le hi hh.size) (by omega)).trans (hh.block i hi hs)) (And.intro (show Hid ((vs ++ [v]).length = k + 1 ∧ (∀ x ∈ vs ++ [v], x < 4294967296) ∧ TR st2 (rdNs (k + 1)) (vs ++ [v]) st4) from ⟨by rw [List.length_append, HV.out.1]; rfl, fun x hx => by
              rcases List.mem_append.1 hx with hx | hx
              · exact HV.out.2.1 x hx
              · rw [List.mem_singleton.1 hx]; exact hv2, H4.out.2.2.1⟩) (And.intro hkn hk64)))))
        clear ho6 hg6 hu6 hk6 hkn hw hblt hk64
        go_wp2_with fail
        exact ⟨⟨k + 1, vs ++ [v], a6, q6, st4, HE.out.2.2.2.2.1, by have := HE.out.2.2.2.2; omega, by go_num, by first | rfl | go_num, HE.out.2.2.2.1, HE.out.1, HE.out.2.1, HE.out.2.2.1⟩, measI HE.out.2.2.2.2.1⟩
      · have he2 : (e == 0) = false := by simpa using he
        have he3 : decide (e = 0) = false := by simpa using he
        have hst0 := hst.2 he
        have HE := Lib.hid (show TVec T s A w st (.returned (.slice ad k cap)) wr from by
          refine ⟨vs, ad, cap, stk, by rw [HV.out.1], by unfold OwnN; rw [HV.out.1]; exact ho, by rw [HV.out.1]; exact hk6, HV.out.2.1, hl.le (by omega), hkr, HR.out.1 _ _ ?_⟩
          subst hst0
          refine TR.stay HV.out.2.2 (fun l c hc => ?_)
          rw [show n = k + (n - k) by omega]
          exact rdNs_bad _ _ _ _ hc)
        clear ho hl hkr hat hpA hst hst0
        go_wp2_with fail
        go_ret
        exact HE.out
    · have hbool : decide ((k : Int) < (n : Int)) = false := by simpa using hlt
      have hbool' : decide (k < n) = false := by simpa using hlt
      have hkn : k = n := by omega
      have HE := Lib.hid (show TVec T s A w st (.returned (.slice ad k cap)) wr from by
        refine ⟨vs, ad, cap, stk, by rw [HV.out.1], by unfold OwnN; rw [HV.out.1]; exact ho, by rw [HV.out.1]; exact hk6, HV.out.2.1, hl.le (by omega), hkr, HR.out.1 _ _ ?_⟩
        have := HV.out.2.2
        rw [hkn] at this
        exact this)
      clear ho hl hkr hkn hat hpA hst
      go_wp2_with fail
      go_ret
      exact HE.out
end Go.Proofs.Ytgpojbmloielmaa
namespace Go.Proofs.Ytgpojbmloielmaa
set_option linter.unusedVariables false
set_option linter.unusedSimpArgs false
open Go.RowKit
theorem rdBad_if {α : Type} (c : Int) (P : Prop) [Decidable P] (r : List UInt8 → Except Int (α × List UInt8)) (l : List UInt8) : (andR (rdBad c (decide P) l) fun _ l => r l) = if P then .error c else r l := by
  unfold rdBad
  by_cases h : P
  · rw [if_pos h, if_pos (by simpa using h)]; rfl
  · rw [if_neg h, if_neg (by simpa using h)]; rfl
def textA (s : ByteArray) (p : Nat) : Nat := if s.size < p then s.size else p
def textOk (s : ByteArray) (p n : Nat) : Bool := decide (textA s p + n ≤ s.size)
def textTo (s : ByteArray) (p n : Nat) : Nat := if textA s p + n ≤ s.size then textA s p + n else textA s p
def textV (s : ByteArray) (p n : Nat) : ByteArray := if textA s p + n ≤ s.size then s.extract (textA s p) (textA s p + n) else ⟨#[]⟩
theorem refText_all (s : ByteArray) (p n : Nat) (w : World) (hs : s.size ≤ 1000000000) (hn : n ≤ 1000000000) :
    Calls Try.prog 80 #[.string s, .int .i64 (textA s p : Int), .int .i64 (n : Int)] w fun e w' => e = .returned (.tuple #[.string (textV s p n), .int .i64 (textTo s p n : Int), .bool (textOk s p n)]) ∧ w = w' := by
  have ha : textA s p ≤ s.size := by unfold textA; split <;> omega
  unfold textV textTo textOk
  by_cases h : textA s p + n ≤ s.size
  · rw [if_pos h, if_pos h, decide_eq_true h]
    exact refText_any s _ n w hs ha h
  · rw [if_neg h, if_neg h, decide_eq_false h]
    exact refText_none s _ n w hs ha (by omega) hn
theorem StR.text {s : ByteArray} {p : Nat} {e : Int} {st : Except Int (List UInt8)} (h : StR s p e st) (n : Nat) : textTo s p n ≤ s.size ∧ ∃ st', StR s (textTo s p n) (badE e 2 (!textOk s p n)) st' ∧ TR st (rdT n) (textV s p n) st' := by
  have ha : textA s p ≤ s.size := by unfold textA; split <;> omega
  refine ⟨by unfold textTo; split <;> omega, ?_⟩
  by_cases he : e = 0
  · subst he
    obtain ⟨hp, rfl⟩ := h.1 rfl
    have hpa : textA s p = p := if_neg (by omega)
    have hlen : (s.data.toList.drop p).length = s.size - p := by rw [List.length_drop]; rfl
    unfold textTo textOk textV
    rw [hpa]
    by_cases hpn : p + n ≤ s.size
    · rw [if_pos hpn, if_pos hpn, decide_eq_true hpn]
      refine ⟨.ok (s.data.toList.drop (p + n)), ⟨fun _ => ⟨hpn, rfl⟩, fun h => absurd rfl h⟩, ?_⟩
      unfold TR rdT
      simp only
      rw [if_pos (by rw [hlen]; omega)]
      refine ⟨?_, by rw [List.drop_drop]⟩
      apply ByteArray.ext
      apply Array.ext'
      exact bytes_cut s p n
    · rw [if_neg hpn, if_neg hpn, decide_eq_false hpn]
      refine ⟨.error 2, ⟨fun h => absurd h (by decide), fun _ => rfl⟩, ?_⟩
      unfold TR rdT
      simp only
      rw [if_neg (by rw [hlen]; omega)]
  · have h2 := h.2 he
    subst h2
    refine ⟨.error e, ?_, rfl⟩
    rw [show badE e 2 (!textOk s p n) = e from if_neg (fun h => he h.2)]
    exact ⟨fun h => absurd h he, fun _ => rfl⟩
/-- a variable of a struct's kind that is filled, the result's cells beside it -/
structure TSt (w : World) (T : Nat) (s : ByteArray) (N : Nat) (ty : TypeId) (Z : Array Value) (A : Nat) (C : Array Value) (W : World) (st : Except Int (List UInt8)) (da : Option Addr) (ds : List Nat) (dc : Nat) : Prop where
  n : W.heap[N]? = some (.cells Z ty (0, 0))
  m : W.heap[N + 1]? = some (.cells C ty (0, 0))
  t : TkS W T s A st
  k : Kept (fun b => b = T) w W
  o : OwnN (N + 2) W da ds dc
  hT : T < N
  hN : N = w.heap.size
theorem kept_above {T : Nat} {w W W' : World} {S : Nat → Prop} (h : Kept (fun b => b = T) w W) (hk : Kept S W W') (hs : ∀ b, S b → w.heap.size ≤ b) : Kept (fun b => b = T) w W' :=
  ⟨hk.os.trans h.os, hk.tape.trans h.tape, hk.output.trans h.output, Nat.le_trans h.size hk.size, fun i hi hne => (hk.block i (Nat.lt_of_lt_of_le hi h.size) (fun e => by have := hs i e; omega)).trans (h.block i hi hne)⟩
theorem TSt.call {w : World} {T : Nat} {s : ByteArray} {N : Nat} {ty : TypeId} {Z : Array Value} {A : Nat} {C : Array Value} {W : World} {st : Except Int (List UInt8)} {da : Option Addr} {ds : List Nat} {dc : Nat} (h : TSt w T s N ty Z A C W st da ds dc)
    {W' : World} {A' : Nat} {st' : Except Int (List UInt8)} (hk : Kept (fun b => b = T) W W') (ht : TkS W' T s A' st') : TSt w T s N ty Z A' C W' st' da ds dc :=
  ⟨hk.keep h.n (by have := h.hT; omega), hk.keep h.m (by have := h.hT; omega), ht, h.k.trans hk, own_keptS h.o hk (fun b hb e => by have h1 := (h.o.lt b hb).1; have := h.hT; omega), h.hT, h.hN⟩
theorem TSt.set {w : World} {T : Nat} {s : ByteArray} {N : Nat} {ty : TypeId} {Z : Array Value} {A : Nat} {C : Array Value} {W : World} {st : Except Int (List UInt8)} {da : Option Addr} {ds : List Nat} {dc : Nat} (h : TSt w T s N ty Z A C W st da ds dc)
    (j : Nat) (v : Value) : TSt w T s N ty Z A (C.setIfInBounds j v) (W.setCell ⟨N + 1, j, none⟩ v) st da ds dc := by
  have hk := keptS W ⟨N + 1, j, none⟩ v
  exact ⟨hk.keep h.n (by simp), setCell_block h.m j v, h.t.kept hk (by have := h.hT; simp; omega), kept_above h.k hk (fun b hb => by simp at hb; have := h.hN; omega), own_keptS h.o hk (fun b hb e => by have h1 := (h.o.lt b hb).1; simp at e; omega), h.hT, h.hN⟩
theorem TSt.own {w : World} {T : Nat} {s : ByteArray} {N : Nat} {ty : TypeId} {Z : Array Value} {A : Nat} {C : Array Value} {W : World} {st : Except Int (List UInt8)} {da : Option Addr} {ds : List Nat} {dc : Nat} (h : TSt w T s N ty Z A C W st da ds dc)
    {da' : Option Addr} {ds' : List Nat} {dc' B : Nat} (ho : OwnN B W da' ds' dc') (hB : N + 2 ≤ B) : TSt w T s N ty Z A C W st da' ds' dc' := ⟨h.n, h.m, h.t, h.k, ownMore ho hB, h.hT, h.hN⟩
def rdMsgX (f : Int) (l : List UInt8) : Except Int (Msg × List UInt8) :=
  andR (rdN 4 l) fun seq l => andR (rdN 8 l) fun st l => andR (rdN 1 l) fun sv l => andR (rdBad 1 (decide (2 < sv)) l) fun _ l => andR (rdVec l) fun ds l => andR (rdN 2 l) fun n l => andR (rdBad 3 (decide (1024 < n)) l) fun _ l => andR (rdT n l) fun b l => .ok (⟨f, seq, st, sv, ds, b, none, 0⟩, l)
theorem rdMsgX_eq (f : Int) (l : List UInt8) : rdMsgX f l = rdMsg f l := by
  unfold rdMsgX rdMsg rdMsg2 rdMsg3
  simp only [rdBad_if]
def TMsg (T : Nat) (s : ByteArray) (A : Nat) (w : World) (f : Int) (st : Except Int (List UInt8)) (en : Ending) (w' : World) : Prop :=
  ∃ (m : Msg) (st' : Except Int (List UInt8)), en = .returned (.agg (msgA m)) ∧ OwnN w.heap.size w' m.da m.ds m.dc ∧ TkS w' T s (A + 272) st' ∧ Kept (fun b => b = T) w w' ∧ TR st (rdMsg f) { m with da := none, dc := 0 } st'
set_option maxRecDepth 100000 in
set_option maxHeartbeats 16000000 in
theorem tMsg_any {w : World} {T : Nat} {s : ByteArray} {A : Nat} {st : Except Int (List UInt8)} (h : TkS w T s A st) (hA : A ≤ 8000000) (hA0 : 1000000 ≤ A) (f : Int) :
    Calls Try.prog 54 #[.pointer (some ⟨T, 0, none⟩), .int .i64 f] w fun en w' => TMsg T s A w f st en w' := by
  obtain ⟨N, hN⟩ : ∃ N, N = w.heap.size := ⟨_, rfl⟩
  obtain ⟨W, hW⟩ : ∃ W, W = (w.alloc (.cells #[.int .i64 0, .int .u32 0, .int .u64 0, .int .i64 0, .slice none 0 0, .string ⟨#[]⟩] 32)).alloc (.cells #[.int .i64 f, .int .u32 0, .int .u64 0, .int .i64 0, .slice none 0 0, .string ⟨#[]⟩] 32) := ⟨_, rfl⟩
  have hS : TSt w T s N 32 #[.int .i64 0, .int .u32 0, .int .u64 0, .int .i64 0, .slice none 0 0, .string ⟨#[]⟩] A #[.int .i64 f, .int .u32 0, .int .u64 0, .int .i64 0, .slice none 0 0, .string ⟨#[]⟩] W st none [] 0 := by
    have hb1 := ba (br w) (.cells #[.int .i64 0, .int .u32 0, .int .u64 0, .int .i64 0, .slice none 0 0, .string ⟨#[]⟩] 32)
    have hb2 := ba (br (w.alloc (.cells #[.int .i64 0, .int .u32 0, .int .u64 0, .int .i64 0, .slice none 0 0, .string ⟨#[]⟩] 32))) (.cells #[.int .i64 f, .int .u32 0, .int .u64 0, .int .i64 0, .slice none 0 0, .string ⟨#[]⟩] 32)
    have n1 := (hb2.block w.heap.size (by simp)).trans (heap_alloc_new w (.cells #[.int .i64 0, .int .u32 0, .int .u64 0, .int .i64 0, .slice none 0 0, .string ⟨#[]⟩] 32))
    have n2 := heap_alloc_new (w.alloc (.cells #[.int .i64 0, .int .u32 0, .int .u64 0, .int .i64 0, .slice none 0 0, .string ⟨#[]⟩] 32)) (.cells #[.int .i64 f, .int .u32 0, .int .u64 0, .int .i64 0, .slice none 0 0, .string ⟨#[]⟩] 32)
    rw [show (w.alloc (.cells #[.int .i64 0, .int .u32 0, .int .u64 0, .int .i64 0, .slice none 0 0, .string ⟨#[]⟩] 32)).heap.size = w.heap.size + 1 by simp] at n2
    have hbA := bt hb1 hb2
    rw [← hW] at n1 n2 hbA
    rw [← hN] at n1 n2
    exact ⟨n1, n2, h.below hbA, Kept.of_below hbA, ⟨rfl, .inl ⟨rfl, rfl⟩⟩, by have := h.lt; omega, hN⟩
  have HS := Lib.hid hS
  have HN := Lib.hid (tNum_any hS.t 4 (by omega) (by omega) (by omega))
  have HA := Lib.hid (And.intro hA hA0)
  clear h hS hA hA0
  go_enter Try.func54, Try.ntmps54
  go_upto_region 2 with (fail)
  rw [← hW, ← hN]
  clear hW hN
  go_wp2_with fail
  refine HN.out.mono ?_
  rintro en w1 ⟨seq, st1, rfl, hv1, h1, k1, r1⟩
  have hw1 : IntKind.u32.wrap (seq : Int) = (seq : Int) := by rw [IntKind.wrap_u32]; simp at hv1; omega
  have s1 := HS.out.call k1 h1
  have e1 : w1.cell? ⟨N + 1, 1, none⟩ = some (.int .u32 0) := cell_of_row _ _ 1 _ _ _ s1.m
  have f1 : w1.frozen? ⟨N + 1, 1, none⟩ = false := frozen_of_row _ _ _ _ _ s1.m
  have s1' := s1.set 1 (.int .u32 (seq : Int))
  obtain ⟨V1, hV1⟩ : ∃ V, V = w1.setCell ⟨N + 1, 1, none⟩ (.int .u32 (seq : Int)) := ⟨_, rfl⟩
  rw [← hV1] at s1'
  have HS1 := Lib.hid s1'
  have HC1 := Lib.hid (tNum_any s1'.t 8 (by have := HA.out.1; omega) (by omega) (by omega))
  have HR1 := Lib.hid r1
  clear HN hv1 h1 k1 r1 s1 s1' HS
  go_upto_region 3 with (fail)
  rw [← hV1]
  clear hV1 e1 f1 hw1
  go_wp2_with fail
  refine HC1.out.mono ?_
  rintro en w2 ⟨sta, st2, rfl, hv2, h2, k2, r2⟩
  have s2 := HS1.out.call k2 h2
  have e2 : w2.cell? ⟨N + 1, 2, none⟩ = some (.int .u64 0) := cell_of_row _ _ 2 _ _ _ s2.m
  have f2 : w2.frozen? ⟨N + 1, 2, none⟩ = false := frozen_of_row _ _ _ _ _ s2.m
  have s2' := s2.set 2 (.int .u64 (sta : Int))
  obtain ⟨V2, hV2⟩ : ∃ V, V = w2.setCell ⟨N + 1, 2, none⟩ (.int .u64 (sta : Int)) := ⟨_, rfl⟩
  rw [← hV2] at s2'
  have HS2 := Lib.hid s2'
  have HC2 := Lib.hid (tNum_any s2'.t 1 (by have := HA.out.1; omega) (by omega) (by omega))
  have HR2 := Lib.hid r2
  clear HC1 hv2 h2 k2 r2 s2 s2' HS1
  go_upto_region 4 with (fail)
  rw [← hV2]
  clear hV2 e2 f2
  go_wp2_with fail
  refine HC2.out.mono ?_
  rintro en w3 ⟨sv, st3, rfl, hv3, h3, k3, r3⟩
  have hw3 : IntKind.i64.wrap (sv : Int) = (sv : Int) := IntWalk.i64_in _ (by simp at hv3; omega)
  have s3 := HS2.out.call k3 h3
  have e3 : w3.cell? ⟨N + 1, 3, none⟩ = some (.int .i64 0) := cell_of_row _ _ 3 _ _ _ s3.m
  have f3 : w3.frozen? ⟨N + 1, 3, none⟩ = false := frozen_of_row _ _ _ _ _ s3.m
  have s3' := s3.set 3 (.int .i64 (sv : Int))
  obtain ⟨V3, hV3⟩ : ∃ V, V = w3.setCell ⟨N + 1, 3, none⟩ (.int .i64 (sv : Int)) := ⟨_, rfl⟩
  rw [← hV3] at s3'
  have HS3 := Lib.hid s3'
  obtain ⟨b, hb⟩ : ∃ b : Bool, b = decide (2 < sv) := ⟨_, rfl⟩
  have hb2 : decide ((2 : Int) < (sv : Int)) = b := by rw [hb, decide_eq_decide]; omega
  have hb3 := hb.symm
  have HC3 := Lib.hid (tBad_any s3'.t 1 (by decide) b)
  have c3 : V3.cell? ⟨N + 1, 3, none⟩ = some (.int .i64 (sv : Int)) := cell_of_row _ _ 3 _ _ _ s3'.m
  have HR3 := Lib.hid (And.intro r3 hb)
  clear HC2 hv3 h3 k3 r3 s3 s3' HS2 hb
  go_upto_region 5 with (fail)
  rw [← hV3]
  clear hV3 e3 f3 hw3
  go_wp2_with fail
  refine HC3.out.mono ?_
  rintro en w4 ⟨rfl, st4, h4, k4, r4⟩
  have s4 := HS3.out.call k4 h4
  have HS4 := Lib.hid s4
  have HC4 := Lib.hid (tVec_any h4 (by have := HA.out.1; omega))
  have HR4 := Lib.hid r4
  clear HC3 h4 k4 r4 s4 HS3 c3 hb2 hb3
  go_wp2_with fail
  refine HC4.out.mono ?_
  rintro en w5 ⟨ds, da, dc, st5, rfl, o5, hd5, hl5, h5, k5, r5⟩
  have s5 := (HS4.out.call k5 h5).own o5 (by have := (Array.getElem?_eq_some_iff.1 HS4.out.m).1; omega)
  have e5 : w5.cell? ⟨N + 1, 4, none⟩ = some (.slice none 0 0) := cell_of_row _ _ 4 _ _ _ s5.m
  have f5 : w5.frozen? ⟨N + 1, 4, none⟩ = false := frozen_of_row _ _ _ _ _ s5.m
  obtain ⟨dn, hdn⟩ : ∃ dn, dn = ds.length := ⟨_, rfl⟩
  rw [← hdn]
  have s5' := s5.set 4 (.slice da dn dc)
  obtain ⟨V5, hV5⟩ : ∃ V, V = w5.setCell ⟨N + 1, 4, none⟩ (.slice da dn dc) := ⟨_, rfl⟩
  rw [← hV5] at s5'
  have HS5 := Lib.hid s5'
  have HC5 := Lib.hid (tNum_any s5'.t 2 (by have := HA.out.1; omega) (by omega) (by omega))
  have HR5 := Lib.hid (And.intro r5 hdn)
  clear HC4 o5 hd5 hl5 h5 k5 r5 s5 s5' HS4 hdn
  go_upto_region 7 with (fail)
  rw [← hV5]
  clear hV5 e5 f5
  go_wp2_with fail
  refine HC5.out.mono ?_
  rintro en w6 ⟨n, st6, rfl, hv6, h6, k6, r6⟩
  have hn6 : n < 65536 := by simpa using hv6
  have hw6 : IntKind.i64.wrap (n : Int) = (n : Int) := IntWalk.i64_in _ (by omega)
  have s6 := HS5.out.call k6 h6
  have HS6 := Lib.hid s6
  obtain ⟨b, hb⟩ : ∃ b : Bool, b = decide (1024 < n) := ⟨_, rfl⟩
  have hb2 : decide ((1024 : Int) < (n : Int)) = b := by rw [hb, decide_eq_decide]; omega
  have hb3 := hb.symm
  have HC6 := Lib.hid (tBad_any h6 3 (by decide) b)
  have HR6 := Lib.hid (And.intro r6 hb)
  clear HC5 hv6 h6 k6 r6 s6 HS5 hb
  go_wp2_with fail
  refine HC6.out.mono ?_
  rintro en w7 ⟨rfl, st7, h7, k7, r7⟩
  have s7 := HS6.out.call k7 h7
  obtain ⟨p, e, ht7, hp7, hr7⟩ := h7.ex
  have HR7 := Lib.hid r7
  have hsz := h7.sz
  have HS7 := Lib.hid s7
  obtain ⟨hto, st8, hst8, r8⟩ := hr7.text n
  have HC7 := Lib.hid (show ∀ V : World, Calls Try.prog 80 #[.string s, .int .i64 (textA s p : Int), .int .i64 (n : Int)] V fun e w' => e = .returned (.tuple #[.string (textV s p n), .int .i64 (textTo s p n : Int), .bool (textOk s p n)]) ∧ V = w' from fun V => refText_all s p n V (by omega) (by omega))
  have m7 : (if s.size < p then (s.size : Int) else (p : Int)) = (textA s p : Int) := by unfold textA; split <;> rfl
  have HT7 := Lib.hid (And.intro ht7 (And.intro hsz (And.intro hto (And.intro hst8 r8))))
  generalize textA s p = ta at m7 HC7
  generalize textV s p n = tv at HC7 HT7
  generalize textTo s p n = tt at HC7 HT7
  generalize textOk s p n = tk at HC7 HT7
  have c0 : w7.cell? ⟨T, 0, none⟩ = some (.string s) := cell_of_row _ _ 0 _ _ _ ht7
  have c1 : w7.cell? ⟨T, 1, none⟩ = some (.int .i64 (p : Int)) := cell_of_row _ _ 1 _ _ _ ht7
  clear HC6 h7 k7 r7 s7 HS6 ht7 hp7 hr7 hsz hto hst8 r8 hb2 hb3 hw6
  go_upto_region 9 with (fail)
  refine wp_region_mask (fun w' => w'.cell? ⟨T, 0, none⟩ = some (.string s) ∧ w'.cell? ⟨T, 1, none⟩ = some (.int .i64 (p : Int))) 22 8 [true, true, true, true, true, true, true, true, true, true, true, true, true, true, true, false, false, false, false, false, false, false, false] #[true, true, true, true, true, true, true, true, true, true, true, true, true, true, true, false, false, false, false, false, false, false, false] (by kernel_rfl) (by kernel_rfl) (by kernel_rfl) ⟨c0, c1⟩ ?_
  have HS8 := Lib.hid (show TSt w T s N 32 _ _ _ w7.drew st7 da ds dc from HS7.out.call (Kept.of_below (br w7).drew) (HS7.out.t.below (br w7).drew))
  have HT8 := Lib.hid (show TkAt w7.drew T s p e from HT7.out.1)
  have c01 := Lib.hid (show w7.drew.cell? ⟨T, 0, none⟩ = some (.string s) ∧ w7.drew.cell? ⟨T, 1, none⟩ = some (.int .i64 (p : Int)) from ⟨c0, c1⟩)
  clear c0 c1
  generalize w7.drew = w8 at *
  iterate 15
    refine wpMask_take _ (Or.inl ⟨by rfl, fun w' hS => by (try dsimp only at hS); obtain ⟨hS1, hS2⟩ := hS; go_simp; try with_reducible rfl⟩) ?_
    simp only [Act.put, List.setIfInBounds_toArray, List.set_cons_zero, List.set_cons_succ]
  iterate 8 refine wpMask_skip ?_
  refine wpMask_nil ?_
  refine wpAnyS_ready (rs := [15]) (by kernel_rfl) (by simp) ?_
  refine AllReadyS.cons rfl (fun K hK => ?_) AllReadyS.nil
  go_simp
  refine (HC7.out _).mono ?_
  rintro e' w' ⟨rfl, rfl⟩
  refine hK.out _ _ (fun _ => c01.out) ?_
  clear hK K
  simp only [Act.put, List.setIfInBounds_toArray, List.set_cons_zero, List.set_cons_succ]
  refine wpAnyS_take (i := 16) _ rfl (by kernel_rfl) (Or.inl ⟨by rfl, fun w' hS => by go_simp; try with_reducible rfl⟩) c01.out ?_
  simp only [Act.put, List.setIfInBounds_toArray, List.set_cons_zero, List.set_cons_succ, List.getElem_toArray, List.getElem_cons_succ, List.getElem_cons_zero]
  refine wpAnyS_take (i := 17) _ rfl (by kernel_rfl) (Or.inl ⟨by rfl, fun w' hS => by go_simp; try with_reducible rfl⟩) c01.out ?_
  simp only [Act.put, List.setIfInBounds_toArray, List.set_cons_zero, List.set_cons_succ, List.getElem_toArray, List.getElem_cons_succ, List.getElem_cons_zero]
  refine wpAnyS_take (i := 18) _ rfl (by kernel_rfl) (Or.inl ⟨by rfl, fun w' hS => by go_simp; try with_reducible rfl⟩) c01.out ?_
  simp only [Act.put, List.setIfInBounds_toArray, List.set_cons_zero, List.set_cons_succ, List.getElem_toArray, List.getElem_cons_succ, List.getElem_cons_zero]
  refine wpAnyS_take (i := 19) _ rfl (by kernel_rfl) (Or.inl ⟨by rfl, fun w' hS => by go_simp; try with_reducible rfl⟩) c01.out ?_
  simp only [Act.put, List.setIfInBounds_toArray, List.set_cons_zero, List.set_cons_succ, List.getElem_toArray, List.getElem_cons_succ, List.getElem_cons_zero]
  refine wpAnyS_ready (rs := [20]) (by kernel_rfl) (by simp) ?_
  refine AllReadyS.cons rfl (fun K hK => ?_) AllReadyS.nil
  go_simp
  refine hK.out _ _ (fun _ => c01.out) ?_
  clear hK K
  simp only [Act.put, List.setIfInBounds_toArray, List.set_cons_zero, List.set_cons_succ]
  refine wpAnyS_ready (rs := [21]) (by kernel_rfl) (by simp) ?_
  refine AllReadyS.cons rfl (fun K hK => ?_) AllReadyS.nil
  go_simp
  refine hK.out _ _ (fun _ => c01.out) ?_
  clear hK K
  simp only [Act.put, List.setIfInBounds_toArray, List.set_cons_zero, List.set_cons_succ]
  refine wpAnyS_ready (rs := [22]) (by kernel_rfl) (by simp) ?_
  refine AllReadyS.cons rfl (fun K hK => ?_) AllReadyS.nil
  go_simp
  refine hK.out _ _ (fun h => absurd h (by decide)) ?_
  clear hK K
  simp only [Act.put, List.setIfInBounds_toArray, List.set_cons_zero, List.set_cons_succ]
  refine wpAnyS_done (by kernel_rfl) ?_ _
  have HC8 := Lib.hid (tBad_at HT8.out 2 (!tk))
  clear m7 c01 HC7
  go_wp2_with fail
  refine HC8.out.mono ?_
  rintro en w9 ⟨rfl, h9, k9⟩
  have h9' := h9
  unfold TkAt at h9'
  have e9 : w9.cell? ⟨T, 1, none⟩ = some (.int .i64 (p : Int)) := cell_of_row _ _ 1 _ _ _ h9'
  have f9 : w9.frozen? ⟨T, 1, none⟩ = false := frozen_of_row _ _ _ _ _ h9'
  obtain ⟨V9, hV9⟩ : ∃ V, V = w9.setCell ⟨T, 1, none⟩ (.int .i64 (tt : Int)) := ⟨_, rfl⟩
  have hk9 : Kept (fun b => b = T) w8 V9 := by rw [hV9]; exact k9.trans (keptS w9 ⟨T, 1, none⟩ _)
  have ht9 : TkS V9 T s A st8 := ⟨HT7.out.2.1, tt, _, by rw [hV9]; exact setCell_block h9' 1 _, by have := HT7.out.2.1; have := HT7.out.2.2.1; have := HA.out.2; omega, HT7.out.2.2.2.1⟩
  have s9 := HS8.out.call hk9 ht9
  have HS9 := Lib.hid s9
  have e10 : V9.cell? ⟨N + 1, 5, none⟩ = some (.string ⟨#[]⟩) := cell_of_row _ _ 5 _ _ _ s9.m
  have f10 : V9.frozen? ⟨N + 1, 5, none⟩ = false := frozen_of_row _ _ _ _ _ s9.m
  clear HC8 h9 h9' k9 s9 hk9 ht9 HS8
  go_upto_region 12 with (fail)
  rw [← hV9]
  clear hV9 e9 f9
  obtain ⟨V10, hV10⟩ : ∃ V, V = V9.setCell ⟨N + 1, 5, none⟩ (.string tv) := ⟨_, rfl⟩
  have s10 := HS9.out.set 5 (.string tv)
  rw [← hV10] at s10
  go_upto_region 13 with (fail)
  rw [← hV10]
  clear hV10 e10 f10
  obtain ⟨C, hC⟩ : ∃ C, C = #[Value.int .i64 f, .int .u32 (seq : Int), .int .u64 (sta : Int), .int .i64 (sv : Int), .slice da dn dc, .string tv] := ⟨_, rfl⟩
  have hm : V10.heap[N + 1]? = some (.cells C 32 (0, 0)) := by rw [hC]; exact s10.m
  have HC := Lib.hid (And.intro hC (And.intro (show C.size = 6 by rw [hC]; rfl) (show C.all (·.oneCell') = true by rw [hC]; simp [Value.oneCell'])))
  have hn := s10.n
  have hst : (V10.setRow N C).heap[N]? = some (.cells C 32 (0, 0)) := setRow_heap _ _ _ _ _ _ hn
  have hk := kept_setRow' V10 N C
  have HX := Lib.hid (And.intro hm (And.intro hn hst))
  have HE := Lib.hid (show TMsg T s A w f st (.returned (.agg C)) (V10.setRow N C) from by
    refine ⟨⟨f, seq, sta, sv, ds, tv, da, dc⟩, st8, by rw [HC.out.1, HR5.out.2]; rfl, ?_, (s10.t.kept hk (by have := s10.hT; omega)).le (by omega), kept_above s10.k hk (fun b hb => by have := s10.hN; omega), ?_⟩
    · have h1 := own_keptS s10.o hk (fun b hb e => by have h1 := (s10.o.lt b hb).1; omega)
      exact ownMore h1 (by have := s10.hN; omega)
    · refine TR.eq (r := rdMsgX f) ?_ (rdMsgX_eq f)
      refine TR.bind HR1.out ?_
      refine TR.bind HR2.out ?_
      refine TR.bind HR3.out.1 ?_
      refine TR.bind (by rw [← HR3.out.2]; exact HR4.out) ?_
      refine TR.bind HR5.out.1 ?_
      refine TR.bind HR6.out.1 ?_
      refine TR.bind (by rw [← HR6.out.2]; exact HR7.out) ?_
      refine TR.bind HT7.out.2.2.2.2 ?_
      exact TR.pure _ _)
  clear hC hm hn hst hk s10 HS9
  go_wp2_with (first
    | (refine wpList_load_row rfl 32 (.tmp 5) rfl (N + 1) rfl 32 C (0, 0) _ HX.out.1 Try.underlying32 rfl (by rw [HC.out.2.1]; kernel_rfl) ?_)
    | (refine wpList_store_row rfl 32 (.tmp 4) (.tmp 68) rfl N C rfl rfl 32 _ HX.out.2.1 (by rw [HC.out.2.1]; kernel_rfl) (by rw [HC.out.2.1]; rfl) HC.out.2.2 ?_))
  refine bodyPost_ret (results_cell_row Try.results54 _ _ N 32 C (0, 0) _ rfl HX.out.2.2 Try.underlying32 rfl (by rw [HC.out.2.1]; kernel_rfl)) rfl ?_
  exact HE.out
end Go.Proofs.Ytgpojbmloielmaa
namespace Go.Proofs.Ytgpojbmloielmaa
set_option linter.unusedVariables false
set_option linter.unusedSimpArgs false
open Go.RowKit
/-- as TSt, with the variable in whatever block -/
structure USt (w : World) (T : Nat) (s : ByteArray) (N M : Nat) (ty : TypeId) (Z : Array Value) (A : Nat) (C : Array Value) (W : World) (st : Except Int (List UInt8)) (da : Option Addr) (ds : List Nat) (dc : Nat) : Prop where
  n : W.heap[N]? = some (.cells Z ty (0, 0))
  m : W.heap[M]? = some (.cells C ty (0, 0))
  t : TkS W T s A st
  k : Kept (fun b => b = T) w W
  o : OwnN (M + 1) W da ds dc
  hT : T < N
  hN : N = w.heap.size
  hM : N < M
theorem USt.call {w : World} {T : Nat} {s : ByteArray} {N M : Nat} {ty : TypeId} {Z : Array Value} {A : Nat} {C : Array Value} {W : World} {st : Except Int (List UInt8)} {da : Option Addr} {ds : List Nat} {dc : Nat} (h : USt w T s N M ty Z A C W st da ds dc)
    {W' : World} {A' : Nat} {st' : Except Int (List UInt8)} (hk : Kept (fun b => b = T) W W') (ht : TkS W' T s A' st') : USt w T s N M ty Z A' C W' st' da ds dc :=
  ⟨hk.keep h.n (by have := h.hT; omega), hk.keep h.m (by have := h.hT; have := h.hM; omega), ht, h.k.trans hk, own_keptS h.o hk (fun b hb e => by have h1 := (h.o.lt b hb).1; have := h.hT; have := h.hM; omega), h.hT, h.hN, h.hM⟩
theorem USt.set {w : World} {T : Nat} {s : ByteArray} {N M : Nat} {ty : TypeId} {Z : Array Value} {A : Nat} {C : Array Value} {W : World} {st : Except Int (List UInt8)} {da : Option Addr} {ds : List Nat} {dc : Nat} (h : USt w T s N M ty Z A C W st da ds dc)
    (j : Nat) (v : Value) : USt w T s N M ty Z A (C.setIfInBounds j v) (W.setCell ⟨M, j, none⟩ v) st da ds dc := by
  have hk := keptS W ⟨M, j, none⟩ v
  have hM := h.hM
  exact ⟨hk.keep h.n (by simp; omega), setCell_block h.m j v, h.t.kept hk (by have := h.hT; simp; omega), kept_above h.k hk (fun b hb => by simp at hb; have := h.hN; omega), own_keptS h.o hk (fun b hb e => by have h1 := (h.o.lt b hb).1; simp at e; omega), h.hT, h.hN, h.hM⟩
theorem USt.own {w : World} {T : Nat} {s : ByteArray} {N M : Nat} {ty : TypeId} {Z : Array Value} {A : Nat} {C : Array Value} {W : World} {st : Except Int (List UInt8)} {da : Option Addr} {ds : List Nat} {dc : Nat} (h : USt w T s N M ty Z A C W st da ds dc)
    {da' : Option Addr} {ds' : List Nat} {dc' B : Nat} (ho : OwnN B W da' ds' dc') (hB : M + 1 ≤ B) : USt w T s N M ty Z A C W st da' ds' dc' := ⟨h.n, h.m, h.t, h.k, ownMore ho hB, h.hT, h.hN, h.hM⟩
theorem rdEx_eq (l : List UInt8) : (andR (rdProc l) fun who l => andR (rdConf l) fun o l => andR (rdVec l) fun cs l => andR (rdN 8 l) fun e l => andR (rdProc l) fun r l => (.ok ((⟨who, o.1, o.2, cs, e, r, none, 0⟩ : Exch), l) : Except Int (Exch × List UInt8))) = rdEx l := by
  unfold rdEx
  congr 1; funext who l; congr 1; funext o l; congr 1; funext cs l
  rw [← rdConf_eq]
  rcases rdN 8 l with c | ⟨e, l1⟩
  · rfl
  · simp only [andR]
    rcases rdProc l1 with c | ⟨r, l2⟩ <;> rfl
def TEx (T : Nat) (s : ByteArray) (A : Nat) (w : World) (st : Except Int (List UInt8)) (en : Ending) (w' : World) : Prop :=
  ∃ (x : Exch) (st' : Except Int (List UInt8)), en = .returned (.agg (exA x)) ∧ OwnN w.heap.size w' x.ca x.cs x.cc ∧ TkS w' T s (A + 276) st' ∧ Kept (fun b => b = T) w w' ∧ TR st rdEx { x with ca := none, cc := 0 } st'
set_option maxRecDepth 100000 in
set_option maxHeartbeats 16000000 in
theorem tEx_any {w : World} {T : Nat} {s : ByteArray} {A : Nat} {st : Except Int (List UInt8)} (h : TkS w T s A st) (hA : A ≤ 8000000) :
    Calls Try.prog 58 #[.pointer (some ⟨T, 0, none⟩)] w fun en w' => TEx T s A w st en w' := by
  obtain ⟨N, hN⟩ : ∃ N, N = w.heap.size := ⟨_, rfl⟩
  obtain ⟨W, hW⟩ : ∃ W, W = w.alloc (.cells #[.int .i64 0, .int .u64 0, .int .i64 0, .slice none 0 0, .int .u64 0, .int .i64 0] 51) := ⟨_, rfl⟩
  have hbA := ba (br w) (.cells #[.int .i64 0, .int .u64 0, .int .i64 0, .slice none 0 0, .int .u64 0, .int .i64 0] 51)
  have hxA := heap_alloc_new w (.cells #[.int .i64 0, .int .u64 0, .int .i64 0, .slice none 0 0, .int .u64 0, .int .i64 0] 51)
  rw [← hW] at hxA hbA
  rw [← hN] at hxA
  have hlt := h.lt
  have hne : N ≠ T := by omega
  have HN := Lib.hid (tProc_any (h.below hbA) (by omega))
  have HX := Lib.hid (And.intro hbA (And.intro hxA (And.intro hne (And.intro hN hlt))))
  have HA := Lib.hid hA
  clear h hbA hxA hlt hne hA
  go_enter Try.func58, Try.ntmps58
  go_upto_region 1 with (fail)
  rw [← hW, ← hN]
  clear hW hN
  go_wp2_with fail
  refine HN.out.mono ?_
  rintro en w1 ⟨who, st1, rfl, hv1, h1, k1, r1⟩
  obtain ⟨M, hM⟩ : ∃ M, M = w1.heap.size := ⟨_, rfl⟩
  obtain ⟨V1, hV1⟩ : ∃ V, V = w1.alloc (.cells #[.int .i64 (who : Int), .int .u64 0, .int .i64 0, .slice none 0 0, .int .u64 0, .int .i64 0] 51) := ⟨_, rfl⟩
  have hb1 := ba (br w1) (.cells #[.int .i64 (who : Int), .int .u64 0, .int .i64 0, .slice none 0 0, .int .u64 0, .int .i64 0] 51)
  have hx1 := heap_alloc_new w1 (.cells #[.int .i64 (who : Int), .int .u64 0, .int .i64 0, .slice none 0 0, .int .u64 0, .int .i64 0] 51)
  rw [← hV1] at hx1 hb1
  rw [← hM] at hx1
  have x1 := k1.keep HX.out.2.1 HX.out.2.2.1
  have s1 : USt w T s N M 51 #[.int .i64 0, .int .u64 0, .int .i64 0, .slice none 0 0, .int .u64 0, .int .i64 0] (A + 1) #[.int .i64 (who : Int), .int .u64 0, .int .i64 0, .slice none 0 0, .int .u64 0, .int .i64 0] V1 st1 none [] 0 :=
    ⟨(hb1.block _ (Array.getElem?_eq_some_iff.1 x1).1).trans x1, hx1, h1.below hb1, ((Kept.of_below HX.out.1).trans k1).trans (Kept.of_below hb1), ⟨rfl, .inl ⟨rfl, rfl⟩⟩, by have := HX.out.2.2.2.1; have := HX.out.2.2.2.2; omega, HX.out.2.2.2.1, by have := (Array.getElem?_eq_some_iff.1 x1).1; omega⟩
  have HS1 := Lib.hid s1
  have HC1 := Lib.hid (tConf_any s1.t (by have := HA.out; omega))
  have HR1 := Lib.hid r1
  clear HN hv1 h1 k1 r1 s1 hb1 hx1 x1
  go_upto_region 2 with (fail)
  rw [← hV1, ← hM]
  clear hV1 hM
  go_wp2_with fail
  refine HC1.out.mono ?_
  rintro en w2 ⟨oe, orp, st2, rfl, hv2, h2, k2, r2⟩
  have s2 := HS1.out.call k2 h2
  have e2 : w2.cell? ⟨M, 1, none⟩ = some (.int .u64 0) := cell_of_row _ _ 1 _ _ _ s2.m
  have e2' : w2.cell? ⟨M, 2, none⟩ = some (.int .i64 0) := cell_of_row _ _ 2 _ _ _ s2.m
  have f2 : w2.frozen? ⟨M, 1, none⟩ = false := frozen_of_row _ _ _ _ _ s2.m
  have f2' : w2.frozen? ⟨M, 2, none⟩ = false := frozen_of_row _ _ _ _ _ s2.m
  have s2' := (s2.set 1 (.int .u64 (oe : Int))).set 2 (.int .i64 (orp : Int))
  obtain ⟨V2, hV2⟩ : ∃ V, V = (w2.setCell ⟨M, 1, none⟩ (.int .u64 (oe : Int))).setCell ⟨M, 2, none⟩ (.int .i64 (orp : Int)) := ⟨_, rfl⟩
  rw [← hV2] at s2'
  have HS2 := Lib.hid s2'
  have HC2 := Lib.hid (tVec_any s2'.t (by have := HA.out; omega))
  have HR2 := Lib.hid r2
  clear HC1 hv2 h2 k2 r2 s2 s2' HS1
  go_upto_region 3 with (fail)
  rw [← hV2]
  clear hV2 e2 f2 e2' f2'
  go_wp2_with fail
  refine HC2.out.mono ?_
  rintro en w5 ⟨ds, da, dc, st5, rfl, o5, hd5, hl5, h5, k5, r5⟩
  have s5 := (HS2.out.call k5 h5).own o5 (by have := (Array.getElem?_eq_some_iff.1 HS2.out.m).1; omega)
  have e5 : w5.cell? ⟨M, 3, none⟩ = some (.slice none 0 0) := cell_of_row _ _ 3 _ _ _ s5.m
  have f5 : w5.frozen? ⟨M, 3, none⟩ = false := frozen_of_row _ _ _ _ _ s5.m
  obtain ⟨dn, hdn⟩ : ∃ dn, dn = ds.length := ⟨_, rfl⟩
  rw [← hdn]
  have s5' := s5.set 3 (.slice da dn dc)
  obtain ⟨V5, hV5⟩ : ∃ V, V = w5.setCell ⟨M, 3, none⟩ (.slice da dn dc) := ⟨_, rfl⟩
  rw [← hV5] at s5'
  have HS5 := Lib.hid s5'
  have HC5 := Lib.hid (tNum_any s5'.t 8 (by have := HA.out; omega) (by omega) (by omega))
  have HR5 := Lib.hid (And.intro r5 hdn)
  clear HC2 o5 hd5 hl5 h5 k5 r5 s5 s5' HS2 hdn
  go_upto_region 4 with (fail)
  rw [← hV5]
  clear hV5 e5 f5
  go_wp2_with fail
  refine HC5.out.mono ?_
  rintro en w6 ⟨ls, st6, rfl, hv6, h6, k6, r6⟩
  have s6 := HS5.out.call k6 h6
  have e6 : w6.cell? ⟨M, 4, none⟩ = some (.int .u64 0) := cell_of_row _ _ 4 _ _ _ s6.m
  have f6 : w6.frozen? ⟨M, 4, none⟩ = false := frozen_of_row _ _ _ _ _ s6.m
  have s6' := s6.set 4 (.int .u64 (ls : Int))
  obtain ⟨V6, hV6⟩ : ∃ V, V = w6.setCell ⟨M, 4, none⟩ (.int .u64 (ls : Int)) := ⟨_, rfl⟩
  rw [← hV6] at s6'
  have HS6 := Lib.hid s6'
  have HC6 := Lib.hid (tProc_any s6'.t (by have := HA.out; omega))
  have HR6 := Lib.hid r6
  clear HC5 hv6 h6 k6 r6 s6 s6' HS5
  go_upto_region 5 with (fail)
  rw [← hV6]
  clear hV6 e6 f6
  go_wp2_with fail
  refine HC6.out.mono ?_
  rintro en w7 ⟨lf, st7, rfl, hv7, h7, k7, r7⟩
  have s7 := HS6.out.call k7 h7
  have e7 : w7.cell? ⟨M, 5, none⟩ = some (.int .i64 0) := cell_of_row _ _ 5 _ _ _ s7.m
  have f7 : w7.frozen? ⟨M, 5, none⟩ = false := frozen_of_row _ _ _ _ _ s7.m
  have s10 := s7.set 5 (.int .i64 (lf : Int))
  obtain ⟨V10, hV10⟩ : ∃ V, V = w7.setCell ⟨M, 5, none⟩ (.int .i64 (lf : Int)) := ⟨_, rfl⟩
  rw [← hV10] at s10
  have HR7 := Lib.hid r7
  clear HC6 hv7 h7 k7 r7 s7 HS6
  go_upto_region 6 with (fail)
  rw [← hV10]
  clear hV10 e7 f7
  obtain ⟨C, hC⟩ : ∃ C, C = #[Value.int .i64 (who : Int), .int .u64 (oe : Int), .int .i64 (orp : Int), .slice da dn dc, .int .u64 (ls : Int), .int .i64 (lf : Int)] := ⟨_, rfl⟩
  have hm : V10.heap[M]? = some (.cells C 51 (0, 0)) := by rw [hC]; exact s10.m
  have HC := Lib.hid (And.intro hC (And.intro (show C.size = 6 by rw [hC]; rfl) (show C.all (·.oneCell') = true by rw [hC]; simp [Value.oneCell'])))
  have hn := s10.n
  have hst : (V10.setRow N C).heap[N]? = some (.cells C 51 (0, 0)) := setRow_heap _ _ _ _ _ _ hn
  have hk := kept_setRow' V10 N C
  have HX := Lib.hid (And.intro hm (And.intro hn hst))
  have HE := Lib.hid (show TEx T s A w st (.returned (.agg C)) (V10.setRow N C) from by
    refine ⟨⟨who, oe, orp, ds, ls, lf, da, dc⟩, st7, by rw [HC.out.1, HR5.out.2]; rfl, ?_, (s10.t.kept hk (by have := s10.hT; omega)).le (by omega), kept_above s10.k hk (fun b hb => by have := s10.hN; omega), ?_⟩
    · have h1 := own_keptS s10.o hk (fun b hb e => by have h1 := (s10.o.lt b hb).1; have := s10.hM; omega)
      exact ownMore h1 (by have := s10.hN; have := s10.hM; omega)
    · refine TR.eq (r := fun l => andR (rdProc l) fun who l => andR (rdConf l) fun o l => andR (rdVec l) fun cs l => andR (rdN 8 l) fun e l => andR (rdProc l) fun r l => .ok (⟨who, o.1, o.2, cs, e, r, none, 0⟩, l)) ?_ rdEx_eq
      refine TR.bind HR1.out ?_
      refine TR.bind HR2.out ?_
      refine TR.bind HR5.out.1 ?_
      refine TR.bind HR6.out ?_
      refine TR.bind HR7.out ?_
      exact TR.pure _ _)
  clear hC hm hn hst hk s10
  go_wp2_with (first
    | (refine wpList_load_row rfl 51 (.tmp 3) rfl M rfl 51 C (0, 0) _ HX.out.1 Try.underlying51 rfl (by rw [HC.out.2.1]; kernel_rfl) ?_)
    | (refine wpList_store_row rfl 51 (.tmp 2) (.tmp 21) rfl N C rfl rfl 51 _ HX.out.2.1 (by rw [HC.out.2.1]; kernel_rfl) (by rw [HC.out.2.1]; rfl) HC.out.2.2 ?_))
  refine bodyPost_ret (results_cell_row Try.results58 _ _ N 51 C (0, 0) _ rfl HX.out.2.2 Try.underlying51 rfl (by rw [HC.out.2.1]; kernel_rfl)) rfl ?_
  exact HE.out
end Go.Proofs.Ytgpojbmloielmaa
