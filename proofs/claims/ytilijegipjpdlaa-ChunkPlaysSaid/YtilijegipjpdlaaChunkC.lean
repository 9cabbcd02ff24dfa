/-
  What chunk.New, Take and Whole return.
  Conditions: none.
-/
import Derived.Test.YtilijegipjpdlaaChunkB
import Derived.Test.YtilijegipjpdlaaKept
import Derived.Test.YtilijegipjpdlaaIMap
namespace Go.Proofs.Ytilijegipjpdlaa
set_option linter.unusedVariables false
open Go.RowKit IM
/-- chunks that came, in the order in which they came -/
abbrev Chs := List (Int × ByteArray)
def strs (L : Chs) : List (Int × Value) := L.map fun x => (x.1, .string x.2)
def AsmAt (w : World) (D M : Nat) (n : Nat) (t : Int) (L : Chs) : Prop := w.heap[D]? = some (.cells #[.int .u64 (n : Int), .int .i64 t, .map (some M)] 65 (0, 0)) ∧ IMap w M .i64 (strs L)
theorem AsmAt.ne {w : World} {D M n : Nat} {t : Int} {L : Chs} (h : AsmAt w D M n t L) : D ≠ M := by
  rintro rfl
  obtain ⟨h0, _, es, c, h1, _⟩ := h
  rw [h0] at h1
  cases h1
theorem AsmAt.lt {w : World} {D M n : Nat} {t : Int} {L : Chs} (h : AsmAt w D M n t L) : D < w.heap.size ∧ M < w.heap.size := ⟨(Array.getElem?_eq_some_iff.1 h.1).1, h.2.lt⟩
theorem AsmAt.kept {w w' : World} {D M n : Nat} {t : Int} {L : Chs} {S : Nat → Prop} (h : AsmAt w D M n t L) (hk : Kept S w w') (hD : ¬ S D) (hM : ¬ S M) : AsmAt w' D M n t L :=
  ⟨hk.keep h.1 hD, h.2.keep (hk.block _ h.2.lt hM)⟩
theorem AsmAt.below {w w' : World} {D M n : Nat} {t : Int} {L : Chs} (h : AsmAt w D M n t L) (hb : Below w.heap.size w w') : AsmAt w' D M n t L := h.kept (S := fun _ => False) (.of_below hb) (fun h => h) (fun h => h)
def TwoB (D M : Nat) (k : Nat) : Prop := k = D ∨ k = M
def NewPost (n : Nat) (w : World) (e : Ending) (w' : World) : Prop := ∃ D M, e = .returned (.pointer (some ⟨D, 0, none⟩)) ∧ AsmAt w' D M n 0 [] ∧ Below w.heap.size w w' ∧ w.heap.size ≤ D ∧ w.heap.size ≤ M
theorem New_any (n : Nat) (w : World) : Calls Try.prog 11 #[.int .u64 (n : Int)] w (NewPost n w) := by
  have hmm := @run_makeMap Try.prog
  go_enter Try.func11, Try.ntmps11
  go_wp2
  go_ret
  exact ⟨w.heap.size + 1, w.heap.size, rfl, ⟨heap_alloc2_new _ _ _, (IMap.made w .i64).alloc _⟩, ba (ba (br _) _) _, by omega, Nat.le_refl _⟩
def hasC (L : Chs) (i : Int) : Bool := L.any fun x => x.1 == i
theorem strs_has (L : Chs) (i : Int) : IM.has (strs L) i = hasC L i := by
  unfold IM.has hasC strs
  induction L with
  | nil => rfl
  | cons x L ih =>
    simp only [List.map_cons, List.find?_cons, List.any_cons]
    cases h : x.1 == i
    · simpa using ih
    · simp
def okC (n : Nat) (t : Int) (L : Chs) (x : ItemV) : Prop := x.kind = 4 ∧ x.number = n ∧ 1 ≤ x.total ∧ x.total ≤ 16 ∧ 0 ≤ x.index ∧ x.index < x.total ∧ (L = [] ∨ x.total = t)
instance (n : Nat) (t : Int) (L : Chs) (x : ItemV) : Decidable (okC n t L x) := by unfold okC; exact inferInstance
def countC (n : Nat) (t : Int) (L : Chs) (x : ItemV) : Bool := decide (okC n t L x) && !hasC L x.index
def takeT (n : Nat) (t : Int) (L : Chs) (x : ItemV) : Int := if countC n t L x = true then x.total else t
def takeL (n : Nat) (t : Int) (L : Chs) (x : ItemV) : Chs := if countC n t L x = true then L ++ [(x.index, x.data)] else L
def takeB (n : Nat) (t : Int) (L : Chs) (x : ItemV) : Bool := countC n t L x && decide ((L.length : Int) + 1 = x.total)
def TakePost (w : World) (D M : Nat) (n : Nat) (t : Int) (L : Chs) (x : ItemV) (e : Ending) (w' : World) : Prop := e = .returned (.bool (takeB n t L x)) ∧ AsmAt w' D M n (takeT n t L x) (takeL n t L x) ∧ Kept (TwoB D M) w w'
theorem TakePost.no {w w' : World} {D M n : Nat} {t : Int} {L : Chs} {x : ItemV} (h : countC n t L x = false) (hA : AsmAt w D M n t L) (hb : Below w.heap.size w w') : TakePost w D M n t L x (.returned (.bool false)) w' := by
  unfold TakePost takeB takeT takeL
  rw [h]
  exact ⟨rfl, hA.below hb, .of_below hb⟩
set_option maxHeartbeats 4000000 in
theorem Take_no (D M n : Nat) (t : Int) (L : Chs) (x : ItemV) (w : World) (h : AsmAt w D M n t L) (hok : ¬ okC n t L x) (hlen : L.length ≤ 16) :
    Calls Try.prog 12 #[.pointer (some ⟨D, 0, none⟩), .agg (itemA x)] w (TakePost w D M n t L x) := by
  have hc : countC n t L x = false := by unfold countC; rw [decide_eq_false hok]; rfl
  have hno := Lib.hid (fun w' => TakePost.no (w' := w') hc h)
  obtain ⟨x0, x1, x2, x3, x4, x5, ⟨x6, x7, x8, x9, x10, x10b, x10c⟩, x11, x12, x13, x14, x15, x16, x17⟩ := x
  generalize TakePost w D M n t L _ = Q at *
  unfold okC at hok
  simp only at hok
  have c0 : w.cell? ⟨D, 0, none⟩ = some (.int .u64 (n : Int)) := cell_of_row _ _ 0 _ _ _ h.1
  have c1 : w.cell? ⟨D, 1, none⟩ = some (.int .i64 t) := cell_of_row _ _ 1 _ _ _ h.1
  have c2 : w.cell? ⟨D, 2, none⟩ = some (.map (some M)) := cell_of_row _ _ 2 _ _ _ h.1
  have a0 := fun o : Obj => (World.cell?_alloc_lt w o ⟨D, 0, none⟩ h.lt.1).trans c0
  have a1 := fun o : Obj => (World.cell?_alloc_lt w o ⟨D, 1, none⟩ h.lt.1).trans c1
  have a2 := fun o : Obj => (World.cell?_alloc_lt w o ⟨D, 2, none⟩ h.lt.1).trans c2
  clear c0 c1 c2
  have hlenm := fun (W : World) (hW : AsmAt W D M n t L) => hW.2.len Try.underlying63 3
  have hsl : (strs L).length = L.length := by unfold strs; simp
  rw [hsl] at hlenm
  have hl1 : ∀ k, (Builtin.len_ #[63] 3 #[.map (some M)]).run Try.prog ((w.alloc (.cells (itemA ⟨x0, x1, x2, x3, x4, x5, ⟨x6, x7, x8, x9, x10, x10b, x10c⟩, x11, x12, x13, x14, x15, x16, x17⟩) 42)).drewN k) = .ok (.int .i64 (L.length : Int)) ((w.alloc (.cells (itemA ⟨x0, x1, x2, x3, x4, x5, ⟨x6, x7, x8, x9, x10, x10b, x10c⟩, x11, x12, x13, x14, x15, x16, x17⟩) 42)).drewN k) :=
    fun k => hlenm _ (h.below (bn (ba (br _) _) k))
  unfold itemA at hl1 ⊢
  simp only at hl1 ⊢
  clear hlenm hsl
  have HN := Lib.hid (show ∀ k, Below w.heap.size w ((w.alloc (.cells (itemA ⟨x0, x1, x2, x3, x4, x5, ⟨x6, x7, x8, x9, x10, x10b, x10c⟩, x11, x12, x13, x14, x15, x16, x17⟩) 42)).drewN k) from fun k => bn (ba (br _) _) k)
  have hA := Lib.hid h
  clear h
  by_cases h0 : x0 = 4
  · subst h0
    by_cases h1 : x15 = n
    · subst h1
      by_cases h2 : x17 < 1
      · have d2 : decide (x17 < 1) = true := by simpa using h2
        go_enter Try.func12, Try.ntmps12
        go_wp2
        go_quiet (fail)
        go_wp2
        exact hno.out _ (HN.out _)
      have d2 : decide (x17 < 1) = false := by simpa using h2
      by_cases h3 : 16 < x17
      · have d3 : decide (16 < x17) = true := by simpa using h3
        go_enter Try.func12, Try.ntmps12
        go_wp2
        go_quiet (fail)
        go_wp2
        exact hno.out _ (HN.out _)
      have d3 : decide (16 < x17) = false := by simpa using h3
      by_cases h4 : x16 < 0
      · have d4 : decide (x16 < 0) = true := by simpa using h4
        go_enter Try.func12, Try.ntmps12
        go_wp2
        go_quiet (fail)
        go_wp2
        exact hno.out _ (HN.out _)
      have d4 : decide (x16 < 0) = false := by simpa using h4
      by_cases h5 : x17 ≤ x16
      · have d5 : decide (x17 ≤ x16) = true := by simpa using h5
        go_enter Try.func12, Try.ntmps12
        go_wp2
        go_quiet (fail)
        go_wp2
        exact hno.out _ (HN.out _)
      have d5 : decide (x17 ≤ x16) = false := by simpa using h5
      have h6 : L ≠ [] ∧ x17 ≠ t := by
        refine ⟨fun e => hok ⟨rfl, rfl, by omega, by omega, by omega, by omega, .inl e⟩, fun e => hok ⟨rfl, rfl, by omega, by omega, by omega, by omega, .inr e⟩⟩
      have h7 : 0 < L.length := List.length_pos_iff.2 h6.1
      have d6 : decide ((0 : Int) < (L.length : Int)) = true := by simp; omega
      have d6' : decide (0 < L.length) = true := by simp; omega
      have d7 : (x17 == t) = false := by simpa using h6.2
      have d7' : (x17 != t) = true := by simpa using h6.2
      clear h6 hok
      go_enter Try.func12, Try.ntmps12
      go_wp2
      go_quiet (fail)
      go_wp2
      exact hno.out _ (HN.out _)
    · have d1 : ((x15 : Int) == (n : Int)) = false := by simp; omega
      have d1' : ((x15 : Int) != (n : Int)) = true := by simp; omega
      go_enter Try.func12, Try.ntmps12
      go_wp2
      go_quiet (fail)
      go_wp2
      exact hno.out _ (HN.out _)
  · have d0 : (x0 == 4) = false := by simpa using h0
    have d0' : (x0 != 4) = true := by simpa using h0
    go_enter Try.func12, Try.ntmps12
    go_wp2
    go_quiet (fail)
    go_wp2
    exact hno.out _ (HN.out _)
theorem strs_append (L : Chs) (i : Int) (d : ByteArray) : strs (L ++ [(i, d)]) = strs L ++ [(i, .string d)] := by unfold strs; simp
theorem strs_length (L : Chs) : (strs L).length = L.length := by unfold strs; simp
theorem AsmAt.set {w w2 : World} {D M n : Nat} {t T : Int} {L L' : Chs} (h : AsmAt w D M n t L) (hg : (w.setCell ⟨D, 1, none⟩ (.int .i64 T)).grownBy w2 (some M)) (hm : IMap w2 M .i64 (strs L')) : AsmAt w2 D M n T L' ∧ Kept (TwoB D M) w w2 := by
  have hne := h.ne
  have h1 := setCell_block h.1 1 (.int .i64 T)
  have hk : Kept (TwoB D M) w (w.setCell ⟨D, 1, none⟩ (.int .i64 T)) := (Kept.refl _ w).setCell (.inl rfl) _
  have hk2 := hk.trans ((Kept.of_grown hg).more (T := TwoB D M) (fun k _ e => .inr e))
  exact ⟨⟨(Kept.of_grown hg).keep h1 hne, hm⟩, hk2⟩
theorem wp_named {P : Program} {c : Code} {Q : Exit → Act → World → Prop} {a : Act} {w : World} (h : ∀ w', w = w' → c.wp P Q a w') : c.wp P Q a w := h w rfl
set_option maxHeartbeats 4000000 in
theorem Take_yes (D M n : Nat) (t : Int) (L : Chs) (x : ItemV) (w : World) (h : AsmAt w D M n t L) (hok : okC n t L x) (hlen : L.length ≤ 16) :
    Calls Try.prog 12 #[.pointer (some ⟨D, 0, none⟩), .agg (itemA x)] w (TakePost w D M n t L x) := by
  have hno : hasC L x.index = true → ∀ w', Below w.heap.size w w' → TakePost w D M n t L x (.returned (.bool false)) w' := fun hh w' hb => TakePost.no (by unfold countC; rw [hh]; simp) h hb
  have hyes : hasC L x.index = false → ∀ w', AsmAt w' D M n x.total (L ++ [(x.index, x.data)]) → Kept (TwoB D M) w w' → TakePost w D M n t L x (.returned (.bool (decide ((L.length : Int) + 1 = x.total)))) w' := by
    intro hh w' hA hk
    have hc : countC n t L x = true := by unfold countC; rw [hh]; simpa using hok
    unfold TakePost takeB takeT takeL
    rw [if_pos hc, if_pos hc, hc]
    exact ⟨rfl, hA, hk⟩
  obtain ⟨x0, x1, x2, x3, x4, x5, ⟨x6, x7, x8, x9, x10, x10b, x10c⟩, x11, x12, x13, x14, x15, x16, x17⟩ := x
  simp only at hno hyes
  generalize TakePost w D M n t L _ = Q at *
  unfold okC at hok
  simp only at hok
  obtain ⟨rfl, rfl, h2, h3, h4, h5, h6⟩ := hok
  have c0 : w.cell? ⟨D, 0, none⟩ = some (.int .u64 (x15 : Int)) := cell_of_row _ _ 0 _ _ _ h.1
  have c1 : w.cell? ⟨D, 1, none⟩ = some (.int .i64 t) := cell_of_row _ _ 1 _ _ _ h.1
  have c2 : w.cell? ⟨D, 2, none⟩ = some (.map (some M)) := cell_of_row _ _ 2 _ _ _ h.1
  have a0 := fun o : Obj => (World.cell?_alloc_lt w o ⟨D, 0, none⟩ h.lt.1).trans c0
  have a1 := fun o : Obj => (World.cell?_alloc_lt w o ⟨D, 1, none⟩ h.lt.1).trans c1
  have a2 := fun o : Obj => (World.cell?_alloc_lt w o ⟨D, 2, none⟩ h.lt.1).trans c2
  clear c0 c1 c2
  have hlenm := fun (W : World) (hW : AsmAt W D M x15 t L) => hW.2.len Try.underlying63 3
  have hlookm := fun (W : World) (hW : AsmAt W D M x15 t L) => hW.2.lookup_ok Try.underlying63 Try.underlying3 (z := .string ⟨#[]⟩) (by kernel_rfl) x16
  rw [strs_length] at hlenm
  rw [strs_has] at hlookm
  obtain ⟨B, hB⟩ : ∃ B, B = Obj.cells (itemA ⟨4, x1, x2, x3, x4, x5, ⟨x6, x7, x8, x9, x10, x10b, x10c⟩, x11, x12, x13, x14, x15, x16, x17⟩) 42 := ⟨_, rfl⟩
  have hl1 : ∀ k, (Builtin.len_ #[63] 3 #[.map (some M)]).run Try.prog ((w.alloc B).drewN k) = .ok (.int .i64 (L.length : Int)) ((w.alloc B).drewN k) :=
    fun k => hlenm _ (h.below (bn (ba (br _) _) k))
  have hk1 := fun k : Nat => hlookm ((w.alloc B).drewN k) (h.below (bn (ba (br _) _) k))
  generalize (IM.get (strs L) x16).getD (.string ⟨#[]⟩) = old at *
  have HN := Lib.hid (show ∀ k, Below w.heap.size w ((w.alloc B).drewN k) from fun k => bn (ba (br _) _) k)
  have hA := Lib.hid h
  have HY := Lib.hid (And.intro hno hyes)
  clear h hno hyes hlenm hlookm
  unfold itemA at hB ⊢
  simp only at hB ⊢
  subst hB
  have d2 : decide (x17 < 1) = false := by simp; omega
  have d3 : decide (16 < x17) = false := by simp; omega
  have d4 : decide (x16 < 0) = false := by simp; omega
  have d5 : decide (x17 ≤ x16) = false := by simp; omega
  have h6 : (L.length = 0) ∨ (0 < L.length ∧ x17 = t) := by
    rcases h6 with h6 | h6
    · exact .inl (by rw [h6]; rfl)
    · rcases Nat.eq_zero_or_pos L.length with h7 | h7
      · exact .inl h7
      · exact .inr ⟨h7, h6⟩
  cases hh : hasC L x16
  · rw [hh] at hk1
    have HQ := Lib.hid (HY.out.2 hh)
    have hnone : IM.get (strs L) x16 = none := by
      have := strs_has L x16
      rw [hh, IM.has_get] at this
      simpa using this
    have HNone := Lib.hid hnone
    clear HY hnone
    rcases h6 with h6 | ⟨h6, rfl⟩
    · have d6 : decide ((0 : Int) < (L.length : Int)) = false := by rw [h6]; rfl
      have d6' : decide (0 < L.length) = false := by rw [h6]; rfl
      clear h6
      go_enter Try.func12, Try.ntmps12
      go_wp2
      go_quiet (fail)
      go_wp2
      go_quiet (fail)
      go_wp2
      refine wp_named ?_
      intro w4 hw4
      have hb4 : Below w.heap.size w w4 := by
        rw [← hw4]
        exact bn (HN.out _) _
      have hbox : w4.heap[w.heap.size]? = some (.cells #[.int .i64 4, .string x1, .int .u32 x2, .int .u64 x3, .bool x4, .bool x5, .int .u64 x6, .int .u64 x7, .int .i64 x8, .int .u64 x9, .slice x10 x10b x10c, .int .u64 x11, .int .u64 x12, .int .i64 x13, .int .u64 x14, .int .u64 (x15 : Int), .int .i64 x16, .int .i64 x17] 42 (0, 0)) := by
        rw [← hw4]
        exact heap_alloc_new w _
      clear hw4 a0 a1 a2 hl1 hk1
      have hA4 := hA.out.below hb4
      obtain ⟨c, w6, hrun, hgr, hsz, hst⟩ := IMap.entry (w := (w4.setCell ⟨D, 1, none⟩ (.int .i64 x17)).drew) (hA4.2.setCell hA4.ne _).drew Try.underlying63 Try.underlying3 (z := .string ⟨#[]⟩) (by kernel_rfl) x16 HNone.out
      obtain ⟨w7, hrun2, hm7, hg7, hz7⟩ := hst (.string x1)
      rw [← strs_append] at hm7
      have H7 := Lib.hid (hA4.set (T := x17) ⟨hg7.os, hg7.tape, hg7.output, hg7.size, hg7.block⟩ hm7)
      have c1 : w4.cell? ⟨D, 1, none⟩ = some (.int .i64 t) := cell_of_row _ _ 1 _ _ _ hA4.1
      have c2 : w4.cell? ⟨D, 2, none⟩ = some (.map (some M)) := cell_of_row _ _ 2 _ _ _ hA4.1
      have f1 : w4.frozen? ⟨D, 1, none⟩ = false := frozen_of_row _ _ 1 _ _ hA4.1
      have b1 : w4.cell? ⟨w.heap.size, 1, none⟩ = some (.string x1) := cell_of_row _ _ 1 _ _ _ hbox
      have b16 : w4.cell? ⟨w.heap.size, 16, none⟩ = some (.int .i64 x16) := cell_of_row _ _ 16 _ _ _ hbox
      have b17 : w4.cell? ⟨w.heap.size, 17, none⟩ = some (.int .i64 x17) := cell_of_row _ _ 17 _ _ _ hbox
      have hDl := hA.out.lt.1
      have hMl := hA.out.lt.2
      have S5 : ∀ W, W = (w4.setCell ⟨D, 1, none⟩ (.int .i64 x17)).drew → W.cell? ⟨D, 2, none⟩ = some (.map (some M)) ∧ W.cell? ⟨w.heap.size, 1, none⟩ = some (.string x1) ∧ W.cell? ⟨w.heap.size, 16, none⟩ = some (.int .i64 x16) ∧ W.cell? ⟨w.heap.size, 17, none⟩ = some (.int .i64 x17) := by
        rintro W rfl
        refine ⟨(World.cell?_setCell_other _ _ _ _ (fun h => by injection h with _ h; cases h)).trans c2, (World.cell?_setCell_other _ _ _ _ (fun h => by injection h with h; omega)).trans b1, (World.cell?_setCell_other _ _ _ _ (fun h => by injection h with h; omega)).trans b16, (World.cell?_setCell_other _ _ _ _ (fun h => by injection h with h; omega)).trans b17⟩
      have S6 : ∀ W, (w4.setCell ⟨D, 1, none⟩ (.int .i64 x17)).drew.grownBy W (some M) → W.cell? ⟨D, 2, none⟩ = some (.map (some M)) ∧ W.cell? ⟨w.heap.size, 1, none⟩ = some (.string x1) ∧ W.cell? ⟨w.heap.size, 16, none⟩ = some (.int .i64 x16) ∧ W.cell? ⟨w.heap.size, 17, none⟩ = some (.int .i64 x17) := by
        intro W hW
        obtain ⟨s1, s2, s3, s4⟩ := S5 _ rfl
        have hMD : M ≠ D := hA4.ne.symm
        exact ⟨hW.cell s1 (fun h => by injection h with h; exact hMD h.symm), hW.cell s2 (fun h => by injection h with h; simp at h; omega), hW.cell s3 (fun h => by injection h with h; simp at h; omega), hW.cell s4 (fun h => by injection h with h; simp at h; omega)⟩
      have k5 := Lib.hid (S5 _ rfl)
      have k6 := Lib.hid (S6 _ hgr)
      have k7 := Lib.hid (S6 _ hg7)
      clear S5 S6 hst hgr hsz hm7 hg7 hz7 hA4
      go_region_held3 (fun w' => w'.cell? ⟨D, 2, none⟩ = some (.map (some M)) ∧ w'.cell? ⟨w.heap.size, 1, none⟩ = some (.string x1) ∧ w'.cell? ⟨w.heap.size, 16, none⟩ = some (.int .i64 x16) ∧ w'.cell? ⟨w.heap.size, 17, none⟩ = some (.int .i64 x17)) (first | exact k5.out | exact k6.out | exact k7.out | go_keep) ((fail))
      clear hrun hrun2 c1 f1 c2 b1 b16 b17 hbox k5 k6 k7
      go_wp2_with fail
      have c1 : w7.cell? ⟨D, 1, none⟩ = some (.int .i64 x17) := cell_of_row _ _ 1 _ _ _ H7.out.1.1
      have c2 : w7.cell? ⟨D, 2, none⟩ = some (.map (some M)) := cell_of_row _ _ 2 _ _ _ H7.out.1.1
      have hl7 : ∀ k, (Builtin.len_ #[63] 3 #[.map (some M)]).run Try.prog (w7.drewN k) = .ok (.int .i64 ((L.length : Int) + 1)) (w7.drewN k) := by
        intro k
        have := (H7.out.1.below (bn (br _) k)).2.len Try.underlying63 3
        rw [strs_length, List.length_append] at this
        exact this
      have HF := Lib.hid (fun k => HQ.out (w7.drewN k) (H7.out.1.below (bn (br _) k)) (((Kept.of_below hb4).trans H7.out.2).drewN k))
      clear HQ
      by_cases hT : (L.length : Int) + 1 = x17
      · have e1 : ((L.length : Int) + 1 == x17) = true := by simpa using hT
        have e2 : decide ((L.length : Int) + 1 = x17) = true := by simpa using hT
        rw [e2] at HF
        clear hT e2
        go_quiet (fail)
        go_wp2
        exact HF.out _
      · have e1 : ((L.length : Int) + 1 == x17) = false := by simpa using hT
        have e2 : decide ((L.length : Int) + 1 = x17) = false := by simpa using hT
        rw [e2] at HF
        clear e2
        go_quiet (fail)
        go_wp2
        exact HF.out _
    · have d6 : decide ((0 : Int) < (L.length : Int)) = true := by simp; omega
      have d6' : decide (0 < L.length) = true := by simp; omega
      go_enter Try.func12, Try.ntmps12
      go_wp2
      go_quiet (fail)
      go_wp2
      go_quiet (fail)
      go_wp2
      refine wp_named ?_
      intro w4 hw4
      have hb4 : Below w.heap.size w w4 := by
        rw [← hw4]
        exact bn (HN.out _) _
      have hbox : w4.heap[w.heap.size]? = some (.cells #[.int .i64 4, .string x1, .int .u32 x2, .int .u64 x3, .bool x4, .bool x5, .int .u64 x6, .int .u64 x7, .int .i64 x8, .int .u64 x9, .slice x10 x10b x10c, .int .u64 x11, .int .u64 x12, .int .i64 x13, .int .u64 x14, .int .u64 (x15 : Int), .int .i64 x16, .int .i64 x17] 42 (0, 0)) := by
        rw [← hw4]
        exact heap_alloc_new w _
      clear hw4 a0 a1 a2 hl1 hk1
      have hA4 := hA.out.below hb4
      obtain ⟨c, w6, hrun, hgr, hsz, hst⟩ := IMap.entry (w := (w4.setCell ⟨D, 1, none⟩ (.int .i64 x17)).drew) (hA4.2.setCell hA4.ne _).drew Try.underlying63 Try.underlying3 (z := .string ⟨#[]⟩) (by kernel_rfl) x16 HNone.out
      obtain ⟨w7, hrun2, hm7, hg7, hz7⟩ := hst (.string x1)
      rw [← strs_append] at hm7
      have H7 := Lib.hid (hA4.set (T := x17) ⟨hg7.os, hg7.tape, hg7.output, hg7.size, hg7.block⟩ hm7)
      have c1 : w4.cell? ⟨D, 1, none⟩ = some (.int .i64 x17) := cell_of_row _ _ 1 _ _ _ hA4.1
      have c2 : w4.cell? ⟨D, 2, none⟩ = some (.map (some M)) := cell_of_row _ _ 2 _ _ _ hA4.1
      have f1 : w4.frozen? ⟨D, 1, none⟩ = false := frozen_of_row _ _ 1 _ _ hA4.1
      have b1 : w4.cell? ⟨w.heap.size, 1, none⟩ = some (.string x1) := cell_of_row _ _ 1 _ _ _ hbox
      have b16 : w4.cell? ⟨w.heap.size, 16, none⟩ = some (.int .i64 x16) := cell_of_row _ _ 16 _ _ _ hbox
      have b17 : w4.cell? ⟨w.heap.size, 17, none⟩ = some (.int .i64 x17) := cell_of_row _ _ 17 _ _ _ hbox
      have hDl := hA.out.lt.1
      have hMl := hA.out.lt.2
      have S5 : ∀ W, W = (w4.setCell ⟨D, 1, none⟩ (.int .i64 x17)).drew → W.cell? ⟨D, 2, none⟩ = some (.map (some M)) ∧ W.cell? ⟨w.heap.size, 1, none⟩ = some (.string x1) ∧ W.cell? ⟨w.heap.size, 16, none⟩ = some (.int .i64 x16) ∧ W.cell? ⟨w.heap.size, 17, none⟩ = some (.int .i64 x17) := by
        rintro W rfl
        refine ⟨(World.cell?_setCell_other _ _ _ _ (fun h => by injection h with _ h; cases h)).trans c2, (World.cell?_setCell_other _ _ _ _ (fun h => by injection h with h; omega)).trans b1, (World.cell?_setCell_other _ _ _ _ (fun h => by injection h with h; omega)).trans b16, (World.cell?_setCell_other _ _ _ _ (fun h => by injection h with h; omega)).trans b17⟩
      have S6 : ∀ W, (w4.setCell ⟨D, 1, none⟩ (.int .i64 x17)).drew.grownBy W (some M) → W.cell? ⟨D, 2, none⟩ = some (.map (some M)) ∧ W.cell? ⟨w.heap.size, 1, none⟩ = some (.string x1) ∧ W.cell? ⟨w.heap.size, 16, none⟩ = some (.int .i64 x16) ∧ W.cell? ⟨w.heap.size, 17, none⟩ = some (.int .i64 x17) := by
        intro W hW
        obtain ⟨s1, s2, s3, s4⟩ := S5 _ rfl
        have hMD : M ≠ D := hA4.ne.symm
        exact ⟨hW.cell s1 (fun h => by injection h with h; exact hMD h.symm), hW.cell s2 (fun h => by injection h with h; simp at h; omega), hW.cell s3 (fun h => by injection h with h; simp at h; omega), hW.cell s4 (fun h => by injection h with h; simp at h; omega)⟩
      have k5 := Lib.hid (S5 _ rfl)
      have k6 := Lib.hid (S6 _ hgr)
      have k7 := Lib.hid (S6 _ hg7)
      clear S5 S6 hst hgr hsz hm7 hg7 hz7 hA4
      go_region_held3 (fun w' => w'.cell? ⟨D, 2, none⟩ = some (.map (some M)) ∧ w'.cell? ⟨w.heap.size, 1, none⟩ = some (.string x1) ∧ w'.cell? ⟨w.heap.size, 16, none⟩ = some (.int .i64 x16) ∧ w'.cell? ⟨w.heap.size, 17, none⟩ = some (.int .i64 x17)) (first | exact k5.out | exact k6.out | exact k7.out | go_keep) ((fail))
      clear hrun hrun2 c1 f1 c2 b1 b16 b17 hbox k5 k6 k7
      go_wp2_with fail
      have c1 : w7.cell? ⟨D, 1, none⟩ = some (.int .i64 x17) := cell_of_row _ _ 1 _ _ _ H7.out.1.1
      have c2 : w7.cell? ⟨D, 2, none⟩ = some (.map (some M)) := cell_of_row _ _ 2 _ _ _ H7.out.1.1
      have hl7 : ∀ k, (Builtin.len_ #[63] 3 #[.map (some M)]).run Try.prog (w7.drewN k) = .ok (.int .i64 ((L.length : Int) + 1)) (w7.drewN k) := by
        intro k
        have := (H7.out.1.below (bn (br _) k)).2.len Try.underlying63 3
        rw [strs_length, List.length_append] at this
        exact this
      have HF := Lib.hid (fun k => HQ.out (w7.drewN k) (H7.out.1.below (bn (br _) k)) (((Kept.of_below hb4).trans H7.out.2).drewN k))
      clear HQ
      by_cases hT : (L.length : Int) + 1 = x17
      · have e1 : ((L.length : Int) + 1 == x17) = true := by simpa using hT
        have e2 : decide ((L.length : Int) + 1 = x17) = true := by simpa using hT
        rw [e2] at HF
        clear hT e2
        go_quiet (fail)
        go_wp2
        exact HF.out _
      · have e1 : ((L.length : Int) + 1 == x17) = false := by simpa using hT
        have e2 : decide ((L.length : Int) + 1 = x17) = false := by simpa using hT
        rw [e2] at HF
        clear e2
        go_quiet (fail)
        go_wp2
        exact HF.out _
  · rw [hh] at hk1
    have HQ := Lib.hid (HY.out.1 hh)
    clear HY
    rcases h6 with h6 | ⟨h6, rfl⟩
    · have d6 : decide ((0 : Int) < (L.length : Int)) = false := by rw [h6]; rfl
      have d6' : decide (0 < L.length) = false := by rw [h6]; rfl
      clear h6
      go_enter Try.func12, Try.ntmps12
      go_wp2
      go_quiet (fail)
      go_wp2
      go_quiet (fail)
      go_wp2
      exact HQ.out _ (bn (HN.out _) _)
    · have d6 : decide ((0 : Int) < (L.length : Int)) = true := by simp; omega
      have d6' : decide (0 < L.length) = true := by simp; omega
      go_enter Try.func12, Try.ntmps12
      go_wp2
      go_quiet (fail)
      go_wp2
      go_quiet (fail)
      go_wp2
      exact HQ.out _ (bn (HN.out _) _)
theorem Take_any (D M n : Nat) (t : Int) (L : Chs) (x : ItemV) (w : World) (h : AsmAt w D M n t L) (hlen : L.length ≤ 16) :
    Calls Try.prog 12 #[.pointer (some ⟨D, 0, none⟩), .agg (itemA x)] w (TakePost w D M n t L x) := by
  by_cases hok : okC n t L x
  · exact Take_yes D M n t L x w h hok hlen
  · exact Take_no D M n t L x w h hok hlen
end Go.Proofs.Ytilijegipjpdlaa
