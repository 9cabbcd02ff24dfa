/-
  The laws' awake; the law ChunkCuts.
  Conditions: none.
-/
import Derived.Test.YtilijegipjpdlaaChunkD
import Derived.Deep.MidRow
namespace Go.Proofs.Ytilijegipjpdlaa
set_option linter.unusedVariables false
open Go.RowKit IM
def ItemsAt (w : World) (g n : Nat) (s : ByteArray) (T : Nat) : Prop := g < w.heap.size ∧ ∀ i, i < T → w.rangeAt g (i * 18) (itemL (partB s i) n (i : Int) (T : Int))
theorem itemsL_get (s : ByteArray) (n T : Nat) : ∀ k i j, i < k → j < 18 → (itemsL s n T k)[i * 18 + j]? = (itemL (partB s i) n (i : Int) (T : Int))[j]? := by
  intro k
  induction k with
  | zero => intro i j h; omega
  | succ k ih =>
    intro i j hi hj
    rw [itemsL_succ]
    by_cases h : i < k
    · rw [List.getElem?_append_left (by rw [itemsL_length]; omega)]
      exact ih i j h hj
    · obtain rfl : i = k := by omega
      rw [List.getElem?_append_right (by rw [itemsL_length]; omega), itemsL_length]
      congr 1
      omega
def ItemsPost2 (w : World) (n : Nat) (s : ByteArray) (T : Nat) (e : Ending) (w' : World) : Prop := ∃ g cap, e = .returned (.slice (some ⟨g, 0, none⟩) T cap) ∧ w.heap.size ≤ g ∧ ItemsAt w' g n s T ∧ Below w.heap.size w w'
theorem ItemsPost.two {t : TypeId} {w w' : World} {n : Nat} {s : ByteArray} {T : Nat} {e : Ending} (hT : 1 ≤ T) (h : ItemsPost t w n s T e w') : ItemsPost2 w n s T e w' := by
  obtain ⟨v, rfl, hown, hb⟩ := h
  obtain ⟨g, cap, rfl, hg0, hg1⟩ := hown.form (by omega)
  refine ⟨g, cap, rfl, hg0, ⟨hg1, fun i hi j u hu => ?_⟩, hb⟩
  have hj : j < 18 := by
    have := (List.getElem?_eq_some_iff.1 hu).1
    simpa [itemL] using this
  have := hown.cells (g := g) rfl (i * 18 + j) u (by rw [itemsL_get s n T T i j hi hj]; exact hu)
  rwa [show (⟨g, 0, none⟩ : Addr).add (i * 18 + j) = ⟨g, i * 18 + j, none⟩ from by unfold Addr.add; split <;> simp_all] at this
theorem ItemsAt.kept {w w' : World} {g n : Nat} {s : ByteArray} {T : Nat} {S : Nat → Prop} (h : ItemsAt w g n s T) (hk : Kept S w w') (hg : ¬ S g) : ItemsAt w' g n s T :=
  ⟨Nat.lt_of_lt_of_le h.1 hk.size, fun i hi j u hu => (hk.cell (p := ⟨g, i * 18 + j, none⟩) h.1 hg).trans (h.2 i hi j u hu)⟩
theorem ItemsAt.below {w w' : World} {g n : Nat} {s : ByteArray} {T : Nat} (h : ItemsAt w g n s T) (hb : Below w.heap.size w w') : ItemsAt w' g n s T := h.kept (S := fun _ => False) (.of_below hb) (fun h => h)
def itemX (d : ByteArray) (n : Nat) (i t : Int) : ItemV := ⟨4, d, 0, 0, false, false, ⟨0, 0, 0, 0, none, 0, 0⟩, 0, 0, 0, 0, n, i, t⟩
theorem itemX_cells (d : ByteArray) (n : Nat) (i t : Int) : (itemL d n i t).toArray = itemA (itemX d n i t) := rfl
theorem cut_ab : cut4 ⟨#[97, 98]⟩ = ⟨#[97, 98]⟩ := by decide +kernel
theorem total_ab : totalN ⟨#[97, 98]⟩ = 1 := by decide +kernel
theorem part_ab : partB ⟨#[97, 98]⟩ 0 = ⟨#[97, 98]⟩ := by decide +kernel
theorem cut_no : cut4 ⟨#[]⟩ = ⟨#[]⟩ := by decide +kernel
theorem total_no : totalN ⟨#[]⟩ = 1 := by decide +kernel
def okI : ItemV := itemX ⟨#[97, 98]⟩ 7 0 1
theorem range18 {w : World} {g o : Nat} {d : ByteArray} {n : Nat} {i t : Int} (h : w.rangeAt g o (itemL d n i t)) :
    w.cell? ⟨g, o, none⟩ = some (.int .i64 4) ∧ w.cell? ⟨g, o + 1, none⟩ = some (.string d) ∧ w.cell? ⟨g, o + 2, none⟩ = some (.int .u32 0) ∧ w.cell? ⟨g, o + 3, none⟩ = some (.int .u64 0) ∧ w.cell? ⟨g, o + 4, none⟩ = some (.bool false) ∧ w.cell? ⟨g, o + 5, none⟩ = some (.bool false) ∧ w.cell? ⟨g, o + 6, none⟩ = some (.int .u64 0) ∧ w.cell? ⟨g, o + 7, none⟩ = some (.int .u64 0) ∧ w.cell? ⟨g, o + 8, none⟩ = some (.int .i64 0) ∧ w.cell? ⟨g, o + 9, none⟩ = some (.int .u64 0) ∧ w.cell? ⟨g, o + 10, none⟩ = some (.slice none 0 0) ∧ w.cell? ⟨g, o + 11, none⟩ = some (.int .u64 0) ∧ w.cell? ⟨g, o + 12, none⟩ = some (.int .u64 0) ∧ w.cell? ⟨g, o + 13, none⟩ = some (.int .i64 0) ∧ w.cell? ⟨g, o + 14, none⟩ = some (.int .u64 0) ∧ w.cell? ⟨g, o + 15, none⟩ = some (.int .u64 (n : Int)) ∧ w.cell? ⟨g, o + 16, none⟩ = some (.int .i64 i) ∧ w.cell? ⟨g, o + 17, none⟩ = some (.int .i64 t) :=
  ⟨h 0 _ rfl, h 1 _ rfl, h 2 _ rfl, h 3 _ rfl, h 4 _ rfl, h 5 _ rfl, h 6 _ rfl, h 7 _ rfl, h 8 _ rfl, h 9 _ rfl, h 10 _ rfl, h 11 _ rfl, h 12 _ rfl, h 13 _ rfl, h 14 _ rfl, h 15 _ rfl, h 16 _ rfl, h 17 _ rfl⟩
set_option maxRecDepth 100000 in
set_option maxHeartbeats 2000000 in
theorem awake23_any (w : World) : Calls Try.prog 6 #[] w fun e w' => e = .returned (.bool true) ∧ Below w.heap.size w w' := by
  have hI1 : ∀ W : World, Calls Try.prog 7 #[.int .u64 7, .string ⟨#[97, 98]⟩] W (ItemsPost2 W 7 ⟨#[97, 98]⟩ 1) := fun W => (Items_any 7 ⟨#[97, 98]⟩ W (by decide) (by decide)).mono fun e w' h => by
    rw [cut_ab, total_ab] at h
    exact h.two (by omega)
  have hI2 : ∀ W : World, Calls Try.prog 7 #[.int .u64 1, .string ⟨#[]⟩] W (ItemsPost2 W 1 ⟨#[]⟩ 1) := fun W => (Items_any 1 ⟨#[]⟩ W (by decide) (by decide)).mono fun e w' h => by
    rw [cut_no, total_no] at h
    exact h.two (by omega)
  have hN : ∀ W : World, Calls Try.prog 11 #[.int .u64 7] W (NewPost 7 W) := fun W => New_any 7 W
  have hT1 : ∀ (W : World) D M, AsmAt W D M 7 0 [] → Calls Try.prog 12 #[.pointer (some ⟨D, 0, none⟩), .agg (itemA okI)] W fun e w' => e = .returned (.bool true) ∧ AsmAt w' D M 7 1 [(0, ⟨#[97, 98]⟩)] ∧ Kept (TwoB D M) W w' := fun W D M h => (Take_any D M 7 0 [] okI W h (by decide)).mono fun e w' ⟨he, hA, hk⟩ => by
    rw [show takeB 7 0 [] okI = true from by decide +kernel] at he
    rw [show takeT 7 0 [] okI = 1 from by decide +kernel, show takeL 7 0 [] okI = [(0, ⟨#[97, 98]⟩)] from by decide +kernel] at hA
    exact ⟨he, hA, hk⟩
  have hT2 : ∀ (W : World) D M, AsmAt W D M 7 1 [(0, ⟨#[97, 98]⟩)] → Calls Try.prog 12 #[.pointer (some ⟨D, 0, none⟩), .agg (itemA okI)] W fun e w' => e = .returned (.bool false) ∧ Kept (TwoB D M) W w' := fun W D M h => (Take_any D M 7 1 [(0, ⟨#[97, 98]⟩)] okI W h (by decide)).mono fun e w' ⟨he, hA, hk⟩ => by
    rw [show takeB 7 1 [(0, ⟨#[97, 98]⟩)] okI = false from by decide +kernel] at he
    exact ⟨he, hk⟩
  have hW1 : ∀ (W : World) D M, AsmAt W D M 7 0 [] → Calls Try.prog 13 #[.pointer (some ⟨D, 0, none⟩)] W fun e w' => e = .returned (.tuple #[.string ⟨#[]⟩, .bool false]) ∧ Below W.heap.size W w' := fun W D M h => by
    have := Whole_any D M 7 0 [] W h GoodC.nil (small_of _ (by simp))
    rwa [show wholeC 0 [] = ⟨#[]⟩ from rfl, show fullC 0 [] = false from rfl] at this
  have hW2 : ∀ (W : World) D M, AsmAt W D M 7 1 [(0, ⟨#[97, 98]⟩)] → Calls Try.prog 13 #[.pointer (some ⟨D, 0, none⟩)] W fun e w' => e = .returned (.tuple #[.string ⟨#[97, 98]⟩, .bool true]) ∧ Below W.heap.size W w' := fun W D M h => by
    have := Whole_any D M 7 1 [(0, ⟨#[97, 98]⟩)] W h ⟨by simp, by simp, by omega, by simp⟩ (small_of _ (by simp; decide))
    rwa [show wholeC 1 [(0, ⟨#[97, 98]⟩)] = ⟨#[97, 98]⟩ from by decide +kernel, show fullC 1 [(0, ⟨#[97, 98]⟩)] = true from by decide +kernel] at this
  have hL : ∀ (W : World) g, ItemsAt W g 7 ⟨#[97, 98]⟩ 1 → W.rangeAt g 0 (itemL ⟨#[97, 98]⟩ 7 0 1) := fun W g h => by
    have := h.2 0 (by omega)
    rw [part_ab] at this
    exact this
  have HS := Lib.hid (And.intro hI1 (And.intro hI2 (And.intro hN (And.intro hT1 (And.intro hT2 (And.intro hW1 (And.intro hW2 hL)))))))
  clear hI1 hI2 hN hT1 hT2 hW1 hW2 hL
  go_enter Try.func6, Try.ntmps6
  go_wp2_with fail
  refine (HS.out.1 _).mono ?_
  rintro e w1 ⟨g, cap, rfl, hg, hI, hb1⟩
  go_wp2_with fail
  refine (HS.out.2.2.1 _).mono ?_
  rintro e w2 ⟨D, M, rfl, hA, hb2, hD, hM⟩
  have hgD : ¬ TwoB D M g := by have := hI.1; unfold TwoB; omega
  have hI := hI.below hb2
  have hb2 := bt hb1 hb2
  have HR := Lib.hid (HS.out.2.2.2.2.2.2.2 w2 g hI)
  have c0 : w2.cell? ⟨g, 0, none⟩ = some (.int .i64 4) := HR.out 0 _ rfl
  have c1 : w2.cell? ⟨g, 17, none⟩ = some (.int .i64 1) := HR.out 17 _ rfl
  go_wp2_with fail
  refine (HS.out.2.2.2.2.2.1 _ D M hA).mono ?_
  rintro e w3 ⟨rfl, hb3⟩
  clear c0 c1 HR
  have hA := hA.below hb3
  have hI := hI.below hb3
  have hb3 := bt hb2 hb3
  have HR := Lib.hid (HS.out.2.2.2.2.2.2.2 w3 g hI)
  go_wp2_with (refine wpList_load_mid rfl 42 (.tmp 38) rfl g 0 rfl (itemL ⟨#[97, 98]⟩ 7 0 1) _ HR.out Try.underlying42 rfl (by kernel_rfl) ?_)
  refine (HS.out.2.2.2.1 _ D M hA).mono ?_
  rintro e w4 ⟨rfl, hA4, hk4⟩
  clear HR
  have hI := hI.kept hk4 hgD
  have hD0 : ∀ k, k < w.heap.size → ¬ TwoB D M k := by have := hb1.size; unfold TwoB; intro k hk; omega
  have hb4 := hk4.out hb3 hb3.size hD0
  go_wp2_with fail
  refine (HS.out.2.2.2.2.2.2.1 _ D M hA4).mono ?_
  rintro e w5 ⟨rfl, hb5⟩
  have hA5 := hA4.below hb5
  have hI := hI.below hb5
  have hb5 := bt hb4 hb5
  have hcs := range18 (HS.out.2.2.2.2.2.2.2 w5 g hI)
  simp only [Nat.zero_add] at hcs
  obtain ⟨c0, c1, c2, c3, c4, c5, c6, c7, c8, c9, c10, c11, c12, c13, c14, c15, c16, c17⟩ := hcs
  go_wp2_with fail
  refine (HS.out.2.2.2.2.1 _ D M hA5).mono ?_
  rintro e w6 ⟨rfl, hk6⟩
  clear c0 c1 c2 c3 c4 c5 c6 c7 c8 c9 c10 c11 c12 c13 c14 c15 c16 c17
  have hb6 := hk6.out hb5 hb5.size hD0
  go_wp2_with fail
  refine (HS.out.2.1 _).mono ?_
  rintro e w7 ⟨g2, cap2, rfl, hg2, hI2, hb7⟩
  go_wp2
  go_ret
  exact ⟨rfl, bt hb6 hb7⟩
end Go.Proofs.Ytilijegipjpdlaa
