/-
  What the reference's find and Whole return.
  Conditions: none.
-/
import Derived.Test.YtilijegipjpdlaaChunkD
import Derived.Test.YtilijegipjpdlaaChunkJ
import Derived.Test.YtilijegipjpdlaaWords
namespace Go.Proofs.Ytilijegipjpdlaa
set_option linter.unusedVariables false
open Go.RowKit IM
def rowsI (I : List ItemV) : List Value := I.flatMap fun x => (itemA x).toList
theorem itemA_len (x : ItemV) : (itemA x).toList.length = 18 := rfl
theorem rowsI_length (I : List ItemV) : (rowsI I).length = I.length * 18 := by
  unfold rowsI
  induction I with
  | nil => rfl
  | cons x I ih => rw [List.flatMap_cons, List.length_append, ih, itemA_len, List.length_cons]; omega
theorem rowsI_get (I : List ItemV) : ∀ i (h : i < I.length) r, r < 18 → (rowsI I)[i * 18 + r]? = (itemA I[i]).toList[r]? := by
  unfold rowsI
  induction I with
  | nil => intro i h; simp at h
  | cons x I ih =>
    intro i h r hr
    rw [List.flatMap_cons]
    cases i with
    | zero =>
      rw [Nat.zero_mul, Nat.zero_add, List.getElem?_append_left (by rw [itemA_len]; exact hr)]
      rfl
    | succ i =>
      rw [List.getElem?_append_right (by rw [itemA_len]; omega), itemA_len, show (i + 1) * 18 + r - 18 = i * 18 + r from by omega]
      exact ih i (by simpa using h) r hr
/-- the reference's list as pairs -/
def pairsI (I : List ItemV) : Chs := I.map fun x => (x.index, x.data)
def refV (n : Nat) (v : Value) : Value := .agg #[.int .u64 (n : Int), v]
theorem LogsAt.kept {w w' : World} {v : Value} {I : List ItemV} {S : Nat → Prop} (h : LogsAt w v I) (hk : Kept S w w') (hS : ∀ ad cap, v = .slice (some ad) I.length cap → ¬ S ad.block) : LogsAt w' v I := by
  obtain ⟨ad, cap, rfl, hl, h⟩ := h
  refine ⟨ad, cap, rfl, hl, fun i hi => ?_⟩
  obtain ⟨B, O, rfl, hB, hr, h1⟩ := h i hi
  refine ⟨B, O, rfl, Nat.lt_of_lt_of_le hB hk.size, fun j u hu => (hk.cell (p := ⟨B, O + i * 18 + j, none⟩) hB (hS ⟨B, O, none⟩ cap rfl)).trans (hr j u hu), h1⟩
theorem LogsAt.below {w w' : World} {v : Value} {I : List ItemV} (h : LogsAt w v I) (hb : Below w.heap.size w w') : LogsAt w' v I := h.kept (S := fun _ => False) (.of_below hb) (fun _ _ _ h => h)
def findI (I : List ItemV) (i : Int) : Option ItemV := I.find? (fun x => x.index == i)
def dataO : Option ItemV → ByteArray
  | some x => x.data
  | none => ⟨#[]⟩
set_option maxHeartbeats 1000000 in
theorem refFind_any (n : Nat) (v : Value) (I : List ItemV) (i : Int) (w : World) (h : LogsAt w v I) :
    Calls Try.prog 20 #[.agg #[.int .u64 (n : Int), v], .int .i64 i] w fun e w' => e = .returned (.tuple #[.string (dataO (findI I i)), .bool (findI I i).isSome]) ∧ Below w.heap.size w w' := by
  obtain ⟨ad, cap, rfl, hl, hc⟩ := h
  have HC := Lib.hid hc
  clear hc
  obtain ⟨R, hR⟩ : ∃ R, R = findI I i := ⟨_, rfl⟩
  rw [← hR]
  have HR := Lib.hid hR
  clear hR
  go_enter Try.func20, Try.ntmps20
  go_wp2
  go_loop [6] (fun s => ∃ k : Nat, k ≤ I.length ∧ s = .int .i64 (k : Int) ∧ findI (I.drop k) i = R) (fun s => I.length - (intOf s).toNat)
  case atStart => exact ⟨0, by omega, rfl, HR.out.symm⟩
  case round =>
    obtain ⟨k, hk, rfl, hf⟩ := hrel
    by_cases hlt : k < I.length
    · have hd : decide ((k : Int) < (I.length : Int)) = true := by simpa using hlt
      have hlt2 : (k : Int) < (I.length : Int) := by omega
      obtain ⟨B, O, rfl, hB, hr, _⟩ := HC.out k hlt
      rw [List.drop_eq_getElem_cons hlt] at hf
      have c1 : (w.alloc (.cells #[.int .u64 (n : Int), .slice (some ⟨B, O, none⟩) I.length cap] 54)).cell? ⟨B, O + k * 18 + 1, none⟩ = some (.string I[k].data) := (World.cell?_alloc_lt _ _ _ hB).trans (hr 1 _ rfl)
      have c16 : (w.alloc (.cells #[.int .u64 (n : Int), .slice (some ⟨B, O, none⟩) I.length cap] 54)).cell? ⟨B, O + k * 18 + 16, none⟩ = some (.int .i64 I[k].index) := (World.cell?_alloc_lt _ _ _ hB).trans (hr 16 _ rfl)
      generalize I[k] = x at *
      by_cases he : x.index = i
      · have e1 : (x.index == i) = true := by simpa using he
        have hf2 : R = some x := by rw [← hf]; unfold findI; rw [List.find?_cons, e1]
        subst hf2
        clear hf hr
        go_wp2
        go_ret2
        exact ⟨rfl, ba (br _) _⟩
      · have e1 : (x.index == i) = false := by simpa using he
        have hf2 : findI (I.drop (k + 1)) i = R := by rw [← hf]; unfold findI; rw [List.find?_cons, e1]
        have H2 := Lib.hid hf2
        clear hf hf2 hr
        go_wp2
        exact ⟨⟨k + 1, by omega, by go_num, H2.out⟩, by simp [intOf]; omega⟩
    · have hd : decide ((k : Int) < (I.length : Int)) = false := by simpa using hlt
      have hf2 : R = none := by rw [← hf, List.drop_eq_nil_of_le (by omega)]; rfl
      subst hf2
      clear hf
      go_wp2
      go_ret2
      exact ⟨rfl, ba (br _) _⟩
theorem pairs_has (I : List ItemV) (i : Int) : hasC (pairsI I) i = (findI I i).isSome := by
  unfold hasC pairsI findI
  induction I with
  | nil => rfl
  | cons x I ih =>
    simp only [List.map_cons, List.any_cons, List.find?_cons]
    cases h : x.index == i
    · simpa using ih
    · simp
theorem pairs_find (I : List ItemV) (i : Int) : (((pairsI I).find? (fun x => x.1 == i)).map (·.2)).getD (⟨#[]⟩ : ByteArray) = dataO (findI I i) := by
  unfold pairsI findI
  induction I with
  | nil => rfl
  | cons x I ih =>
    simp only [List.map_cons, List.find?_cons]
    cases h : x.index == i
    · simpa using ih
    · simp [dataO]
theorem full_all {t : Int} {L : Chs} (h : GoodC t L) (hf : fullC t L = true) : ∀ k : Nat, (k : Int) < t → hasC L (k : Int) = true := by
  intro k hk
  unfold fullC at hf
  simp only [Bool.and_eq_true, decide_eq_true_eq] at hf
  obtain ⟨g1, g2, g3, g4⟩ := h
  refine Classical.byContradiction fun hn => ?_
  have hn2 : (k : Int) ∉ L.map (·.1) := fun hm => hn ((hasC_mem L _).2 hm)
  have h1 : (k :: L.map fun x => x.1.toNat).length ≤ t.toNat := by
    refine nodup_le _ (List.nodup_cons.2 ⟨?_, ?_⟩) ?_
    · intro hm
      obtain ⟨x, hx, e⟩ := List.mem_map.1 hm
      have := g2 x hx
      exact hn2 (List.mem_map.2 ⟨x, hx, by omega⟩)
    · rw [List.Nodup, List.pairwise_map]
      rw [List.Nodup, List.pairwise_map] at g1
      refine g1.imp_of_mem ?_
      intro a b ha hb hne e
      have := g2 a ha
      have := g2 b hb
      exact hne (by omega)
    · intro y hy
      rcases List.mem_cons.1 hy with hy | hy
      · omega
      · obtain ⟨z, hz, rfl⟩ := List.mem_map.1 hy
        have := g2 z hz
        omega
  simp at h1
  omega
theorem len_of_all' : ∀ (T : Nat) {K : List Nat}, K.Nodup → (∀ k, k < T → k ∈ K) → T ≤ K.length := by
  intro T
  induction T with
  | zero => intro K _ _; omega
  | succ T ih =>
    intro K hn h
    have hm := h T (by omega)
    have := ih (hn.erase T) (fun k hk => (hn.mem_erase_iff).2 ⟨by omega, h k (by omega)⟩)
    rw [List.length_erase_of_mem hm] at this
    have := List.length_pos_of_mem hm
    omega
theorem all_full {t : Int} {L : Chs} (h : GoodC t L) (hne : L ≠ []) (hall : ∀ k : Nat, (k : Int) < t → hasC L (k : Int) = true) : fullC t L = true := by
  have hlen := h.len.1
  obtain ⟨g1, g2, g3, g4⟩ := h
  have h1 : t.toNat ≤ (L.map fun x => x.1.toNat).length := by
    refine len_of_all' t.toNat ?_ ?_
    · rw [List.Nodup, List.pairwise_map]
      rw [List.Nodup, List.pairwise_map] at g1
      refine g1.imp_of_mem ?_
      intro a b ha hb hne e
      have := g2 a ha
      have := g2 b hb
      exact hne (by omega)
    · intro k hk
      have := (hasC_mem L _).1 (hall k (by omega))
      obtain ⟨x, hx, e⟩ := List.mem_map.1 this
      exact List.mem_map.2 ⟨x, hx, by omega⟩
  simp at h1
  unfold fullC
  cases L with
  | nil => exact absurd rfl hne
  | cons a L =>
    simp
    have := g2 a (by simp)
    simp at hlen h1
    omega
set_option maxHeartbeats 2000000 in
theorem refWhole_any (n : Nat) (v : Value) (I : List ItemV) (t : Int) (w : World) (h : LogsAt w v I) (hg : GoodC t (pairsI I)) (ht : ∀ hI : 0 < I.length, I[0].total = t) (hb : SmallC (pairsI I)) :
    Calls Try.prog 16 #[.agg #[.int .u64 (n : Int), v]] w fun e w' => e = .returned (.tuple #[.string (wholeC t (pairsI I)), .bool (fullC t (pairsI I))]) ∧ Below w.heap.size w w' := by
  have hlen := hg.len
  have ht16 := hg.2.2.1
  have hpl : (pairsI I).length = I.length := by unfold pairsI; simp
  obtain ⟨ad, cap, rfl, hl, hc⟩ := id h
  by_cases h0 : I.length = 0
  · have : I = [] := List.eq_nil_of_length_eq_zero h0
    subst this
    have hf : fullC t (pairsI []) = false := rfl
    have hw : wholeC t (pairsI []) = ⟨#[]⟩ := rfl
    rw [hf, hw]
    clear hf hw hlen hpl hb ht hg h hc
    go_enter Try.func16, Try.ntmps16
    go_wp2
    go_ret2
    exact ⟨rfl, ba (br _) _⟩
  have hpos : 0 < I.length := by omega
  obtain ⟨B, O, rfl, hB, hr, _⟩ := hc 0 hpos
  have ht0 := ht hpos
  have hne : pairsI I ≠ [] := fun e => h0 (by rw [← hpl, e]; rfl)
  have hfind : ∀ (W : World) (k : Nat), Below w.heap.size w W → Calls Try.prog 20 #[.agg #[.int .u64 (n : Int), .slice (some ⟨B, O, none⟩) I.length cap], .int .i64 (k : Int)] W fun e w' => e = .returned (.tuple #[.string (dataO (findI I (k : Int))), .bool (findI I (k : Int)).isSome]) ∧ Below W.heap.size W w' :=
    fun W k hbW => refFind_any n _ I (k : Int) W (h.below hbW)
  have hstep : ∀ k, catC (pairsI I) (k + 1) = catC (pairsI I) k ++ dataO (findI I (k : Int)) := fun k => by rw [catC, pairs_find]
  have hsz : ∀ k : Nat, k < 16 → (catC (pairsI I) k).size + (dataO (findI I (k : Int))).size ≤ 9223372036854775807 := fun k hk => by rw [← pairs_find]; exact hb.step k hk
  have hszf : t ≤ 16 := ht16
  have hfull : (∀ k : Nat, (k : Int) < t → (findI I (k : Int)).isSome = true) → fullC t (pairsI I) = true := fun hall => all_full hg hne (fun k hk => by rw [pairs_has]; exact hall k hk)
  have hnot : ∀ k : Nat, (k : Int) < t → (findI I (k : Int)).isSome = false → fullC t (pairsI I) = false := by
    intro k hk hn
    cases hf : fullC t (pairsI I)
    · rfl
    · have := full_all hg hf k hk
      rw [pairs_has, hn] at this
      cases this
  have hw1 : fullC t (pairsI I) = true → wholeC t (pairsI I) = catC (pairsI I) t.toNat := fun hf => by unfold wholeC; rw [if_pos hf]
  have hw2 : fullC t (pairsI I) = false → wholeC t (pairsI I) = ⟨#[]⟩ := fun hf => by unfold wholeC; rw [hf]; rfl
  have ht1 : 1 ≤ t := by
    have : ((pairsI I).length : Int) ≤ t := hlen.1
    rw [hpl] at this
    omega
  have c17 : w.cell? ⟨B, O + 17, none⟩ = some (.int .i64 t) := by
    have := hr 17 _ rfl
    rw [Nat.zero_mul, Nat.add_zero] at this
    rw [this]
    show some (Value.int .i64 I[0].total) = _
    rw [ht0]
  have hcat0 : catC (pairsI I) 0 = ⟨#[]⟩ := rfl
  generalize fullC t (pairsI I) = F at *
  generalize wholeC t (pairsI I) = Wh at *
  generalize hcat : catC (pairsI I) = cat at *
  obtain ⟨T, rfl⟩ : ∃ T : Nat, t = (T : Int) := ⟨t.toNat, by omega⟩
  have HH := Lib.hid (And.intro hfind (And.intro hstep (And.intro hsz (And.intro hszf (And.intro hfull (And.intro hnot (And.intro hw1 (And.intro hw2 hcat0))))))))
  clear hfind hstep hsz hszf hfull hnot hw1 hw2 hcat0 hr hc h hg hb hne hlen hpl ht ht0 hcat
  have hb0 := ba (br w) (.cells #[.int .u64 (n : Int), .slice (some ⟨B, O, none⟩) I.length cap] 54)
  have hbx := heap_alloc_new w (.cells #[.int .u64 (n : Int), .slice (some ⟨B, O, none⟩) I.length cap] 54)
  have hwl : w.heap.size < (w.alloc (.cells #[.int .u64 (n : Int), .slice (some ⟨B, O, none⟩) I.length cap] 54)).heap.size := by simp
  have d0 : ((I.length : Int) == 0) = false := by simp; exact fun e => h0 (by rw [e]; rfl)
  have hpos2 : (0 : Int) < (I.length : Int) := by omega
  clear h0
  go_enter Try.func16, Try.ntmps16
  go_wp2
  generalize w.alloc (.cells #[.int .u64 (n : Int), .slice (some ⟨B, O, none⟩) I.length cap] 54) = W at *
  have HB := Lib.hid (And.intro hb0 (And.intro hbx (And.intro hwl (And.intro hB c17))))
  clear hb0 hbx hwl hB c17
  go_loopw [4, 5] (fun s i wr => ∃ k : Nat, k ≤ T ∧ i = .int .i64 (k : Int) ∧ s = .string (cat k) ∧ (∀ q, q < k → (findI I (q : Int)).isSome = true) ∧ Below W.heap.size W wr) (fun _ i _ => T - (intOf i).toNat)
  case atStart => exact ⟨0, by omega, rfl, by rw [HH.out.2.2.2.2.2.2.2.2], by intro q hq; omega, br _⟩
  case round =>
    obtain ⟨k, hk, rfl, rfl, hall, hbr⟩ := hrel
    have HA := Lib.hid (And.intro hall hbr)
    have hbw := HB.out.1.trans (hbr.mono HB.out.1.size)
    have HBW := Lib.hid hbw
    have c17 : wr.cell? ⟨B, O + 17, none⟩ = some (.int .i64 (T : Int)) := (hbw.cell (p := ⟨B, O + 17, none⟩) HB.out.2.2.2.1).trans HB.out.2.2.2.2
    have hbxr := (hbr.block _ HB.out.2.2.1).trans HB.out.2.1
    have b0 : wr.cell? ⟨w.heap.size, 0, none⟩ = some (.int .u64 (n : Int)) := cell_of_row _ _ 0 _ _ _ hbxr
    have b1 : wr.cell? ⟨w.heap.size, 1, none⟩ = some (.slice (some ⟨B, O, none⟩) I.length cap) := cell_of_row _ _ 1 _ _ _ hbxr
    clear hall hbr hbw hbxr
    by_cases hlt : k < T
    · have hd : decide ((k : Int) < (T : Int)) = true := by simpa using hlt
      have hf := HH.out.1 wr k HBW.out
      have hq1 := HH.out.2.2.1 k (by have := HH.out.2.2.2.1; omega)
      cases hs : (findI I (k : Int)).isSome
      · have hFF := HH.out.2.2.2.2.2.1 k (by omega) hs
        have hWW := HH.out.2.2.2.2.2.2.2.1 hFF
        subst hFF
        subst hWW
        rw [hs] at hf
        have HF := Lib.hid hf
        clear hf hs hq1
        go_wp2_with fail
        refine HF.out.mono ?_
        rintro e w5 ⟨rfl, hb5⟩
        go_wp2
        go_ret2
        exact ⟨rfl, HBW.out.trans (hb5.mono HBW.out.size)⟩
      · rw [hs] at hf
        have HF := Lib.hid hf
        have HS := Lib.hid (And.intro (HH.out.2.1 k) hs)
        clear hf hs
        generalize dataO (findI I (k : Int)) = X at *
        generalize hC : cat k = C at *
        have HC := Lib.hid hC
        clear hC
        go_wp2_with fail
        refine HF.out.mono ?_
        rintro e w5 ⟨rfl, hb5⟩
        go_wp2
        refine ⟨⟨k + 1, by omega, by go_num, by rw [HS.out.1], ?_, bt HA.out.2 hb5⟩, by simp [intOf]; omega⟩
        intro q hq
        by_cases hqk : q = k
        · rw [hqk]; exact HS.out.2
        · exact HA.out.1 q (by omega)
    · have hd : decide ((k : Int) < (T : Int)) = false := by simpa using hlt
      obtain rfl : k = T := by omega
      have hFF := HH.out.2.2.2.2.1 (fun q hq => HA.out.1 q (by omega))
      have hWW := HH.out.2.2.2.2.2.2.1 hFF
      rw [Int.toNat_natCast] at hWW
      subst hFF
      subst hWW
      go_wp2
      go_ret2
      exact ⟨rfl, HBW.out⟩
end Go.Proofs.Ytilijegipjpdlaa
