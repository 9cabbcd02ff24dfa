/-
  What chunk.Items and the reference's Items return.
  Conditions: a state has at most 1000000 bytes.
-/
import Derived.Test.YtilijegipjpdlaaProg
import Derived.Test.YtilijegipjpdlaaBase
import Derived.Test.YtilijegipjpdlaaTail
import Derived.Laws.AppendOwn
import Derived.Deep.AppendLies
import Derived.OwnWalk
namespace Go.Proofs.Ytilijegipjpdlaa
set_option linter.unusedVariables false
open Go.RowKit
theorem bax {s t : ByteArray} (h : s.data.toList = t.data.toList) : s = t := ByteArray.ext (Array.ext' h)
theorem ext_list (s : ByteArray) (a b : Nat) : (s.extract a b).data.toList = (s.data.toList.drop a).take (b - a) := by
  rw [ByteArray.data_extract]; simp
/-- the state that counts -/
def cut4 (s : ByteArray) : ByteArray := s.extract 0 (min s.size 4096)
theorem cut4_size (s : ByteArray) : (cut4 s).size = min s.size 4096 := by unfold cut4; rw [ByteArray.size_extract]; omega
theorem cut4_a (s : ByteArray) : s.extract 0 4096 = cut4 s := by
  apply bax
  unfold cut4
  rw [ext_list, ext_list, Nat.sub_zero, Nat.sub_zero, List.drop_zero, List.take_eq_take_iff]
  show min 4096 s.size = min (min s.size 4096) s.size
  omega
theorem cut4_b (s : ByteArray) (h : s.size ≤ 4096) : s = cut4 s := by
  apply bax
  unfold cut4
  rw [ext_list, Nat.sub_zero, List.drop_zero, List.take_of_length_le]
  show s.size ≤ _
  omega
/-- how many chunks -/
def totalN (s : ByteArray) : Nat := max 1 ((s.size + 255) / 256)
def partB (s : ByteArray) (i : Nat) : ByteArray := s.extract (i * 256) (min s.size ((i + 1) * 256))
/-- an item's cells -/
def itemL (d : ByteArray) (n : Nat) (i t : Int) : List Value := [.int .i64 4, .string d, .int .u32 0, .int .u64 0, .bool false, .bool false, .int .u64 0, .int .u64 0, .int .i64 0, .int .u64 0, .slice none 0 0, .int .u64 0, .int .u64 0, .int .i64 0, .int .u64 0, .int .u64 (n : Int), .int .i64 i, .int .i64 t]
def itemsL (s : ByteArray) (n t : Nat) (k : Nat) : List Value := (List.range k).flatMap fun i => itemL (partB s i) n (i : Int) (t : Int)
theorem itemsL_succ (s : ByteArray) (n t k : Nat) : itemsL s n t (k + 1) = itemsL s n t k ++ itemL (partB s k) n (k : Int) (t : Int) := by
  unfold itemsL
  rw [List.range_succ, List.flatMap_append]
  simp
theorem itemsL_length (s : ByteArray) (n t k : Nat) : (itemsL s n t k).length = k * 18 := by
  induction k with
  | zero => rfl
  | succ k ih => rw [itemsL_succ, List.length_append, ih]; simp [itemL]; omega
theorem itemL_one (d : ByteArray) (n : Nat) (i t : Int) : ∀ u ∈ itemL d n i t, u.oneCell' = true := by
  simp [itemL, Value.oneCell']
theorem info42 : (Try.prog.info? 42).map (fun i => (i.zero, i.size, i.bytes)) = some (some (.agg (itemL ⟨#[]⟩ 0 0 0 |>.set 0 (.int .i64 0)).toArray), 18, 160) := by kernel_rfl
theorem info38 : (Try.prog.info? 38).map (fun i => (i.zero, i.size, i.bytes)) = some (some (.agg (itemL ⟨#[]⟩ 0 0 0 |>.set 0 (.int .i64 0)).toArray), 18, 160) := by kernel_rfl
theorem info9 : (Try.prog.info? 9).map (fun i => (i.zero, i.size, i.bytes)) = some (some (.string ⟨#[]⟩), 1, 16) := by kernel_rfl
def ItemsPost (t : TypeId) (w : World) (n : Nat) (s : ByteArray) (T : Nat) (e : Ending) (w' : World) : Prop := ∃ v, e = .returned v ∧ w'.ownsRow w.heap.size t 18 v T (itemsL s n T T) ∧ Below w.heap.size w w'
theorem new_cells (w : World) (l : List Value) (t : TypeId) (j : Nat) (u : Value) (h : l[j]? = some u) : (w.alloc (.cells l.toArray t)).cell? ((⟨w.heap.size, 0, none⟩ : Addr).add j) = some u := by
  have ha : (⟨w.heap.size, 0, none⟩ : Addr).add j = ⟨w.heap.size, j, none⟩ := by unfold Addr.add; split <;> simp_all
  rw [ha, cell_of_row _ _ j l.toArray t (0, 0) (heap_alloc_new w _)]
  simpa using h
set_option maxRecDepth 100000 in
set_option maxHeartbeats 1000000 in
theorem Items_any (n : Nat) (s : ByteArray) (w : World) (hn : n < 18446744073709551616) (hs : s.size ≤ 1000000) :
    Calls Try.prog 7 #[.int .u64 (n : Int), .string s] w (ItemsPost 42 w n (cut4 s) (totalN (cut4 s))) := by
  obtain ⟨i0, hi, hz0, hz1, hz2⟩ := info_parts info42
  have hcs := cut4_size s
  have hcut : s.extract 0 (min s.size 4096) = cut4 s := rfl
  clear hcut
  go_enter Try.func7, Try.ntmps7
  go_upto_region 1 with (fail)
  go_cut [1] (fun s1 wx => s1 = .string (cut4 s) ∧ w = wx)
  case first =>
    go_wp2_with fail
    · go_meet
      exact ⟨by rw [cut4_a], rfl⟩
    · go_meet
      exact ⟨by rw [← cut4_b s (by omega)], rfl⟩
  case rest =>
    obtain ⟨rfl, rfl⟩ := hcut
    have hz : (cut4 s).size ≤ 4096 := by omega
    generalize cut4 s = x at *
    clear hcs hs
    go_upto_region 2 with (fail)
    go_cut [5] (fun s5 wx => s5 = .int .i64 (totalN x : Int) ∧ w = wx)
    case first =>
      go_wp2_with fail
      all_goals
        go_meet
        exact ⟨by congr 1; unfold totalN; omega, rfl⟩
    case rest =>
      obtain ⟨rfl, rfl⟩ := hcut
      have hT1 : 1 ≤ totalN x := by unfold totalN; omega
      have hT2 : totalN x ≤ 16 := by unfold totalN; omega
      have hlo : ∀ k, k < totalN x → k * 256 ≤ x.size := by unfold totalN; intro k; omega
      have hpart : ∀ k, partB x k = x.extract (k * 256) (min x.size ((k + 1) * 256)) := fun _ => rfl
      generalize totalN x = T at *
      have HL := Lib.hid hlo
      have HP := Lib.hid hpart
      clear hlo hpart
      go_wp2
      go_loopw [6, 21] (fun v i wr => ∃ k : Nat, k ≤ T ∧ i = .int .i64 (k : Int) ∧ wr.ownsRow w.heap.size 42 18 v k (itemsL x n T k) ∧ Below w.heap.size w wr) (fun _ i _ => T - (intOf i).toNat)
      case atStart => exact ⟨0, by omega, rfl, World.ownsRow_nil _ _ _ _, br _⟩
      case round =>
        obtain ⟨k, hk, rfl, hown, hbr⟩ := hrel
        by_cases hlt : k < T
        · have hd : decide ((k : Int) < (T : Int)) = true := by simpa using hlt
          have hl := HL.out k hlt
          have hsz := hbr.size
          have hp := HP.out k
          go_upto_region 7 with (fail)
          go_cut [8] (fun s8 wx => s8 = .string (partB x k) ∧ wr = wx)
          case first =>
            go_wp2_with fail
            all_goals
              go_meet
              refine ⟨?_, rfl⟩
              rw [hp]
              congr 2
              omega
          case rest =>
            obtain ⟨rfl, rfl⟩ := hcut
            clear hp hl
            go_wp2_with (at_builtin; refine wpList_append_own _ rfl (.tmp 34) (.tmp 40) 24 rfl w.heap.size 42 i0 _ 18 160 Try.underlying24 hi hz0 hz1 hz2 rfl (by decide) _ _ _ rfl (hown.alloc _) ⟨wr.heap.size, 0, none⟩ 1 1 (itemL (partB x k) n (k : Int) (T : Int)) rfl rfl ?c1 ?c2 ?c3 ?c4 ?c5 ?_)
            case c1 => exact new_cells wr (itemL (partB x k) n (k : Int) (T : Int)) 42
            case c2 => exact itemL_one _ _ _ _
            case c3 => unfold maxLen; omega
            case c4 => omega
            case c5 => simp; omega
            intro v' w1 hown1 hg1 _
            have hb1 : Below w.heap.size w w1 := (ba hbr _).grown hg1 (by simp; omega) (fun g hg => (hown.lt g hg).1)
            rw [← itemsL_succ] at hown1
            go_wp2
            go_roundw
            case rel => exact ⟨k + 1, by omega, by go_num, hown1, hb1⟩
            case measure => simp [intOf]; omega
        · have hd : decide ((k : Int) < (T : Int)) = false := by simpa using hlt
          obtain rfl : k = T := by omega
          go_wp2
          go_ret
          exact ⟨_, rfl, hown, hbr⟩
def restB (s : ByteArray) (k : Nat) : ByteArray := s.extract (k * 256) s.size
theorem restB_size (s : ByteArray) (k : Nat) : (restB s k).size = s.size - k * 256 := by unfold restB; rw [ByteArray.size_extract]; omega
theorem restB_part (s : ByteArray) (k : Nat) (h : 256 < s.size - k * 256) : (restB s k).extract 0 256 = partB s k := by
  apply bax
  unfold restB partB
  rw [ext_list, ext_list, ext_list, List.drop_zero, List.take_take]
  congr 1
  omega
theorem restB_next (s : ByteArray) (k : Nat) : (restB s k).extract 256 (restB s k).size = restB s (k + 1) := by
  apply bax
  have h1 : (s.size - k * 256) - 256 ≤ s.size - k * 256 - 256 := Nat.le_refl _
  rw [ext_list, restB_size]
  unfold restB
  rw [ext_list, ext_list, List.drop_take, List.drop_drop, List.take_take, show k * 256 + 256 = (k + 1) * 256 from by omega, show min (s.size - k * 256 - 256) (s.size - k * 256 - 256) = s.size - (k + 1) * 256 from by omega]
theorem restB_zero (x : ByteArray) : x = restB x 0 := by
  apply bax
  unfold restB
  rw [ext_list, Nat.zero_mul, List.drop_zero, Nat.sub_zero]
  exact (List.take_of_length_le (Nat.le_refl _)).symm
theorem restB_last (s : ByteArray) (k : Nat) (h : s.size - k * 256 ≤ 256) : restB s k = partB s k := by
  apply bax
  unfold restB partB
  rw [ext_list, ext_list]
  congr 1
  omega
theorem own_base {w : World} {base base' : Nat} {e : TypeId} {size : Nat} {v : Value} {n : Nat} {xs : List Value} (h : w.ownsRow base e size v n xs) (hb : base' ≤ base) : w.ownsRow base' e size v n xs := by
  refine ⟨h.1, ?_⟩
  rcases h.2 with h | ⟨g, cap, cur, h1, h2, h3⟩
  · exact .inl h
  · exact .inr ⟨g, cap, cur, h1, by omega, h3⟩
def partsL (s : ByteArray) (k : Nat) : List Value := (List.range k).map fun i => .string (partB s i)
theorem partsL_succ (s : ByteArray) (k : Nat) : partsL s (k + 1) = partsL s k ++ [.string (partB s k)] := by
  unfold partsL
  rw [List.range_succ, List.map_append]
  rfl
def sizeOfStr : Value → Nat
  | .string b => b.size
  | _ => 0
set_option maxRecDepth 100000 in
set_option maxHeartbeats 1000000 in
theorem refItems_any (n : Nat) (s : ByteArray) (w : World) (hn : n < 18446744073709551616) (hs : s.size ≤ 1000000) :
    Calls Try.prog 8 #[.int .u64 (n : Int), .string s] w (ItemsPost 38 w n (cut4 s) (totalN (cut4 s))) := by
  obtain ⟨i0, hi, hz0, hz1, hz2⟩ := info_parts info38
  obtain ⟨i1, hi1, hy0, hy1, hy2⟩ := info_parts info9
  have hcs := cut4_size s
  go_enter Try.func8, Try.ntmps8
  go_upto_if 10 with (fail)
  go_cut [1] (fun s1 wx => s1 = .string (cut4 s) ∧ w = wx)
  case first =>
    by_cases h4 : 4096 < s.size
    · have hd : decide ((4096 : Int) < (s.size : Int)) = true := by simp; omega
      go_wp2_with fail
      go_meet
      exact ⟨by rw [cut4_a], rfl⟩
    · have hd : decide ((4096 : Int) < (s.size : Int)) = false := by simp; omega
      go_wp2_with fail
      go_meet
      exact ⟨by rw [← cut4_b s (by omega)], rfl⟩
  case rest =>
    obtain ⟨rfl, rfl⟩ := hcut
    have hz : (cut4 s).size ≤ 4096 := by omega
    generalize cut4 s = x at *
    clear hcs hs
    have hT1 : 1 ≤ totalN x := by unfold totalN; omega
    have hT2 : totalN x ≤ 16 := by unfold totalN; omega
    have hT3 : ∀ k, 256 < x.size - k * 256 → k + 1 < totalN x := by unfold totalN; intro k; omega
    have hT4 : ∀ k, k < totalN x → x.size - k * 256 ≤ 256 → k + 1 = totalN x := by unfold totalN; intro k; omega
    generalize totalN x = T at *
    have H3 := Lib.hid hT3
    have H4 := Lib.hid hT4
    have H0 := Lib.hid (restB_zero x)
    clear hT3 hT4
    go_wp2
    go_loopw [1, 5] (fun s1 v wr => ∃ k : Nat, k < T ∧ s1 = .string (restB x k) ∧ wr.ownsRow w.heap.size 9 1 v k (partsL x k) ∧ Below w.heap.size w wr) (fun s1 _ _ => sizeOfStr s1)
    case atStart => exact ⟨0, by omega, by rw [← H0.out], World.ownsRow_nil _ _ _ _, br _⟩
    case round =>
      obtain ⟨k, hk, rfl, hown, hbr⟩ := hrel
      have hsz := hbr.size
      have hrz := restB_size x k
      by_cases hlt : 256 < x.size - k * 256
      · have hd : decide ((256 : Int) < ((restB x k).size : Int)) = true := by simp; omega
        have hd2 : decide (256 < (restB x k).size) = true := by simp; omega
        have h5 : 256 ≤ (restB x k).size := by omega
        have hp := Lib.hid (restB_part x k hlt)
        have hq := Lib.hid (restB_next x k)
        have hrz' := restB_size x (k + 1)
        have hmz : sizeOfStr (.string (restB x (k + 1))) < sizeOfStr (.string (restB x k)) := by show (restB x (k + 1)).size < (restB x k).size; omega
        clear hrz hrz'
        go_wp2_with (at_builtin; refine wpList_append_own _ rfl (.tmp 16) (.tmp 19) 60 rfl w.heap.size 9 i1 _ 1 16 Try.underlying60 hi1 hy0 hy1 hy2 rfl (by decide) _ _ _ rfl (hown.alloc _) ⟨wr.heap.size, 0, none⟩ 1 1 [.string (partB x k)] rfl rfl ?c1 ?c2 ?c3 ?c4 ?c5 ?_)
        case c1 => rw [← hp.out]; exact new_cells wr [.string ((restB x k).extract 0 256)] 9
        case c2 => simp [Value.oneCell']
        case c3 => unfold maxLen; omega
        case c4 => omega
        case c5 => simp; omega
        intro v' w1 hown1 hg1 _
        have hb1 : Below w.heap.size w w1 := (ba hbr _).grown hg1 (by simp; omega) (fun g hg => (hown.lt g hg).1)
        rw [← partsL_succ] at hown1
        go_wp2
        go_roundw
        case rel => exact ⟨k + 1, H3.out k hlt, by rw [hq.out], hown1, hb1⟩
        case measure => rw [hq.out]; exact hmz
      · have hd : decide ((256 : Int) < ((restB x k).size : Int)) = false := by simp; omega
        have hd2 : decide (256 < (restB x k).size) = false := by simp; omega
        obtain rfl := H4.out k hk (by omega)
        have hp := Lib.hid (restB_last x k (by omega))
        clear hrz
        go_wp2_with (at_builtin; refine wpList_append_own _ rfl (.tmp 23) (.tmp 25) 60 rfl w.heap.size 9 i1 _ 1 16 Try.underlying60 hi1 hy0 hy1 hy2 rfl (by decide) _ _ _ rfl (hown.alloc _) ⟨wr.heap.size, 0, none⟩ 1 1 [.string (restB x k)] rfl rfl ?d1 ?d2 ?d3 ?d4 ?d5 ?_)
        case d1 => exact new_cells wr [.string (restB x k)] 9
        case d2 => simp [Value.oneCell']
        case d3 => unfold maxLen; omega
        case d4 => omega
        case d5 => simp; omega
        intro v1 w1 hown1 hg1 _
        have hb1 : Below w.heap.size w w1 := (ba hbr _).grown hg1 (by simp; omega) (fun g hg => (hown.lt g hg).1)
        rw [hp.out, ← partsL_succ] at hown1
        obtain ⟨g, cap, rfl, hg0, hg2⟩ := hown1.form (by omega)
        have hcell := Lib.hid (hown1.cells (g := g) rfl)
        have hsz1 := hb1.size
        clear hown hg1 hown1
        go_wp2
        go_loopw [6, 7] (fun v i wr => ∃ j : Nat, j ≤ k + 1 ∧ i = .int .i64 (j : Int) ∧ wr.ownsRow w1.heap.size 38 18 v j (itemsL x n (k + 1) j) ∧ Below w1.heap.size w1 wr) (fun _ i _ => k + 1 - (intOf i).toNat)
        case atStart => exact ⟨0, by omega, rfl, World.ownsRow_nil _ _ _ _, br _⟩
        case round =>
          obtain ⟨j, hj, rfl, hown, hbr⟩ := hrel
          have hsz := hbr.size
          by_cases hlt2 : j < k + 1
          · have hd3 : decide ((j : Int) < ((k + 1 : Nat) : Int)) = true := by simp; omega
            have hd4 : (j : Int) < (k : Int) + 1 := by omega
            have hc0 : wr.cell? ⟨g, j, none⟩ = some (.string (partB x j)) := by
              have ha : (⟨g, 0, none⟩ : Addr).add j = ⟨g, j, none⟩ := by unfold Addr.add; split <;> simp_all
              rw [hbr.cell (p := ⟨g, j, none⟩) hg2, ← ha]
              exact hcell.out j _ (by unfold partsL; simp [hlt2])
            go_wp2_with (at_builtin; refine wpList_append_own _ rfl (.tmp 33) (.tmp 43) 26 rfl w1.heap.size 38 i0 _ 18 160 Try.underlying26 hi hz0 hz1 hz2 rfl (by decide) _ _ _ rfl (hown.alloc _) ⟨wr.heap.size, 0, none⟩ 1 1 (itemL (partB x j) n (j : Int) ((k + 1 : Nat) : Int)) rfl rfl ?e1 ?e2 ?e3 ?e4 ?e5 ?_)
            case e1 => exact new_cells wr (itemL (partB x j) n (j : Int) ((k + 1 : Nat) : Int)) 38
            case e2 => exact itemL_one _ _ _ _
            case e3 => unfold maxLen; omega
            case e4 => omega
            case e5 => simp; omega
            intro v' w2 hown2 hg2 _
            have hb2 : Below w1.heap.size w1 w2 := (ba hbr _).grown hg2 (by simp; omega) (fun g hg => (hown.lt g hg).1)
            rw [show (k : Int) + 1 = ((k + 1 : Nat) : Int) from by omega, ← itemsL_succ] at hown2
            go_wp2
            go_roundw
            case rel => exact ⟨j + 1, by omega, by go_num, hown2, hb2⟩
            case measure => simp [intOf]; omega
          · have hd3 : decide ((j : Int) < ((k + 1 : Nat) : Int)) = false := by simp; omega
            have hd4 : decide ((j : Int) < (k : Int) + 1) = false := by simp; omega
            obtain rfl : j = k + 1 := by omega
            go_wp2
            go_ret
            exact ⟨_, rfl, own_base hown hb1.size, bt hb1 hbr⟩
end Go.Proofs.Ytilijegipjpdlaa
