/-
  What num.size, num.value, num.Put and the reference's size, Put, Get return.
  Conditions: numbers of at most 8 bytes, texts of at most 1000000000 bytes.
-/
import Derived.Test.YtogagkgkmoppmaaGreatDoorProg
import Derived.Test.YtogagkgkmoppmaaGreatDoorBaseZs
import Derived.Test.YtogagkgkmoppmaaGreatDoorBytes
namespace Go.Proofs.YtogagkgkmoppmaaGreatDoor
set_option linter.unusedVariables false
open Go.RowKit
theorem num_size (n : Nat) (hn : n ≤ 8) (h1 : 0 < n) (w : World) :
    Calls Tryz.prog 74 #[.int .i64 (n : Int)] w fun e w' => e = .returned (.int .i64 (n : Int)) ∧ w = w' := by
  have h1 : (n : Int) ≤ 8 := by omega
  have h0 : (0 : Int) < (n : Int) := by omega
  go_enter Tryz.func74, Tryz.ntmps74
  go_wp2
  go_ret
  exact ⟨rfl, rfl⟩
/-- the number of bytes, the greatest first -/
def valStep (v : Nat) (c : UInt8) : Nat := (v * 256 + c.toNat) % 18446744073709551616
def valL (l : List UInt8) : Nat := l.foldl valStep 0
def valTo (s : ByteArray) (k : Nat) : Nat := valL (s.data.toList.take k)
def valB (s : ByteArray) : Nat := valL s.data.toList
theorem valStep_lt (v : Nat) (c : UInt8) : valStep v c < 18446744073709551616 := Nat.mod_lt _ (by omega)
theorem valL_lt (l : List UInt8) : valL l < 18446744073709551616 := by
  unfold valL
  rcases List.eq_nil_or_concat l with h | ⟨l', x, h⟩
  · subst h; show 0 < _; omega
  · subst h; rw [List.concat_eq_append, List.foldl_append]; exact valStep_lt _ _
theorem valTo_lt (s : ByteArray) (k : Nat) : valTo s k < 18446744073709551616 := valL_lt _
theorem valTo_succ (s : ByteArray) (k : Nat) (h : k < s.size) : valTo s (k + 1) = valStep (valTo s k) s[k] := by
  unfold valTo valL
  rw [List.take_succ_eq_append_getElem (by simpa using h), List.foldl_append]
  rfl
theorem valTo_all (s : ByteArray) : valTo s s.size = valB s := by
  unfold valTo valB; rw [List.take_of_length_le (by simp)]
theorem or_step (v : Nat) (hv : v < 18446744073709551616) (c : UInt8) : bits .or .u64 (IntKind.u64.wrap ((v : Int) * 256)) (c.toNat : Int) = (valStep v c : Int) := by
  have hc := c.toNat_lt
  rw [IntKind.wrap_u64, show ((v : Int) * 256 % 18446744073709551616) = ((v * 256 % 18446744073709551616 : Nat) : Int) by omega, u64_or_nat _ _ (Nat.mod_lt _ (by omega)) (by omega)]
  rw [nat_join 8 _ _ (by omega) (by omega)]
  unfold valStep
  omega
set_option maxHeartbeats 400000 in
theorem value_any (s : ByteArray) (w : World) (hs : s.size ≤ 140737488355328) :
    Calls Tryz.prog 73 #[.string s] w fun e w' => e = .returned (.int .u64 (valB s : Int)) ∧ Below w.heap.size w w' := by
  obtain ⟨w1, cap, hcv, hb1, hz1, hB⟩ := conv_bytes s w
  have HB := Lib.hid hB
  clear hB hz1
  go_enter Tryz.func73, Tryz.ntmps73
  go_wp2_with fail
  clear hcv
  go_loop [3, 9] (fun v i => ∃ k : Nat, k ≤ s.size ∧ i = .int .i64 k ∧ v = .int .u64 (valTo s k : Int)) (fun _ i => s.size - (intOf i).toNat)
  case atStart => exact ⟨0, by omega, rfl, rfl⟩
  case round =>
    obtain ⟨k, hk, rfl, rfl⟩ := hrel
    by_cases hlt : k < s.size
    · have hl : s.data.toList.length = s.size := rfl
      have hcell := (HB.out k (by simpa using hlt)).1
      have hx : s.data.toList[k]'(by simpa using hlt) = s[k] := by simp; rfl
      rw [hx] at hcell
      have hc := (s[k]).toNat_lt
      clear hl hx
      go_wp2
      go_round
      case rel => exact ⟨k + 1, by omega, by go_num, by rw [or_step _ (valTo_lt _ _), valTo_succ _ _ hlt]⟩
      case measure => simp [intOf]; omega
    · go_wp2
      go_ret
      have : k = s.size := by omega
      subst this
      exact ⟨ret_int (by rw [valTo_all]), hb1⟩
/-- the bytes of a number, the greatest first -/
def putL (v : Nat) : Nat → List UInt8
  | 0 => []
  | n + 1 => putL (v / 256) n ++ [UInt8.ofNat (v % 256)]
theorem putL_length (n : Nat) : ∀ v : Nat, (putL v n).length = n := by
  induction n with
  | zero => intro v; rfl
  | succ n ih => intro v; simp [putL, ih]
theorem putL_cons (n : Nat) : ∀ v : Nat, putL v (n + 1) = UInt8.ofNat (v / 256 ^ n % 256) :: putL v n := by
  induction n with
  | zero => intro v; simp [putL]
  | succ n ih =>
    intro v
    rw [putL, ih (v / 256)]
    show _ = _ :: (putL (v / 256) n ++ [UInt8.ofNat (v % 256)])
    rw [Nat.div_div_eq_div_mul, ← Nat.pow_succ']
    rfl
theorem ofNat_mod (v : Nat) : UInt8.ofNat (v % 256) = UInt8.ofNat v := by
  apply UInt8.toNat_inj.1
  simp
theorem putL_get (n : Nat) : ∀ (v k : Nat) (h : k < n), (putL v n)[k]'(by rw [putL_length]; exact h) = UInt8.ofNat (v / 256 ^ (n - 1 - k)) := by
  induction n with
  | zero => intro v k h; omega
  | succ n ih =>
    intro v k h
    simp only [putL]
    by_cases hk : k < n
    · rw [List.getElem_append_left (by rw [putL_length]; exact hk), ih (v / 256) k hk, Nat.div_div_eq_div_mul]
      have e : n + 1 - 1 - k = (n - 1 - k) + 1 := by omega
      rw [e, Nat.pow_succ, Nat.mul_comm]
    · have hk2 : k = n := by omega
      subst hk2
      rw [List.getElem_append_right (by rw [putL_length]; omega)]
      have e : k + 1 - 1 - k = 0 := by omega
      rw [e]
      simp [ofNat_mod]
theorem putL_snoc (x n k c m q : Nat) (y : UInt8) (h : k < n) (hm : m = n - 1 - k) (hc : c = 8 * m) (hq : q = x / 2 ^ c) (hy : y = UInt8.ofNat q) : (putL x n).take (k + 1) = (putL x n).take k ++ [y] := by
  rw [List.take_succ_eq_append_getElem (by rw [putL_length]; exact h), putL_get n x k h, hy, hq, hc, hm, Nat.pow_mul]
/-- a slice of bytes that is read alone; nil, too -/
def Src (w : World) (v : Value) (l : List UInt8) : Prop := (v = .slice none 0 0 ∧ l = []) ∨ ∃ g cap, v = .slice (some ⟨g, 0, none⟩) l.length cap ∧ g < w.heap.size ∧ ∀ j (h : j < l.length), w.cell? ⟨g, j, none⟩ = some (.int .u8 ((l[j]).toNat : Int))
def ints (l : List UInt8) : List Value := l.map fun b => Value.int .u8 (b.toNat : Int)
/-- a slice of bytes in a new block -/
def NewBytes (w : World) (l : List UInt8) (v : Value) (w' : World) : Prop := ∃ g cap, v = .slice (some ⟨g, 0, none⟩) l.length cap ∧ Below w.heap.size w w' ∧ w.heap.size ≤ g ∧ g < w'.heap.size ∧ ∀ j (h : j < l.length), w'.cell? ⟨g, j, none⟩ = some (.int .u8 ((l[j]).toNat : Int))
def PutPost (w : World) (l : List UInt8) (e : Ending) (w' : World) : Prop := ∃ v, e = .returned v ∧ NewBytes w l v w'
theorem PutPost.mk {w wr : World} {l : List UInt8} {v : Value} (hO : wr.ownsRow w.heap.size 5 1 v l.length (ints l)) (hb : Below w.heap.size w wr) (h0 : 0 < l.length) : PutPost w l (.returned v) wr := by
  have hcells := fun (g : Nat) (hg : v.ownBlock = some g) => World.ownsRow.cells hO hg
  obtain ⟨_, (⟨_, h⟩ | ⟨g, cap, cur, hv, hg, hh, _⟩)⟩ := hO
  · omega
  have hlt : g < wr.heap.size := (Array.getElem?_eq_some_iff.1 hh).1
  refine ⟨v, rfl, g, cap, hv, hb, hg, hlt, fun j hj => ?_⟩
  have := hcells g (by rw [hv]; rfl) j (.int .u8 ((l[j]).toNat : Int)) (by simp [ints, hj])
  have e : (⟨g, 0, none⟩ : Addr).add j = ⟨g, j, none⟩ := by unfold Addr.add; split <;> simp_all
  rw [e] at this
  exact this
theorem NewBytes.src {w w' : World} {l : List UInt8} {v : Value} (h : NewBytes w l v w') : Src w' v l := by
  obtain ⟨g, cap, h1, _, _, h4, h5⟩ := h
  exact .inr ⟨g, cap, h1, h4, h5⟩
theorem info_u8 : (Tryz.prog.info? 5).map (fun i => (i.zero, i.size, i.bytes)) = some (some (.int .u8 0), 1, 1) := by kernel_rfl
theorem ints_length (l : List UInt8) : (ints l).length = l.length := by simp [ints]
/-- append(b, c): b the call's own -/
theorem push_byte (w : World) (base : Nat) (v : Value) (l : List UInt8) (c : UInt8) (hown : w.ownsRow base 5 1 v l.length (ints l)) (hb : base ≤ w.heap.size) (hl : l.length ≤ 1000000000) :
    ∃ v' w', (Builtin.append_ #[161, 161] 161 #[v, .slice (some ⟨w.heap.size, 0, none⟩) 1 1]).run Tryz.prog (w.alloc (.cells #[.int .u8 (c.toNat : Int)] 5)) = .ok v' w' ∧ w'.ownsRow base 5 1 v' (l ++ [c]).length (ints (l ++ [c])) ∧ Below base w w' := by
  obtain ⟨i0, hi, hz0, hz1, hz2⟩ := info_parts info_u8
  obtain ⟨v', w', h1, h2, h3, _⟩ := run_append_own (P := Tryz.prog) (w := w.alloc (.cells #[.int .u8 (c.toNat : Int)] 5)) base 161 161 5 i0 (.int .u8 0) 1 1 (by kernel_rfl) hi hz0 hz1 hz2 rfl (by decide) v l.length (ints l) (hown.alloc _)
    ⟨w.heap.size, 0, none⟩ 1 1 [.int .u8 (c.toNat : Int)] rfl (by intro j u hj; cases j with
      | zero => simp at hj; subst hj; simp [Addr.add, go_sem]
      | succ j => simp at hj) (by simp [Value.oneCell']) (by unfold maxLen; omega) (by omega) (by simp; omega)
  refine ⟨v', w', h1, ?_, ?_⟩
  · have e : ints (l ++ [c]) = ints l ++ [.int .u8 (c.toNat : Int)] := by simp [ints]
    rw [e, List.length_append]
    exact h2
  · exact ((Below.refl _ _).alloc hb _).grown h3 (by simp; omega) (fun k hk => (hown.lt k hk).1)
def PutOwn (w : World) (l : List UInt8) (e : Ending) (w' : World) : Prop := ∃ v, e = .returned v ∧ w'.ownsRow w.heap.size 5 1 v l.length (ints l) ∧ Below w.heap.size w w'
set_option maxHeartbeats 1000000 in
theorem Put_own (v : Value) (l : List UInt8) (x n : Nat) (w : World) (hs : Src w v l) (hl : l.length ≤ 100000000) (hx : x < 18446744073709551616) (hn : n ≤ 8) (hn0 : 0 < n) :
    Calls Tryz.prog 90 #[v, .int .u64 (x : Int), .int .i64 (n : Int)] w (PutOwn w (l ++ putL x n)) := by
  obtain ⟨i0, hi, hz0, hz1, hz2⟩ := info_parts info_u8
  rcases hs with ⟨rfl, rfl⟩ | ⟨g, cap, rfl, hg, hc⟩
  · obtain ⟨w1, hr1, ho1, hg1⟩ := run_make_own (P := Tryz.prog) w w.heap.size 161 5 i0 (.int .u8 0) 1 (by kernel_rfl) hi hz0 hz1 .i64 .i64 n (by rw [hz2]; omega) (by unfold maxLen; omega) (Nat.le_refl _)
    have hr2 := run_append_owned_none (P := Tryz.prog) (w := w1) w.heap.size 161 161 5 i0 1 (by kernel_rfl) hi _ 0 [] ho1
    have HX := Lib.hid hx
    clear hx hl
    go_enter Tryz.func90, Tryz.ntmps90
    go_wp2_with (go_at_call 74; refine (num_size _ hn hn0 _).mono ?_; rintro e w' ⟨rfl, rfl⟩)
    have hb1 : Below w.heap.size w w1 := (Below.refl _ _).grown hg1 (Nat.le_refl _) (fun k hk => by cases hk)
    have HO := Lib.hid ho1
    clear hr1 hr2 ho1 hg1
    go_loopw [7, 19] (fun b i wr => ∃ k : Nat, k ≤ n ∧ i = .int .i64 k ∧ Below w.heap.size w wr ∧ wr.ownsRow w.heap.size 5 1 b ([] ++ (putL x n).take k).length (ints ([] ++ (putL x n).take k))) (fun _ i _ => n - (intOf i).toNat)
    case atStart => exact ⟨0, by omega, rfl, hb1, HO.out⟩
    case round =>
      clear hb1 HO
      obtain ⟨k, hk, rfl, hb, hO⟩ := hrel
      by_cases hlt : k < n
      · obtain ⟨m, hm⟩ : ∃ m : Nat, m = n - 1 - k := ⟨_, rfl⟩
        have hm1 : (n : Int) - 1 - (k : Int) = (m : Int) := by omega
        obtain ⟨c, hc⟩ : ∃ c : Nat, c = 8 * m := ⟨_, rfl⟩
        have hc1 : (8 : Int) * (m : Int) = (c : Int) := by omega
        have hc2 : (c : Int) < 64 := by omega
        obtain ⟨q, hq⟩ : ∃ q : Nat, q = x / 2 ^ c := ⟨_, rfl⟩
        have hq1 : (x : Int) / 2 ^ c = (q : Int) := by rw [hq]; simp
        obtain ⟨y, hy⟩ : ∃ y : UInt8, y = UInt8.ofNat q := ⟨_, rfl⟩
        have hy1 : (q : Int) % 256 = (y.toNat : Int) := by rw [hy]; simp
        have HC := Lib.hid hc
        have HQ := Lib.hid hq
        have HY := Lib.hid hy
        have HM := Lib.hid hm
        obtain ⟨v1, w2, hrun, hO2, hb2⟩ := push_byte wr w.heap.size u7 _ y hO hb.size (by simp [putL_length]; omega)
        have HO2 := Lib.hid hO2
        clear hc hq hy hm hO hO2
        go_wp2_with (at_builtin; refine wpList_append_run rfl _ _ _ rfl hrun rfl rfl ?_)
        go_roundw
        case rel =>
          exact ⟨k + 1, by omega, by go_num, hb.trans hb2, by rw [putL_snoc x n k c m q y hlt HM.out HC.out HQ.out HY.out, ← List.append_assoc]; exact HO2.out⟩
        case measure => simp [intOf]; omega
      · go_wp2
        go_ret
        have e : k = n := by omega
        subst e
        rw [List.take_of_length_le (by rw [putL_length]; omega)] at hO
        exact ⟨_, rfl, hO, hb⟩
  · obtain ⟨w1, hr1, ho1, hg1⟩ := run_make_own (P := Tryz.prog) w w.heap.size 161 5 i0 (.int .u8 0) 1 (by kernel_rfl) hi hz0 hz1 .i64 .i64 (l.length + n) (by rw [hz2]; omega) (by unfold maxLen; omega) (Nat.le_refl _)
    have hb1 : Below w.heap.size w w1 := (Below.refl _ _).grown hg1 (Nat.le_refl _) (fun k hk => by cases hk)
    obtain ⟨v2, w2, hr2, ho2, hg2, _⟩ := run_append_own (P := Tryz.prog) (w := w1) w.heap.size 161 161 5 i0 (.int .u8 0) 1 1 (by kernel_rfl) hi hz0 hz1 hz2 rfl (by decide) _ 0 [] ho1
      ⟨g, 0, none⟩ l.length cap (ints l) (by rw [ints_length, Nat.mul_one]) (by
        intro j u hj
        have hjl : j < l.length := by
          rcases Nat.lt_or_ge j l.length with h | h
          · exact h
          · rw [List.getElem?_eq_none (by rw [ints_length]; exact h)] at hj; cases hj
        have e : (⟨g, 0, none⟩ : Addr).add j = ⟨g, j, none⟩ := by unfold Addr.add; split <;> simp_all
        rw [e, hb1.cell (p := ⟨g, j, none⟩) hg, hc j hjl]
        rw [← hj]
        simp [ints, hjl]) (by intro u hu; obtain ⟨b, _, rfl⟩ := List.mem_map.1 hu; rfl) (by unfold maxLen; omega) (by omega) hb1.size
    have hb2 : Below w.heap.size w w2 := hb1.grown hg2 hb1.size (fun k hk => (ho1.lt k hk).1)
    rw [Nat.zero_add, List.nil_append] at ho2
    have e1 : ((l.length + n : Nat) : Int) = (l.length : Int) + (n : Int) := by omega
    rw [e1] at hr1
    have HX := Lib.hid hx
    have HC := Lib.hid hc
    have HO := Lib.hid ho2
    clear hx hc ho1 hg1 hg2 ho2 hb1 e1
    go_enter Tryz.func90, Tryz.ntmps90
    go_wp2_with (first | (go_at_call 74; refine (num_size _ hn hn0 _).mono ?_; rintro e w' ⟨rfl, rfl⟩) | (at_builtin; refine wpList_append_run rfl _ _ _ rfl hr2 rfl rfl ?_))
    clear hr1 hr2
    go_loopw [7, 19] (fun b i wr => ∃ k : Nat, k ≤ n ∧ i = .int .i64 k ∧ Below w.heap.size w wr ∧ wr.ownsRow w.heap.size 5 1 b (l ++ (putL x n).take k).length (ints (l ++ (putL x n).take k))) (fun _ i _ => n - (intOf i).toNat)
    case atStart => exact ⟨0, by omega, rfl, hb2, by rw [List.take_zero, List.append_nil]; exact HO.out⟩
    case round =>
      clear hb2 HO
      obtain ⟨k, hk, rfl, hb, hO⟩ := hrel
      by_cases hlt : k < n
      · obtain ⟨m, hm⟩ : ∃ m : Nat, m = n - 1 - k := ⟨_, rfl⟩
        have hm1 : (n : Int) - 1 - (k : Int) = (m : Int) := by omega
        have hm2 : (m : Int) < 8 := by omega
        obtain ⟨c, hc⟩ : ∃ c : Nat, c = 8 * m := ⟨_, rfl⟩
        have hc1 : (8 : Int) * (m : Int) = (c : Int) := by omega
        have hc2 : (c : Int) < 64 := by omega
        obtain ⟨q, hq⟩ : ∃ q : Nat, q = x / 2 ^ c := ⟨_, rfl⟩
        have hq1 : (x : Int) / 2 ^ c = (q : Int) := by rw [hq]; simp
        obtain ⟨y, hy⟩ : ∃ y : UInt8, y = UInt8.ofNat q := ⟨_, rfl⟩
        have hy1 : (q : Int) % 256 = (y.toNat : Int) := by rw [hy]; simp
        have HC := Lib.hid hc
        have HQ := Lib.hid hq
        have HY := Lib.hid hy
        have HM := Lib.hid hm
        obtain ⟨v1, w2, hrun, hO2, hb2⟩ := push_byte wr w.heap.size u7 _ y hO hb.size (by simp [putL_length]; omega)
        have HO2 := Lib.hid hO2
        clear hc hq hy hm hO hO2
        go_wp2_with (at_builtin; refine wpList_append_run rfl _ _ _ rfl hrun rfl rfl ?_)
        go_roundw
        case rel =>
          exact ⟨k + 1, by omega, by go_num, hb.trans hb2, by rw [putL_snoc x n k c m q y hlt HM.out HC.out HQ.out HY.out, ← List.append_assoc]; exact HO2.out⟩
        case measure => simp [intOf]; omega
      · go_wp2
        go_ret
        have e : k = n := by omega
        subst e
        rw [List.take_of_length_le (by rw [putL_length]; omega)] at hO
        exact ⟨_, rfl, hO, hb⟩

theorem Put_any (v : Value) (l : List UInt8) (x n : Nat) (w : World) (hs : Src w v l) (hl : l.length ≤ 100000000) (hx : x < 18446744073709551616) (hn : n ≤ 8) (hn0 : 0 < n) :
    Calls Tryz.prog 90 #[v, .int .u64 (x : Int), .int .i64 (n : Int)] w (PutPost w (l ++ putL x n)) :=
  (Put_own v l x n w hs hl hx hn hn0).mono fun e w' ⟨_, he, ho, hb⟩ => he ▸ PutPost.mk ho hb (by simp [putL_length]; omega)

/-! the reference -/
def strL (l : List UInt8) : ByteArray := ⟨l.toArray⟩
/-- the readers block -/
def RdAt (w : World) (R : Nat) (s : ByteArray) (p : Nat) : Prop := w.cell? ⟨R, 0, none⟩ = some (.string s) ∧ w.cell? ⟨R, 1, none⟩ = some (.int .i64 (p : Int)) ∧ w.frozen? ⟨R, 1, none⟩ = false
theorem Left_any (R : Nat) (s : ByteArray) (p : Nat) (w : World) (h : RdAt w R s p) (hs : s.size ≤ 140737488355328) (hp : p ≤ s.size) :
    Calls Tryz.prog 48 #[.pointer (some ⟨R, 0, none⟩)] w fun e w' => e = .returned (.int .i64 (s.size - p : Int)) ∧ ∃ n, w' = w.drewN n := by
  obtain ⟨h0, h1, h2⟩ := h
  go_enter Tryz.func48, Tryz.ntmps48
  go_wp2_with fail
  go_quiet (fail)
  go_wp2
  go_ret
  exact ⟨rfl, _, rfl⟩
def RdStep (w : World) (R : Nat) (s : ByteArray) (q : Nat) (w' : World) : Prop := RdAt w' R s q ∧ w.grownBy w' (some R)
theorem RdAt.lt {w : World} {R : Nat} {s : ByteArray} {p : Nat} (h : RdAt w R s p) : R < w.heap.size := by
  rcases Nat.lt_or_ge R w.heap.size with h' | h'
  · exact h'
  · have := h.1; simp [World.cell?, Array.getElem?_eq_none h'] at this
theorem RdStep.mk {w : World} {R : Nat} {s : ByteArray} {p : Nat} (h : RdAt w R s p) (q : Int) (q' : Nat) (hq : q = (q' : Int)) (m : Nat) : RdStep w R s q' ((w.drewN m).setCell ⟨R, 1, none⟩ (.int .i64 q)) := by
  subst hq
  obtain ⟨h0, h1, h2⟩ := h
  refine ⟨⟨?_, ?_, ?_⟩, ⟨rfl, rfl, rfl, by simp [World.setCell], fun k _ hk => ?_⟩⟩
  · rw [World.cell?_setCell_other _ _ _ _ (fun h => by injection h with _ h; cases h)]; exact h0
  · rw [World.cell?_setCell_same' _ _ _ (by rw [World.cell?_drewN, h1]; rfl)]
  · rw [World.frozen?_setCell]; exact h2
  · exact Below.heap_setCell _ _ _ _ (fun e => hk (by rw [e]))
theorem RdStep.below {w w1 w2 : World} {R : Nat} {s : ByteArray} {q : Nat} (h : RdStep w R s q w1) (hb : Below w1.heap.size w1 w2) (hR : R < w.heap.size) : RdStep w R s q w2 := by
  obtain ⟨⟨h0, h1, h2⟩, hg⟩ := h
  have hz := hg.size
  refine ⟨⟨?_, ?_, ?_⟩, ⟨hb.os.trans hg.os, hb.tape.trans hg.tape, hb.output.trans hg.output, Nat.le_trans hz hb.size, fun k hk hne => (hb.block k (by omega)).trans (hg.block k hk hne)⟩⟩
  · exact (hb.cell (p := ⟨R, 0, none⟩) (by show R < _; omega)).trans h0
  · exact (hb.cell (p := ⟨R, 1, none⟩) (by show R < _; omega)).trans h1
  · exact (hb.frozen (p := ⟨R, 1, none⟩) (by show R < _; omega)).trans h2
/-- for a caller that made the reader: below its own blocks nothing has turned -/
theorem RdStep.out {w0 w w1 : World} {R : Nat} {s : ByteArray} {q B : Nat} (h : RdStep w R s q w1) (hb : Below B w0 w) (hR : B ≤ R) (hB : B ≤ w.heap.size) : Below B w0 w1 :=
  hb.grown h.2 hB (fun k hk => by injection hk with hk; omega)
set_option maxHeartbeats 1000000 in
theorem Text_any (R : Nat) (s : ByteArray) (p n : Nat) (w : World) (h : RdAt w R s p) (hs : s.size ≤ 140737488355328) (hp : p + n ≤ s.size) :
    Calls Tryz.prog 47 #[.pointer (some ⟨R, 0, none⟩), .int .i64 (n : Int)] w fun e w' => e = .returned (.string (s.extract p (p + n))) ∧ RdStep w R s (p + n) w' := by
  have hL := fun (W : World) (hW : RdAt W R s p) => Left_any R s p W hW hs (by omega)
  have HL := Lib.hid hL
  have H := Lib.hid h
  obtain ⟨h0, h1, h2⟩ := h
  clear hL
  have hm : decide ((s.size : Int) - (p : Int) < (n : Int)) = false := by simp; omega
  have b0 : (0 : Int) ≤ (p : Int) := by omega
  have b1 : (p : Int) ≤ (p : Int) + (n : Int) := by omega
  have b2 : (p : Int) + (n : Int) ≤ (s.size : Int) := by omega
  have b3 : (0 : Int) ≤ (n : Int) := by omega
  go_enter Tryz.func47, Tryz.ntmps47
  go_wp2_with fail
  refine (HL.out _ H.out).mono ?_
  rintro e w1 ⟨rfl, n1, rfl⟩
  go_wp2_with fail
  go_quiet (fail)
  go_wp2
  go_ret
  exact ⟨rfl, RdStep.mk H.out _ _ (by omega) _⟩
theorem valB_extract_lt (s : ByteArray) : valB s < 18446744073709551616 := valL_lt _
set_option maxHeartbeats 1000000 in
theorem Num_any (R : Nat) (s : ByteArray) (p n : Nat) (w : World) (h : RdAt w R s p) (hs : s.size ≤ 140737488355328) (hp : p + n ≤ s.size) (hn : n ≤ 8) (hn0 : 0 < n) :
    Calls Tryz.prog 43 #[.pointer (some ⟨R, 0, none⟩), .int .i64 (n : Int)] w fun e w' => e = .returned (.int .u64 (valB (s.extract p (p + n)) : Int)) ∧ RdStep w R s (p + n) w' := by
  have H := Lib.hid h
  clear h
  go_enter Tryz.func43, Tryz.ntmps43
  go_wp2_with fail
  refine (num_size _ hn hn0 _).mono ?_
  rintro e w' ⟨rfl, rfl⟩
  go_wp2_with fail
  refine (Text_any R s p n _ H.out hs hp).mono ?_
  rintro e w1 ⟨rfl, hr⟩
  have HR := Lib.hid hr
  clear hr
  go_wp2_with fail
  refine (value_any _ _ (by rw [ByteArray.size_extract]; omega)).mono ?_
  rintro e w2 ⟨rfl, hb⟩
  go_wp2
  go_ret
  exact ⟨rfl, HR.out.below hb H.out.lt⟩
theorem New_any (s : ByteArray) (w : World) :
    Calls Tryz.prog 42 #[.string s] w fun e w' => e = .returned (.pointer (some ⟨w.heap.size, 0, none⟩)) ∧ w.alloc (.cells #[.string s, .int .i64 0] 151) = w' := by
  go_enter Tryz.func42, Tryz.ntmps42
  go_wp2
  go_ret
  exact ⟨rfl, rfl⟩
theorem RdAt.new (s : ByteArray) (w : World) (t : TypeId) : RdAt (w.alloc (.cells #[.string s, .int .i64 0] t)) w.heap.size s 0 := ⟨by simp [go_sem], by simp [go_sem], by simp [go_sem]⟩
/-- the value of some bytes of a text -/
def valFrom (s : ByteArray) (a k : Nat) : Nat := valL ((s.data.toList.drop a).take k)
theorem valFrom_succ (s : ByteArray) (a k : Nat) (h : a + k < s.size) : valFrom s a (k + 1) = valStep (valFrom s a k) s[a + k] := by
  unfold valFrom valL
  rw [List.take_succ_eq_append_getElem (by simp; exact Nat.lt_sub_of_add_lt (by rw [Nat.add_comm]; exact h)), List.foldl_append]
  simp
  rfl
theorem valFrom_at (s : ByteArray) (a k j : Nat) (hj : j = a + k) (h : j < s.size) : valFrom s a (k + 1) = valStep (valFrom s a k) s[j] := by
  subst hj; exact valFrom_succ s a k h
theorem valFrom_all (s : ByteArray) (a n : Nat) : valFrom s a n = valB (s.extract a (a + n)) := by
  unfold valFrom valB
  rw [ByteArray.data_extract]
  simp
theorem add_step (v : Nat) (c : UInt8) : IntKind.u64.wrap (IntKind.u64.wrap ((v : Int) * 256) + IntKind.u64.wrap (c.toNat : Int)) = (valStep v c : Int) := by
  rw [IntKind.wrap_u64, IntKind.wrap_u64, IntKind.wrap_u64]
  unfold valStep
  omega
end Go.Proofs.YtogagkgkmoppmaaGreatDoor
