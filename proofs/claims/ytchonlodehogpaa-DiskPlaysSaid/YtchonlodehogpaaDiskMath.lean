/-
  A record's bytes, a whole slot, the newest of two: plain facts.
  Conditions: records of at most 8192 bytes.
-/
import Derived.Test.YtchonlodehogpaaCrcC
import Derived.Test.YtchonlodehogpaaNum
namespace Go.Proofs.Ytchonlodehogpaa
set_option linter.unusedVariables false
theorem valL_snoc (l : List UInt8) (c : UInt8) : valL (l ++ [c]) = valStep (valL l) c := by unfold valL; rw [List.foldl_append]; rfl
theorem valL_putL : ∀ n : Nat, n ≤ 8 → ∀ x : Nat, valL (putL x n) = x % 256 ^ n := by
  intro n
  induction n with
  | zero => intro _ x; show 0 = _; omega
  | succ n ih =>
    intro hn x
    have hc : (UInt8.ofNat (x % 256)).toNat = x % 256 := by simp
    have hp : 256 ^ (n + 1) ≤ 256 ^ 8 := Nat.pow_le_pow_right (by omega) hn
    have hm : (x / 256) % 256 ^ n < 256 ^ n := Nat.mod_lt _ (Nat.pow_pos (by omega))
    rw [putL, valL_snoc, ih (by omega)]
    unfold valStep
    rw [Nat.pow_succ] at hp
    rw [hc, Nat.pow_succ, Nat.mul_comm (256 ^ n) 256, Nat.mod_mul, Nat.mod_eq_of_lt (by omega)]
    omega
theorem bax {s t : ByteArray} (h : s.data.toList = t.data.toList) : s = t := ByteArray.ext (Array.ext' h)
theorem ext_list (s : ByteArray) (a b : Nat) : (s.extract a b).data.toList = (s.data.toList.drop a).take (b - a) := by
  rw [ByteArray.data_extract]; simp
/-- a slot is sealed and holds a number and a length -/
def wTop (s : ByteArray) : Bool := goodB s && decide (10 ≤ (openS s).size)
/-- a slot is whole -/
def wOk (s : ByteArray) : Bool := wTop s && decide ((openS s).size = 10 + valB ((openS s).extract 8 10))
def wNum (s : ByteArray) : Nat := valB ((openS s).extract 0 8)
def wTxt (s : ByteArray) : ByteArray := (openS s).extract 10 (openS s).size
def isB (a b : ByteArray) : Bool := wOk b && (!wOk a || decide (wNum a < wNum b))
def atD (a b : ByteArray) : Int := if isB a b = true then 1 else if wOk a = true then 0 else -1
def numD (a b : ByteArray) : Nat := if isB a b = true then wNum b else if wOk a = true then wNum a else 0
def txtD (a b : ByteArray) : ByteArray := if isB a b = true then wTxt b else if wOk a = true then wTxt a else ⟨#[]⟩
def anyD (a b : ByteArray) : Bool := decide (0 ≤ atD a b)
/-- a record's bytes ahead of its seal -/
def recT (n : Nat) (s : ByteArray) : ByteArray := strL (putL n 8 ++ putL s.size 2) ++ s
def recB (n : Nat) (s : ByteArray) : ByteArray := sealB (recT n s)
def nextN (a b : ByteArray) : Nat := (numD a b + 1) % 18446744073709551616
def newB (a b s : ByteArray) : ByteArray := recB (nextN a b) s
def putD (a b B : ByteArray) : ByteArray × ByteArray := if atD a b = 0 then (a, B) else (B, b)
/-- an act -/
structure ActV where
  data : ByteArray
  tear : Bool
  keep : Int
def codeD (x : ActV) : Int := if 8192 < x.data.size then 3 else 0
def keepN (R : ByteArray) (k : Int) : Nat := (max 0 (min k ((R.size : Int) - 1))).toNat
def bytesD (a b : ByteArray) (x : ActV) : ByteArray := if x.tear = true then (newB a b x.data).extract 0 (keepN (newB a b x.data) x.keep) else newB a b x.data
def actD (p : ByteArray × ByteArray) (x : ActV) : ByteArray × ByteArray := if 8192 < x.data.size then p else putD p.1 p.2 (bytesD p.1 p.2 x)
theorem recT_list (n : Nat) (s : ByteArray) : (recT n s).data.toList = putL n 8 ++ (putL s.size 2 ++ s.data.toList) := by
  unfold recT strL
  rw [ByteArray.data_append]
  simp
theorem recT_size (n : Nat) (s : ByteArray) : (recT n s).size = s.size + 10 := by
  show (recT n s).data.toList.length = s.data.toList.length + 10
  rw [recT_list, List.length_append, List.length_append, putL_length, putL_length]
  omega
theorem recB_size (n : Nat) (s : ByteArray) : (recB n s).size = s.size + 14 := by unfold recB; rw [sealB_size, recT_size]
theorem recT_num (n : Nat) (s : ByteArray) : ((recT n s).extract 0 8).data.toList = putL n 8 := by
  rw [ext_list, recT_list]
  exact List.take_left' (putL_length 8 n)
theorem recT_len (n : Nat) (s : ByteArray) : ((recT n s).extract 8 10).data.toList = putL s.size 2 := by
  rw [ext_list, recT_list, List.drop_left' (putL_length 8 n)]
  exact List.take_left' (putL_length 2 _)
theorem recT_txt (n : Nat) (s : ByteArray) : (recT n s).extract 10 (recT n s).size = s := by
  apply bax
  rw [ext_list, recT_list, recT_size, ← List.append_assoc, List.drop_left' (by rw [List.length_append, putL_length, putL_length]), Nat.add_sub_cancel]
  exact List.take_length
theorem len_val (s : ByteArray) (hs : s.size ≤ 8192) : valL (putL s.size 2) = s.size := by
  rw [valL_putL 2 (by omega)]
  omega
theorem wOk_rec (n : Nat) (s : ByteArray) (hs : s.size ≤ 8192) : wOk (recB n s) = true := by
  unfold wOk wTop recB
  rw [good_sealB, open_sealB, recT_size]
  unfold valB
  rw [recT_len, len_val s hs]
  simp
  omega
theorem wNum_rec (n : Nat) (s : ByteArray) (hn : n < 18446744073709551616) : wNum (recB n s) = n := by
  unfold wNum recB valB
  rw [open_sealB, recT_num, valL_putL 8 (by omega)]
  omega
theorem wTxt_rec (n : Nat) (s : ByteArray) : wTxt (recB n s) = s := by
  unfold wTxt recB
  rw [open_sealB, recT_txt]
theorem recB_len (n : Nat) (s : ByteArray) : ((recB n s).extract 8 10).data.toList = putL s.size 2 := by
  rw [← recT_len n s, ext_list, ext_list]
  unfold recB sealB
  rw [ByteArray.data_append, Array.toList_append]
  have h : (recT n s).data.toList.length = s.size + 10 := recT_size n s
  rw [List.drop_append_of_le_length (by omega), List.take_append_of_le_length (by rw [List.length_drop]; omega)]
theorem torn_not (n m : Nat) (s : ByteArray) (hs : s.size ≤ 8192) (hm : m < (recB n s).size) : wOk ((recB n s).extract 0 m) = false := by
  have hz := recB_size n s
  have hPz : ((recB n s).extract 0 m).size = m := by
    rw [ByteArray.size_extract]; omega
  cases hg : goodB ((recB n s).extract 0 m) with
  | false => unfold wOk wTop; rw [hg]; rfl
  | true =>
    have h4 : 4 ≤ m := by
      refine Nat.le_of_not_lt fun h => ?_
      rw [good_short _ (by omega)] at hg
      cases hg
    have ho : openS ((recB n s).extract 0 m) = (recB n s).extract 0 (m - 4) := by
      unfold openS
      rw [if_pos hg, hPz]
      apply bax
      rw [ext_list, ext_list, ext_list]
      simp only [List.drop_zero, List.take_take]
      congr 1
      omega
    have hoz : ((recB n s).extract 0 (m - 4)).size = m - 4 := by
      rw [ByteArray.size_extract]; omega
    unfold wOk wTop
    rw [ho, hoz]
    by_cases h10 : 10 ≤ m - 4
    · have hl : (((recB n s).extract 0 (m - 4)).extract 8 10).data.toList = putL s.size 2 := by
        rw [← recB_len n s, ext_list, ext_list, ext_list]
        simp only [List.drop_zero, List.drop_take, List.take_take]
        congr 1
        omega
      unfold valB
      rw [hl, len_val s hs]
      have : ¬ (m - 4 = 10 + s.size) := by omega
      simp [this]
    · simp [h10]
theorem numD_lt (a b : ByteArray) : numD a b < 18446744073709551616 := by
  unfold numD wNum valB
  split
  · exact valL_lt _
  · split
    · exact valL_lt _
    · omega
/-- what a torn slot leaves -/
theorem torn_reads (a b B : ByteArray) (h : wOk B = false) : txtD (putD a b B).1 (putD a b B).2 = txtD a b ∧ anyD (putD a b B).1 (putD a b B).2 = anyD a b ∧ numD (putD a b B).1 (putD a b B).2 = numD a b := by
  unfold putD txtD anyD numD atD isB
  cases ha : wOk a <;> cases hb : wOk b <;> by_cases hn : wNum a < wNum b <;> simp [ha, hb, h, hn]
theorem whole_reads (a b B : ByteArray) (h : wOk B = true) (hn : wNum B = numD a b + 1) : txtD (putD a b B).1 (putD a b B).2 = wTxt B ∧ anyD (putD a b B).1 (putD a b B).2 = true ∧ numD (putD a b B).1 (putD a b B).2 = numD a b + 1 := by
  revert hn
  unfold putD txtD anyD numD atD isB
  cases ha : wOk a <;> cases hb : wOk b <;> by_cases hlt : wNum a < wNum b <;> simp [ha, hb, h, hlt] <;> intro hn <;> simp [hn] <;> (try split) <;> (try constructor) <;> (try omega) <;> simp_all <;> omega
theorem act_torn (p : ByteArray × ByteArray) (x : ActV) (ht : x.tear = true) : txtD (actD p x).1 (actD p x).2 = txtD p.1 p.2 ∧ anyD (actD p x).1 (actD p x).2 = anyD p.1 p.2 ∧ numD (actD p x).1 (actD p x).2 = numD p.1 p.2 := by
  unfold actD
  by_cases h : 8192 < x.data.size
  · rw [if_pos h]; exact ⟨rfl, rfl, rfl⟩
  · rw [if_neg h]
    apply torn_reads
    unfold bytesD newB
    rw [if_pos ht]
    have := recB_size (nextN p.1 p.2) x.data
    exact torn_not _ _ _ (by omega) (by unfold keepN; omega)
theorem act_whole (p : ByteArray × ByteArray) (x : ActV) (ht : x.tear = false) (h : ¬ 8192 < x.data.size) (hn : numD p.1 p.2 < 1000) :
    txtD (actD p x).1 (actD p x).2 = x.data ∧ anyD (actD p x).1 (actD p x).2 = true ∧ numD (actD p x).1 (actD p x).2 = numD p.1 p.2 + 1 := by
  have hx : nextN p.1 p.2 = numD p.1 p.2 + 1 := by unfold nextN; omega
  unfold actD
  rw [if_neg h]
  have hb : bytesD p.1 p.2 x = recB (numD p.1 p.2 + 1) x.data := by unfold bytesD newB; rw [ht, hx]; rfl
  rw [hb]
  obtain ⟨h1, h2, h3⟩ := whole_reads p.1 p.2 _ (wOk_rec (numD p.1 p.2 + 1) x.data (by omega)) (wNum_rec _ _ (by omega))
  rw [wTxt_rec] at h1
  exact ⟨h1, h2, h3⟩
theorem act_long (p : ByteArray × ByteArray) (x : ActV) (h : 8192 < x.data.size) : actD p x = p := if_pos h
theorem act_one (p : ByteArray × ByteArray) (x : ActV) : (actD p x).1 = p.1 ∨ (actD p x).2 = p.2 := by
  unfold actD putD
  by_cases h : 8192 < x.data.size
  · rw [if_pos h]; exact .inl rfl
  · rw [if_neg h]
    split
    · exact .inl rfl
    · exact .inr rfl
end Go.Proofs.Ytchonlodehogpaa
