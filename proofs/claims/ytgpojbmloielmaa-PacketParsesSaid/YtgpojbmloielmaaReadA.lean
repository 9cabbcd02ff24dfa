/-
  What a body's reader reads: numbers, processes.
  Conditions: those that each theorem names.
-/
import Derived.Test.YtgpojbmloielmaaPackA
import Derived.Test.YtgpojbmloielmaaMaskP
import Derived.Test.YtgpojbmloielmaaReadP
import Derived.IntWalk
namespace Go.Proofs.Ytgpojbmloielmaa
set_option linter.unusedVariables false
set_option linter.unusedSimpArgs false
open Go.RowKit
/-- a reader, and the bytes that are left of it -/
def RdL (w : World) (R : Nat) (s : ByteArray) (l : List UInt8) : Prop := ∃ p, RdAt w R s p ∧ p ≤ s.size ∧ l = s.data.toList.drop p ∧ s.size ≤ 1000000
def KR (R : Nat) (w w' : World) : Prop := Kept (fun b => b = R) w w'
theorem KR.refl (R : Nat) (w : World) : KR R w w := Kept.refl _ _
theorem KR.trans {R : Nat} {w w' w'' : World} (h : KR R w w') (h' : KR R w' w'') : KR R w w'' := Kept.trans h h'
theorem KR.below {R : Nat} {w w' : World} (h : Below w.heap.size w w') : KR R w w' := Kept.of_below h
theorem KR.of_grown {R : Nat} {w w' : World} (h : w.grownBy w' (some R)) : KR R w w' := ⟨h.os, h.tape, h.output, h.size, fun i hi hs => h.block i hi (fun e => hs (by injection e))⟩
theorem RdL.lt {w : World} {R : Nat} {s : ByteArray} {l : List UInt8} (h : RdL w R s l) : R < w.heap.size := by obtain ⟨p, h, _⟩ := h; exact h.lt
theorem RdL.below {w w' : World} {R : Nat} {s : ByteArray} {l : List UInt8} (h : RdL w R s l) (hb : Below w.heap.size w w') : RdL w' R s l := by
  obtain ⟨p, hr, h2, h3⟩ := h
  have hl := hr.lt
  obtain ⟨a, b, c⟩ := hr
  exact ⟨p, ⟨(hb.cell (p := ⟨R, 0, none⟩) hl).trans a, (hb.cell (p := ⟨R, 1, none⟩) hl).trans b, (hb.frozen (p := ⟨R, 1, none⟩) hl).trans c⟩, h2, h3⟩
theorem RdL.kept {w w' : World} {R : Nat} {s : ByteArray} {l : List UInt8} {S : Nat → Prop} (h : RdL w R s l) (hk : Kept S w w') (hs : ¬ S R) : RdL w' R s l := by
  obtain ⟨p, hr, h2, h3⟩ := h
  have hl := hr.lt
  obtain ⟨a, b, c⟩ := hr
  have hb := hk.block R hl hs
  exact ⟨p, ⟨(World.cell?_of_block (a := ⟨R, 0, none⟩) hb).trans a, (World.cell?_of_block (a := ⟨R, 1, none⟩) hb).trans b, (World.frozen?_of_block (a := ⟨R, 1, none⟩) hb).trans c⟩, h2, h3⟩
/-- a number of n bytes -/
def rdN (n : Nat) (l : List UInt8) : Except Int (Nat × List UInt8) := if n ≤ l.length then .ok (valL (l.take n), l.drop n) else .error 2
/-- what a reading call leaves -/
def RdEnd (R : Nat) (s : ByteArray) (w : World) (r : Except Int (Value × List UInt8)) (e : Ending) (w' : World) : Prop := match r with
  | .ok x => e = .returned x.1 ∧ RdL w' R s x.2 ∧ KR R w w'
  | .error c => e = .panicked (panL c) ∧ KR R w w'
theorem rd_val (s : ByteArray) (p n : Nat) : valB (s.extract p (p + n)) = valL ((s.data.toList.drop p).take n) := (valFrom_all s p n).symm
set_option maxHeartbeats 1000000 in
theorem Text_short (R : Nat) (s : ByteArray) (p n : Nat) (w : World) (h : RdAt w R s p) (hs : s.size ≤ 1000000000) (hp0 : p ≤ s.size) (hp : s.size < p + n) :
    Calls Try.prog 41 #[.pointer (some ⟨R, 0, none⟩), .int .i64 (n : Int)] w fun e w' => e = .panicked (panL 2) ∧ KR R w w' := by
  have hL := fun (W : World) (hW : RdAt W R s p) => Left_any R s p W hW hs (by omega)
  have HL := Lib.hid hL
  have H := Lib.hid h
  obtain ⟨h0, h1, h2⟩ := h
  clear hL
  have hm : decide ((s.size : Int) - (p : Int) < (n : Int)) = true := by simp; omega
  have b3 : (0 : Int) ≤ (n : Int) := by omega
  go_enter Try.func41, Try.ntmps41
  go_wp2_with fail
  refine (HL.out _ H.out).mono ?_
  rintro e w1 ⟨rfl, n1, rfl⟩
  have HK := Lib.hid (KR.below (R := R) (bn (br w) n1))
  go_wp2_with fail
  exact bodyPost_pan rfl ⟨rfl, HK.out⟩
set_option maxHeartbeats 1000000 in
theorem Num_short (R : Nat) (s : ByteArray) (p n : Nat) (w : World) (h : RdAt w R s p) (hs : s.size ≤ 1000000000) (hp0 : p ≤ s.size) (hp : s.size < p + n) (hn : n ≤ 8) (hn0 : 0 < n) :
    Calls Try.prog 40 #[.pointer (some ⟨R, 0, none⟩), .int .i64 (n : Int)] w fun e w' => e = .panicked (panL 2) ∧ KR R w w' := by
  have H := Lib.hid h
  clear h
  go_enter Try.func40, Try.ntmps40
  go_wp2_with fail
  refine (num_size _ hn hn0 _).mono ?_
  rintro e w' ⟨rfl, rfl⟩
  go_wp2_with fail
  refine (Text_short R s p n _ H.out hs hp0 hp).mono ?_
  rintro e w1 ⟨rfl, hr⟩
  exact bodyPost_pan rfl ⟨rfl, hr⟩
def intR (k : IntKind) (r : Except Int (Nat × List UInt8)) : Except Int (Value × List UInt8) := r.map fun x => (.int k (x.1 : Int), x.2)
theorem rdN_lt {n : Nat} {l : List UInt8} {v : Nat} {l' : List UInt8} (h8 : n ≤ 8) (h : rdN n l = .ok (v, l')) : v < 256 ^ n ∧ l' = l.drop n ∧ n ≤ l.length := by
  unfold rdN at h
  split at h
  · rename_i hn
    injection h with h
    injection h with h1 h2
    refine ⟨?_, h2.symm, hn⟩
    rw [← h1]
    exact valL_small n _ (by rw [List.length_take]; omega) h8
  · cases h
theorem num_rd {w : World} {R : Nat} {s : ByteArray} {l : List UInt8} (h : RdL w R s l) (n : Nat) (hn : n ≤ 8) (hn0 : 0 < n) :
    Calls Try.prog 40 #[.pointer (some ⟨R, 0, none⟩), .int .i64 (n : Int)] w fun e w' => RdEnd R s w (intR .u64 (rdN n l)) e w' := by
  obtain ⟨p, hr, hp, rfl, hs⟩ := h
  have hlen : (s.data.toList.drop p).length = s.size - p := by rw [List.length_drop]; rfl
  unfold rdN
  by_cases hpn : p + n ≤ s.size
  · rw [if_pos (by rw [hlen]; omega)]
    refine (Num_any R s p n w hr (by omega) hpn hn hn0).mono ?_
    rintro e w' ⟨rfl, hst⟩
    refine ⟨by rw [rd_val], ⟨p + n, hst.1, hpn, by rw [List.drop_drop], hs⟩, KR.of_grown hst.2⟩
  · rw [if_neg (by rw [hlen]; omega)]
    exact Num_short R s p n w hr (by omega) hp (by omega) hn hn0
end Go.Proofs.Ytgpojbmloielmaa
