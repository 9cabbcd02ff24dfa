/-
  A region that draws its order and whose calls may panic: what only reads is taken first.
  Conditions: none; no program is named.
-/
import Derived.Test.YtogagkgkmoppmaaGreatDoorBaseZs
import Derived.Test.YtogagkgkmoppmaaGreatDoorNum
import Derived.IntWalk
namespace Go.Proofs.YtogagkgkmoppmaaGreatDoor
set_option linter.unusedVariables false
open Go.RowKit
section
variable {P : Program} {ops : Array Oper} {Q : Exit → Act → World → Prop} {md : Region.Mode} {S : World → Prop} {n : Nat}
/-- the post at a panic does not hang on the frame's values -/
def PanFree (Q : Exit → Act → World → Prop) : Prop := ∀ c (a : Act) (d : Option Tmp) (v : Value) w, Q (.panic c) (a.put d v) w → Q (.panic c) a w
theorem wpAnyS_maskP {g : Nat} (hsel : Region.noSelect ops = true) (hQ : PanFree Q) (hs : Region.sinkB md ops n = true) (hc : Region.chainB md ops n = true) (hn : n < ops.size) {w : World} (hS : S w) :
    ∀ (bs : List Bool) (l : List Oper) (k : Nat) (done : Array Bool) (a : Act), bs.length = l.length → (∀ j, j < l.length → l[j]? = ops[k + j]?) → HeadInv md ops n done → maskB md ops n bs k done = true →
    wpMask P ops S (fun a' => wpAnyS P md ops Q S n g (maskDone bs k done) a' w) bs l a → wpAnyS P md ops Q S n (bs.count true + g) done a w
  | [], l, k, done, a, hlen, _, _, _, h => by
    simp only [List.count_nil, Nat.zero_add]
    cases l <;> simpa [wpMask, maskDone] using h
  | b :: bs, [], k, done, a, hlen, _, _, _, h => by simp at hlen
  | false :: bs, o :: l, k, done, a, hlen, hl, inv, hB, h => by
    rw [show (false :: bs).count true = bs.count true by simp]
    refine wpAnyS_maskP hsel hQ hs hc hn hS bs l (k + 1) done a (by simpa using hlen) (fun j hj => ?_) inv (by simpa [maskB] using hB) h
    have := hl (j + 1) (by simp; omega)
    simpa [Nat.add_assoc, Nat.add_comm 1 j] using this
  | true :: bs, o :: l, k, done, a, hlen, hl, inv, hB, h => by
    have h0 : ops[k]? = some o := by simpa using (hl 0 (by simp)).symm
    simp only [maskB, Bool.and_eq_true, decide_eq_true_eq] at hB
    obtain ⟨⟨⟨hr, hf⟩, hkn⟩, hB'⟩ := hB
    have hr' : k ∈ Region.ready md ops done := by simpa using hr
    obtain ⟨v, hy, hK⟩ := h
    rw [show (true :: bs).count true + g = (bs.count true + g) + 1 by simp; omega]
    refine wpAnyS_first h0 (Region.noSelect_spec hsel) (fun c a w => hQ c a _ _ w) hs hc hn hkn _ done a w inv (Region.free_spec h0 hf) hr' hy hS ?_
    refine wpAnyS_maskP hsel hQ hs hc hn hS bs l (k + 1) _ _ (by simpa using hlen) (fun j hj => ?_) (inv.set hr' hkn) hB' hK
    have := hl (j + 1) (by simp; omega)
    simpa [Nat.add_assoc, Nat.add_comm 1 j] using this
theorem wpAnyS_takeP {i : Nat} {oi : Oper} (v : Value) {fuel : Nat} {listed : Array Bool} {a : Act} {w : World} (hQ : PanFree Q) (hi : ops[i]? = some oi)
    (hB : (Region.noSelect ops && Region.sinkB md ops n && Region.chainB md ops n && decide (n < ops.size) && decide (i < n) && headInvB md ops n listed && (Region.ready md ops listed).contains i && Region.free md ops listed i) = true)
    (hy : YieldsIf P ops S oi v a) (hS : S w)
    (h : wpAnyS P md ops Q S n fuel (listed.setIfInBounds i true) (a.put oi.dst v) w) : wpAnyS P md ops Q S n (fuel + 1) listed a w := by
  simp only [Bool.and_eq_true, decide_eq_true_eq] at hB
  obtain ⟨⟨⟨⟨⟨⟨⟨hsel, hs⟩, hc⟩, hn⟩, hin⟩, hinv⟩, hr⟩, hf⟩ := hB
  exact wpAnyS_first hi (Region.noSelect_spec hsel) (fun c a w => hQ c a _ _ w) hs hc hn hin fuel listed a w (headInvB_spec hinv) (Region.free_spec hi hf) (by simpa using hr) hy hS h
theorem wpAnyS_doneP {listed : Array Bool} {a : Act} {w : World} (hr : Region.ready md ops listed = []) (h : Q .normal a w) : ∀ fuel, wpAnyS P md ops Q S n fuel listed a w
  | 0 => ⟨hr, h⟩
  | _ + 1 => ⟨fun _ => h, by rw [hr]; simp⟩
end
theorem wp_region_maskP {P : Program} {id : Nat} {Q : Exit → Act → World → Prop} {a : Act} {w : World} {l : List Oper} (S : World → Prop) (n g : Nat) (bs : List Bool) (done : Array Bool) (hm : P.follows .mixedOrders = true)
    (hB : (Region.noSelect l.toArray && Region.sinkB .any l.toArray n && Region.chainB .any l.toArray n && decide (n < l.length) && decide (bs.length = l.length) && decide (bs.count true + g = l.length) && maskB .any l.toArray n bs 0 (Array.replicate l.length false)) = true) (hd : maskDone bs 0 (Array.replicate l.length false) = done) (hQ : PanFree Q) (hS : S w.drew)
    (h : wpMask P l.toArray S (fun a' => wpAnyS P .any l.toArray Q S n g done a' w.drew) bs l a) : (Code.region id l.toArray true).wp P Q a w := by
  subst hd
  simp only [Bool.and_eq_true, decide_eq_true_eq] at hB
  obtain ⟨⟨⟨⟨⟨⟨hsel, hs⟩, hc⟩, hn⟩, hlen⟩, hcount⟩, hmask⟩ := hB
  have inv0 : HeadInv .any l.toArray n (Array.replicate l.length false) :=
    ⟨by simp, fun j oj _ hl => (by rw [getD_replicate_false] at hl; cases hl), fun t _ ht => getD_in (by simpa using ht) (getD_replicate_false _ _)⟩
  refine wp_region_any hm ?_
  have := wpAnyS_maskP hsel hQ hs hc (by simpa using hn) hS bs l 0 _ a hlen (fun j hj => by simp) inv0 hmask h
  rw [hcount] at this
  simpa using wpAny_of_S _ _ _ _ this
end Go.Proofs.YtogagkgkmoppmaaGreatDoor
namespace Go.Proofs.YtogagkgkmoppmaaGreatDoor
set_option linter.unusedVariables false
open Go.RowKit
theorem valL_snoc (l : List UInt8) (x : UInt8) : valL (l ++ [x]) = valStep (valL l) x := by unfold valL; rw [List.foldl_append]; rfl
theorem pow_le64 {n : Nat} (h : n ≤ 8) : 256 ^ n ≤ 18446744073709551616 := by
  have := Nat.pow_le_pow_right (n := 256) (by omega) h
  simpa using this
theorem valL_small : ∀ (n : Nat) (l : List UInt8), l.length = n → n ≤ 8 → valL l < 256 ^ n
  | 0, l, h, _ => by rw [List.length_eq_zero_iff.1 h]; decide
  | n + 1, l, h, h8 => by
    rcases List.eq_nil_or_concat l with e | ⟨l', x, e⟩
    · subst e; simp at h
    · subst e
      rw [List.concat_eq_append] at h ⊢
      have hl : l'.length = n := by simpa using h
      have ih := valL_small n l' hl (by omega)
      have hp := pow_le64 h8
      have hx := x.toNat_lt
      rw [valL_snoc]
      unfold valStep
      rw [Nat.pow_succ] at hp ⊢
      rw [Nat.mod_eq_of_lt (by omega)]
      omega
theorem valL_put : ∀ (n v : Nat), n ≤ 8 → valL (putL v n) = v % 256 ^ n
  | 0, v, _ => by simp [putL, valL, Nat.mod_one]
  | n + 1, v, h8 => by
    have ih := valL_put n (v / 256) (by omega)
    have hp := pow_le64 h8
    show valL (putL (v / 256) n ++ [UInt8.ofNat (v % 256)]) = _
    rw [valL_snoc, ih]
    unfold valStep
    have hx : (UInt8.ofNat (v % 256)).toNat = v % 256 := by simp
    rw [hx, Nat.pow_succ]
    have h1 : v / 256 % 256 ^ n < 256 ^ n := Nat.mod_lt _ (Nat.pow_pos (by omega))
    rw [Nat.pow_succ] at hp
    have h2 : v / 256 % 256 ^ n * 256 + v % 256 < 18446744073709551616 := by omega
    rw [Nat.mod_eq_of_lt h2, Nat.mul_comm (256 ^ n) 256, Nat.mod_mul]
    omega
theorem put_valL : ∀ (n : Nat) (l : List UInt8), l.length = n → n ≤ 8 → putL (valL l) n = l
  | 0, l, h, _ => by rw [List.length_eq_zero_iff.1 h]; rfl
  | n + 1, l, h, h8 => by
    rcases List.eq_nil_or_concat l with e | ⟨l', x, e⟩
    · subst e; simp at h
    · subst e
      rw [List.concat_eq_append] at h ⊢
      have hl : l'.length = n := by simpa using h
      have ih := put_valL n l' hl (by omega)
      have hs := valL_small n l' hl (by omega)
      have hp := pow_le64 h8
      have hx := x.toNat_lt
      rw [valL_snoc]
      rw [Nat.pow_succ] at hp
      have hv : valStep (valL l') x = valL l' * 256 + x.toNat := by unfold valStep; exact Nat.mod_eq_of_lt (by omega)
      rw [hv]
      show putL ((valL l' * 256 + x.toNat) / 256) n ++ [UInt8.ofNat ((valL l' * 256 + x.toNat) % 256)] = _
      rw [show (valL l' * 256 + x.toNat) / 256 = valL l' by omega, show (valL l' * 256 + x.toNat) % 256 = x.toNat by omega, ih]
      simp
end Go.Proofs.YtogagkgkmoppmaaGreatDoor
namespace Go.Proofs.YtogagkgkmoppmaaGreatDoor
set_option linter.unusedVariables false
set_option linter.unusedSimpArgs false
open Go.RowKit
theorem bodyPost_pan {P : Program} {fn : Func} {R : Ending → World → Prop} {a : Act} {w : World} {chain : List PanicEntry} (hd : a.defers = []) (hR : R (.panicked chain) w) : bodyPost P fn R (.panic chain) a w := ⟨hd, hR⟩
/-- the panic that gives an error up -/
def panL (c : Int) : List PanicEntry := [{ v := .iface 64 (.int .i64 c), recovered := false }]
theorem bad_no (c : Int) (w : World) : Calls Tryz.prog 44 #[.int .i64 c, .bool false] w fun e w' => e = .returned (.tuple #[]) ∧ w = w' := by
  go_enter Tryz.func44, Tryz.ntmps44
  go_wp2
  go_end0
  exact ⟨rfl, rfl⟩
theorem bad_so (c : Int) (w : World) : Calls Tryz.prog 44 #[.int .i64 c, .bool true] w fun e w' => e = .panicked (panL c) ∧ w = w' := by
  go_enter Tryz.func44, Tryz.ntmps44
  go_wp2
  exact bodyPost_pan rfl ⟨rfl, rfl⟩
/-- a reader, and the bytes that are left of it -/
def RdL (w : World) (R : Nat) (s : ByteArray) (l : List UInt8) : Prop := ∃ p, RdAt w R s p ∧ p ≤ s.size ∧ l = s.data.toList.drop p ∧ s.size ≤ 140737488355328
def KR (R : Nat) (w w' : World) : Prop := Kept (fun b => b = R) w w'
theorem KR.refl (R : Nat) (w : World) : KR R w w := Kept.refl _ _
theorem KR.trans {R : Nat} {w w' w'' : World} (h : KR R w w') (h' : KR R w' w'') : KR R w w'' := Kept.trans h h'
theorem KR.below {R : Nat} {w w' : World} (h : Below w.heap.size w w') : KR R w w' := Kept.of_below h
theorem KR.of_grown {R : Nat} {w w' : World} (h : w.grownBy w' (some R)) : KR R w w' := ⟨h.os, h.tape, h.output, h.size, fun i hi hs => h.block i hi (fun e => hs (by injection e))⟩
theorem RdL.lt {w : World} {R : Nat} {s : ByteArray} {l : List UInt8} (h : RdL w R s l) : R < w.heap.size := by obtain ⟨p, h, _⟩ := h; exact h.lt
theorem RdL.below {w w' : World} {R : Nat} {s : ByteArray} {l : List UInt8} (h : RdL w R s l) (hb : Below w.heap.size w w') : RdL w' R s l := by
  obtain ⟨p, hr, h2, h3⟩ := h
  have hl := hr.lt
  obtain ⟨a, b, c⟩ := hr
  exact ⟨p, ⟨(hb.cell (p := ⟨R, 0, none⟩) hl).trans a, (hb.cell (p := ⟨R, 1, none⟩) hl).trans b, (hb.frozen (p := ⟨R, 1, none⟩) hl).trans c⟩, h2, h3⟩
theorem RdL.kept {w w' : World} {R : Nat} {s : ByteArray} {l : List UInt8} {S : Nat → Prop} (h : RdL w R s l) (hk : Kept S w w') (hs : ¬ S R) : RdL w' R s l := by
  obtain ⟨p, hr, h2, h3⟩ := h
  have hl := hr.lt
  obtain ⟨a, b, c⟩ := hr
  have hb := hk.block R hl hs
  exact ⟨p, ⟨(World.cell?_of_block (a := ⟨R, 0, none⟩) hb).trans a, (World.cell?_of_block (a := ⟨R, 1, none⟩) hb).trans b, (World.frozen?_of_block (a := ⟨R, 1, none⟩) hb).trans c⟩, h2, h3⟩
/-- a number of n bytes -/
def rdN (n : Nat) (l : List UInt8) : Except Int (Nat × List UInt8) := if n ≤ l.length then .ok (valL (l.take n), l.drop n) else .error 2
/-- what a reading call leaves -/
def RdEnd (R : Nat) (s : ByteArray) (w : World) (r : Except Int (Value × List UInt8)) (e : Ending) (w' : World) : Prop := match r with
  | .ok x => e = .returned x.1 ∧ RdL w' R s x.2 ∧ KR R w w'
  | .error c => e = .panicked (panL c) ∧ KR R w w'
theorem rd_val (s : ByteArray) (p n : Nat) : valB (s.extract p (p + n)) = valL ((s.data.toList.drop p).take n) := (valFrom_all s p n).symm
set_option maxHeartbeats 1000000 in
theorem Text_short (R : Nat) (s : ByteArray) (p n : Nat) (w : World) (h : RdAt w R s p) (hs : s.size ≤ 140737488355328) (hp0 : p ≤ s.size) (hp : s.size < p + n) :
    Calls Tryz.prog 47 #[.pointer (some ⟨R, 0, none⟩), .int .i64 (n : Int)] w fun e w' => e = .panicked (panL 2) ∧ KR R w w' := by
  have hL := fun (W : World) (hW : RdAt W R s p) => Left_any R s p W hW hs (by omega)
  have HL := Lib.hid hL
  have H := Lib.hid h
  obtain ⟨h0, h1, h2⟩ := h
  clear hL
  have hm : decide ((s.size : Int) - (p : Int) < (n : Int)) = true := by simp; omega
  have b3 : (0 : Int) ≤ (n : Int) := by omega
  go_enter Tryz.func47, Tryz.ntmps47
  go_wp2_with fail
  refine (HL.out _ H.out).mono ?_
  rintro e w1 ⟨rfl, n1, rfl⟩
  have HK := Lib.hid (KR.below (R := R) (bn (br w) n1))
  go_wp2_with fail
  exact bodyPost_pan rfl ⟨rfl, HK.out⟩
set_option maxHeartbeats 1000000 in
theorem Num_short (R : Nat) (s : ByteArray) (p n : Nat) (w : World) (h : RdAt w R s p) (hs : s.size ≤ 140737488355328) (hp0 : p ≤ s.size) (hp : s.size < p + n) (hn : n ≤ 8) (hn0 : 0 < n) :
    Calls Tryz.prog 43 #[.pointer (some ⟨R, 0, none⟩), .int .i64 (n : Int)] w fun e w' => e = .panicked (panL 2) ∧ KR R w w' := by
  have H := Lib.hid h
  clear h
  go_enter Tryz.func43, Tryz.ntmps43
  go_wp2_with fail
  refine (num_size _ hn hn0 _).mono ?_
  rintro e w' ⟨rfl, rfl⟩
  go_wp2_with fail
  refine (Text_short R s p n _ H.out hs hp0 hp).mono ?_
  rintro e w1 ⟨rfl, hr⟩
  exact bodyPost_pan rfl ⟨rfl, hr⟩
def intR (k : IntKind) (r : Except Int (Nat × List UInt8)) : Except Int (Value × List UInt8) := r.map fun x => (.int k (x.1 : Int), x.2)
theorem rdN_lt {n : Nat} {l : List UInt8} {v : Nat} {l' : List UInt8} (h8 : n ≤ 8) (h : rdN n l = .ok (v, l')) : v < 256 ^ n ∧ l' = l.drop n ∧ n ≤ l.length := by
  unfold rdN at h
  split at h
  · rename_i hn
    injection h with h
    injection h with h1 h2
    refine ⟨?_, h2.symm, hn⟩
    rw [← h1]
    exact valL_small n _ (by rw [List.length_take]; omega) h8
  · cases h
theorem num_rd {w : World} {R : Nat} {s : ByteArray} {l : List UInt8} (h : RdL w R s l) (n : Nat) (hn : n ≤ 8) (hn0 : 0 < n) :
    Calls Tryz.prog 43 #[.pointer (some ⟨R, 0, none⟩), .int .i64 (n : Int)] w fun e w' => RdEnd R s w (intR .u64 (rdN n l)) e w' := by
  obtain ⟨p, hr, hp, rfl, hs⟩ := h
  have hlen : (s.data.toList.drop p).length = s.size - p := by rw [List.length_drop]; rfl
  unfold rdN
  by_cases hpn : p + n ≤ s.size
  · rw [if_pos (by rw [hlen]; omega)]
    refine (Num_any R s p n w hr (by omega) hpn hn hn0).mono ?_
    rintro e w' ⟨rfl, hst⟩
    refine ⟨by rw [rd_val], ⟨p + n, hst.1, hpn, by rw [List.drop_drop], hs⟩, KR.of_grown hst.2⟩
  · rw [if_neg (by rw [hlen]; omega)]
    exact Num_short R s p n w hr (by omega) hp (by omega) hn hn0
theorem rdErr {R : Nat} {s : ByteArray} {w w' : World} {r : Except Int (Value × List UInt8)} {c : Int} (hr : r = .error c) (hk : KR R w w') : RdEnd R s w r (.panicked (panL c)) w' := by subst hr; exact ⟨rfl, hk⟩
theorem rdOk {R : Nat} {s : ByteArray} {w w' : World} {r : Except Int (Value × List UInt8)} {v : Value} {l' : List UInt8} (hr : r = .ok (v, l')) (h : RdL w' R s l') (hk : KR R w w') : RdEnd R s w r (.returned v) w' := by subst hr; exact ⟨rfl, h, hk⟩
theorem keep2 {R N : Nat} {w w' : World} {cs : Array Value} {t : TypeId} (h : w.heap[N]? = some (.cells cs t (0, 0))) (hk : KR R w w') (hne : N ≠ R) : w'.heap[N]? = some (.cells cs t (0, 0)) := Kept.keep hk h hne
end Go.Proofs.YtogagkgkmoppmaaGreatDoor
namespace Go.Proofs.YtogagkgkmoppmaaGreatDoor
set_option linter.unusedVariables false
set_option linter.unusedSimpArgs false
open Go.RowKit
def andR {α β : Type} (r : Except Int (α × List UInt8)) (f : α → List UInt8 → Except Int (β × List UInt8)) : Except Int (β × List UInt8) := match r with
  | .error c => .error c
  | .ok (a, l) => f a l
theorem andR_ok {α β : Type} {r : Except Int (α × List UInt8)} {a : α} {l : List UInt8} (h : r = .ok (a, l)) (f : α → List UInt8 → Except Int (β × List UInt8)) : andR r f = f a l := by rw [h]; rfl
theorem andR_err {α β : Type} {r : Except Int (α × List UInt8)} {c : Int} (h : r = .error c) (f : α → List UInt8 → Except Int (β × List UInt8)) : andR r f = .error c := by rw [h]; rfl
theorem lbad_no (c : Int) (w : World) : Calls Tryz.prog 44 #[.int .i64 c, .bool false] w fun e w' => e = .returned (.tuple #[]) ∧ w = w' := bad_no c w
/-- a view: its number, its configuration's epoch and process, its members -/
abbrev VwK := Nat × Nat × Nat × Nat
def vwC (a b r m : Nat) : Array Value := #[.int .u64 (a : Int), .int .u64 (b : Int), .int .i64 (r : Int), .int .u64 (m : Int)]
def vwA (v : VwK) : Array Value := vwC v.1 v.2.1 v.2.2.1 v.2.2.2
def rdV3 (a b r : Nat) (l : List UInt8) : Except Int (VwK × List UInt8) := andR (rdN 8 l) fun m l => .ok ((a, b, r, m), l)
def rdV2 (a b : Nat) (l : List UInt8) : Except Int (VwK × List UInt8) := andR (rdN 1 l) fun r l => if 64 ≤ r then .error 1 else rdV3 a b r l
def rdV1 (a : Nat) (l : List UInt8) : Except Int (VwK × List UInt8) := andR (rdN 8 l) fun b l => rdV2 a b l
def rdView (l : List UInt8) : Except Int (VwK × List UInt8) := andR (rdN 8 l) fun a l => rdV1 a l
def viewR (r : Except Int (VwK × List UInt8)) : Except Int (Value × List UInt8) := r.map fun x => (.agg (vwA x.1), x.2)
theorem kr_row {R M : Nat} {w w1 : World} (h : KR R w w1) (hM : w.heap.size ≤ M) {w2 : World} (hk : Kept (fun b => b = M) w1 w2) : KR R w w2 :=
  ⟨hk.os.trans h.os, hk.tape.trans h.tape, hk.output.trans h.output, Nat.le_trans h.size hk.size, fun i hi hs => (hk.block i (Nat.lt_of_lt_of_le hi h.size) (fun e => by omega)).trans (h.block i hi hs)⟩
theorem kept_setRowL (w : World) (M : Nat) (cs : Array Value) : Kept (fun b => b = M) w (w.setRow M cs) := ⟨rfl, rfl, rfl, by rw [size_setRow]; exact Nat.le_refl _, fun i hi hs => setRow_other w M i cs (fun e => hs (by omega))⟩
set_option maxRecDepth 100000 in
set_option maxHeartbeats 8000000 in
theorem view_rd {w : World} {R : Nat} {s : ByteArray} {l : List UInt8} (h : RdL w R s l) :
    Calls Tryz.prog 46 #[.agg #[.pointer (some ⟨R, 0, none⟩)]] w fun e w' => RdEnd R s w (viewR (rdView l)) e w' := by
  obtain ⟨N, hN⟩ : ∃ N, N = w.heap.size := ⟨_, rfl⟩
  obtain ⟨W, hW⟩ : ∃ W, W = (w.alloc (.cells #[.pointer (some ⟨R, 0, none⟩)] 117)).alloc (.cells #[.int .u64 0, .int .u64 0, .int .i64 0, .int .u64 0] 33) := ⟨_, rfl⟩
  have hb1 := ba (br w) (.cells #[.pointer (some ⟨R, 0, none⟩)] 117)
  have hb2 := ba (br (w.alloc (.cells #[.pointer (some ⟨R, 0, none⟩)] 117))) (.cells #[.int .u64 0, .int .u64 0, .int .i64 0, .int .u64 0] 33)
  have n1 := (hb2.block w.heap.size (by simp)).trans (heap_alloc_new w (.cells #[.pointer (some ⟨R, 0, none⟩)] 117))
  have n2 := heap_alloc_new (w.alloc (.cells #[.pointer (some ⟨R, 0, none⟩)] 117)) (.cells #[.int .u64 0, .int .u64 0, .int .i64 0, .int .u64 0] 33)
  rw [show (w.alloc (.cells #[.pointer (some ⟨R, 0, none⟩)] 117)).heap.size = w.heap.size + 1 by simp] at n2
  have hbA := bt hb1 hb2
  rw [← hW] at n1 n2 hbA
  rw [← hN] at n1 n2
  have hNR : N ≠ R := by have := h.lt; omega
  have hNR1 : N + 1 ≠ R := by have := h.lt; omega
  have hRN : R < N := by have := h.lt; omega
  have c0 : W.cell? ⟨N, 0, none⟩ = some (.pointer (some ⟨R, 0, none⟩)) := cell_of_row _ _ 0 _ _ _ n1
  have HSZ := Lib.hid (And.intro hN hRN)
  have hrd := h.below hbA
  have H0 := Lib.hid (And.intro (KR.below (R := R) hbA) (And.intro n1 (And.intro n2 (And.intro hNR (And.intro hNR1 hrd)))))
  have HN := Lib.hid (num_rd hrd 8 (by omega) (by omega))
  obtain ⟨r, hr⟩ : ∃ r, r = viewR (rdView l) := ⟨_, rfl⟩
  rw [← hr]
  have HR := Lib.hid (show r = viewR (andR (rdN 8 l) fun a l => rdV1 a l) from hr)
  clear n1 n2 hb1 hb2 hbA h hr hNR hNR1 hRN hrd
  go_enter Tryz.func46, Tryz.ntmps46
  go_upto_region 1 with (fail)
  rw [← hW, ← hN]
  clear hW hN
  go_wp2_with fail

  refine HN.out.mono ?_
  intro e w1 h1
  rcases hn : rdN 8 l with c | ⟨a, l1⟩
  · rw [hn] at h1
    obtain ⟨rfl, hk⟩ := h1
    have HE := Lib.hid (rdErr (s := s) (show r = .error c from by rw [HR.out, andR_err hn]; rfl) (H0.out.1.trans hk))
    clear hn hk HN
    exact bodyPost_pan rfl HE.out
  rw [hn] at h1
  obtain ⟨rfl, h1, hk⟩ := h1
  have m1 := keep2 H0.out.2.1 hk H0.out.2.2.2.1
  have m2 := keep2 H0.out.2.2.1 hk H0.out.2.2.2.2.1
  have hz := heap_alloc_new w1 (.cells #[.int .u64 (a : Int), .int .u64 0, .int .i64 0, .int .u64 0] 33)
  have hbz := ba (br w1) (.cells #[.int .u64 (a : Int), .int .u64 0, .int .i64 0, .int .u64 0] 33)
  have p1 := (hbz.block _ (Array.getElem?_eq_some_iff.1 m1).1).trans m1
  have p2 := (hbz.block _ (Array.getElem?_eq_some_iff.1 m2).1).trans m2
  obtain ⟨M, hM⟩ : ∃ M, M = w1.heap.size := ⟨_, rfl⟩
  obtain ⟨wc, hwc⟩ : ∃ x, x = w1.alloc (.cells #[.int .u64 (a : Int), .int .u64 0, .int .i64 0, .int .u64 0] 33) := ⟨_, rfl⟩
  have hNM : N + 1 < M := by rw [hM]; exact (Array.getElem?_eq_some_iff.1 m2).1
  rw [← hwc] at hz hbz p1 p2
  rw [← hM] at hz
  have HC := Lib.hid (And.intro hn (And.intro hNM (And.intro hz (And.intro (h1.below hbz) (And.intro ((H0.out.1.trans hk).trans (KR.below (R := R) hbz)) (And.intro p1 p2))))))
  clear hn hk m1 m2 hz hbz p1 p2 hNM HN h1 c0
  go_upto_region 2 with (fail)
  rw [← hwc, ← hM]
  clear hwc hM
  have HR1 := Lib.hid (show r = viewR (andR (rdN 8 l1) fun b l => rdV2 a b l) from by rw [HR.out, andR_ok HC.out.1]; rfl)
  have c0 : wc.cell? ⟨N, 0, none⟩ = some (.pointer (some ⟨R, 0, none⟩)) := cell_of_row _ _ 0 _ _ _ HC.out.2.2.2.2.2.1
  have hb0 : Below wc.heap.size wc wc.drew := (br wc).drew
  have H1 := Lib.hid (And.intro (HC.out.2.2.2.2.1.trans (KR.below hb0)) (And.intro (show wc.drew.heap[N]? = _ from HC.out.2.2.2.2.2.1) (And.intro (show wc.drew.heap[N + 1]? = _ from HC.out.2.2.2.2.2.2) (And.intro (show wc.drew.heap[M]? = _ from HC.out.2.2.1) (HC.out.2.2.2.1.below hb0)))))
  have hMR : M ≠ R := by have := HC.out.2.1; have := HSZ.out.2; omega
  have HM := Lib.hid (And.intro hMR (And.intro HC.out.2.1 (And.intro H0.out.2.2.2.1 H0.out.2.2.2.2.1)))
  clear hb0 HR H0 HC hMR
  refine wp_region_maskP (fun w' => w'.cell? ⟨N, 0, none⟩ = some (.pointer (some ⟨R, 0, none⟩))) 12 9 [true, true, false, true, true, false, false, false, false, false, false, false, false] #[true, true, false, true, true, false, false, false, false, false, false, false, false] (by kernel_rfl) (by kernel_rfl) (by kernel_rfl) (fun c a d v w h => by cases d <;> exact h) c0 ?_
  clear c0
  generalize wc.drew = V at *
  refine wpMask_take _ (Or.inl ⟨by rfl, fun w' hS => by (try dsimp only at hS); go_simp; try with_reducible rfl⟩) ?_
  simp only [Act.put, List.setIfInBounds_toArray, List.set_cons_zero, List.set_cons_succ, List.getElem_toArray, List.getElem_cons_succ, List.getElem_cons_zero]
  refine wpMask_take _ (Or.inl ⟨by rfl, fun w' hS => by (try dsimp only at hS); go_simp; try with_reducible rfl⟩) ?_
  simp only [Act.put, List.setIfInBounds_toArray, List.set_cons_zero, List.set_cons_succ, List.getElem_toArray, List.getElem_cons_succ, List.getElem_cons_zero]
  refine wpMask_skip ?_
  refine wpMask_take _ (Or.inl ⟨by rfl, fun w' hS => by (try dsimp only at hS); go_simp; try with_reducible rfl⟩) ?_
  simp only [Act.put, List.setIfInBounds_toArray, List.set_cons_zero, List.set_cons_succ, List.getElem_toArray, List.getElem_cons_succ, List.getElem_cons_zero]
  refine wpMask_take _ (Or.inl ⟨by rfl, fun w' hS => by (try dsimp only at hS); go_simp; try with_reducible rfl⟩) ?_
  simp only [Act.put, List.setIfInBounds_toArray, List.set_cons_zero, List.set_cons_succ, List.getElem_toArray, List.getElem_cons_succ, List.getElem_cons_zero]
  refine wpMask_skip (wpMask_skip (wpMask_skip (wpMask_skip (wpMask_skip (wpMask_skip (wpMask_skip (wpMask_skip (wpMask_nil ?_))))))))
  refine wpAnyS_ready (rs := [2]) (by kernel_rfl) (by simp) ?_
  refine AllReadyS.cons rfl (fun K hK => ?_) AllReadyS.nil
  have HN := Lib.hid (num_rd H1.out.2.2.2.2 8 (by omega) (by omega))
  go_simp
  refine HN.out.mono ?_
  intro e w1 h1
  rcases hn : rdN 8 l1 with c | ⟨b, l2⟩
  · rw [hn] at h1
    obtain ⟨rfl, hk⟩ := h1
    have HE := Lib.hid (rdErr (s := s) (show r = .error c from by rw [HR1.out, andR_err hn]; rfl) (H1.out.1.trans hk))
    clear hn hk HN
    exact bodyPost_pan rfl HE.out
  rw [hn] at h1
  obtain ⟨rfl, h1, hk⟩ := h1
  have m1 := keep2 H1.out.2.1 hk HM.out.2.2.1
  have m2 := keep2 H1.out.2.2.1 hk HM.out.2.2.2
  have mM := keep2 H1.out.2.2.2.1 hk HM.out.1
  have k1 := H1.out.1.trans hk
  refine hK.out _ _ (fun _ => cell_of_row _ _ 0 _ _ _ m1) ?_
  clear hK K
  simp only [Act.put, List.setIfInBounds_toArray, List.set_cons_zero, List.set_cons_succ, List.getElem_toArray, List.getElem_cons_succ, List.getElem_cons_zero]
  have HR2 := Lib.hid (show r = viewR (andR (rdN 1 l2) fun q l => if 64 ≤ q then .error 1 else rdV3 a b q l) from by rw [HR1.out, andR_ok hn]; rfl)
  clear hk HN hn HR1
  refine wpAnyS_takeP (i := 7) _ (fun c a d v w h => by cases d <;> exact h) rfl (by kernel_rfl) (Or.inl ⟨by rfl, fun w' hS => by (try dsimp only at hS); go_simp; try with_reducible rfl⟩) (cell_of_row _ _ 0 _ _ _ m1) ?_
  simp only [Act.put, List.setIfInBounds_toArray, List.set_cons_zero, List.set_cons_succ, List.getElem_toArray, List.getElem_cons_succ, List.getElem_cons_zero]
  refine wpAnyS_takeP (i := 8) _ (fun c a d v w h => by cases d <;> exact h) rfl (by kernel_rfl) (Or.inl ⟨by rfl, fun w' hS => by (try dsimp only at hS); go_simp; try with_reducible rfl⟩) (cell_of_row _ _ 0 _ _ _ m1) ?_
  simp only [Act.put, List.setIfInBounds_toArray, List.set_cons_zero, List.set_cons_succ, List.getElem_toArray, List.getElem_cons_succ, List.getElem_cons_zero]
  have HN := Lib.hid (num_rd h1 1 (by omega) (by omega))
  have H2 := Lib.hid (And.intro k1 (And.intro m1 (And.intro m2 mM)))
  clear k1 m1 m2 mM h1
  refine wpAnyS_ready (rs := [5]) (by kernel_rfl) (by simp) ?_
  refine AllReadyS.cons rfl (fun K hK => ?_) AllReadyS.nil
  go_simp
  refine HN.out.mono ?_
  intro e w2 h2
  rcases hn : rdN 1 l2 with c | ⟨q, l3⟩
  · rw [hn] at h2
    obtain ⟨rfl, hk⟩ := h2
    have HE := Lib.hid (rdErr (s := s) (show r = .error c from by rw [HR2.out, andR_err hn]; rfl) (H2.out.1.trans hk))
    clear hn hk HN
    exact bodyPost_pan rfl HE.out
  rw [hn] at h2
  obtain ⟨rfl, h2, hk⟩ := h2
  have m1 := keep2 H2.out.2.1 hk HM.out.2.2.1
  have m2 := keep2 H2.out.2.2.1 hk HM.out.2.2.2
  have mM := keep2 H2.out.2.2.2 hk HM.out.1
  have k2 := H2.out.1.trans hk
  refine hK.out _ _ (fun _ => cell_of_row _ _ 0 _ _ _ m1) ?_
  clear hK K
  simp only [Act.put, List.setIfInBounds_toArray, List.set_cons_zero, List.set_cons_succ, List.getElem_toArray, List.getElem_cons_succ, List.getElem_cons_zero]
  have hv : q < 256 := by simpa using (rdN_lt (by omega) hn).1
  have hw : IntKind.i64.wrap (q : Int) = (q : Int) := IntWalk.i64_in _ (by omega)
  have HR3 := Lib.hid (show r = viewR (if 64 ≤ q then .error 1 else rdV3 a b q l3) from by rw [HR2.out, andR_ok hn])
  clear hk HN hn HR2
  refine wpAnyS_takeP (i := 6) _ (fun c a d v w h => by cases d <;> exact h) rfl (by kernel_rfl) (Or.inl ⟨by rfl, fun w' hS => by (try dsimp only at hS); go_simp; try with_reducible rfl⟩) (cell_of_row _ _ 0 _ _ _ m1) ?_
  simp only [Act.put, List.setIfInBounds_toArray, List.set_cons_zero, List.set_cons_succ, List.getElem_toArray, List.getElem_cons_succ, List.getElem_cons_zero]
  try rw [hw]
  have d1 : w2.cell? ⟨M, 1, none⟩ = some (.int .u64 0) := cell_of_row _ _ 1 _ _ _ mM
  have f1 : w2.frozen? ⟨M, 1, none⟩ = false := frozen_of_row _ _ _ _ _ mM
  refine wpAnyS_ready (rs := [9]) (by kernel_rfl) (by simp) ?_
  refine AllReadyS.cons rfl (fun K hK => ?_) AllReadyS.nil
  go_simp
  have mM2 := setCell_block mM 1 (.int .u64 (b : Int))
  have kk := (show Kept (fun b => b = M) w2 w2 from .refl _ _).setCell (p := ⟨M, 1, none⟩) rfl (.int .u64 (b : Int))
  have p1 := kk.keep m1 (by have := HM.out.2.1; omega)
  have p2 := kk.keep m2 (by have := HM.out.2.1; omega)
  have h3 := h2.kept kk (fun e => HM.out.1 e.symm)
  have k3 := kr_row k2 (by have := HM.out.2.1; have := HSZ.out.1; omega) kk
  refine hK.out _ _ (fun _ => cell_of_row _ _ 0 _ _ _ p1) ?_
  clear hK K d1 f1
  simp only [Act.put, List.setIfInBounds_toArray, List.set_cons_zero, List.set_cons_succ, List.getElem_toArray, List.getElem_cons_succ, List.getElem_cons_zero]
  generalize w2.setCell ⟨M, 1, none⟩ (.int .u64 (b : Int)) = w3 at *
  refine wpAnyS_takeP (i := 10) _ (fun c a d v w h => by cases d <;> exact h) rfl (by kernel_rfl) (Or.inl ⟨by rfl, fun w' hS => by (try dsimp only at hS); go_simp; try with_reducible rfl⟩) (cell_of_row _ _ 0 _ _ _ p1) ?_
  simp only [Act.put, List.setIfInBounds_toArray, List.set_cons_zero, List.set_cons_succ, List.getElem_toArray, List.getElem_cons_succ, List.getElem_cons_zero]
  refine wpAnyS_takeP (i := 11) _ (fun c a d v w h => by cases d <;> exact h) rfl (by kernel_rfl) (Or.inl ⟨by rfl, fun w' hS => by (try dsimp only at hS); go_simp; try with_reducible rfl⟩) (cell_of_row _ _ 0 _ _ _ p1) ?_
  simp only [Act.put, List.setIfInBounds_toArray, List.set_cons_zero, List.set_cons_succ, List.getElem_toArray, List.getElem_cons_succ, List.getElem_cons_zero]
  have d1 : w3.cell? ⟨M, 2, none⟩ = some (.int .i64 0) := cell_of_row _ _ 2 _ _ _ mM2
  have f1 : w3.frozen? ⟨M, 2, none⟩ = false := frozen_of_row _ _ _ _ _ mM2
  refine wpAnyS_ready (rs := [12]) (by kernel_rfl) (by simp) ?_
  refine AllReadyS.cons rfl (fun K hK => ?_) AllReadyS.nil
  go_simp
  refine hK.out _ _ (fun h => absurd h (by decide)) ?_
  clear hK K d1 f1
  simp only [Act.put, List.setIfInBounds_toArray, List.set_cons_zero, List.set_cons_succ, List.getElem_toArray, List.getElem_cons_succ, List.getElem_cons_zero]
  refine wpAnyS_doneP (by kernel_rfl) ?_ _
  have mM3 := setCell_block mM2 2 (.int .i64 (q : Int))
  have kk2 := (show Kept (fun b => b = M) w3 w3 from .refl _ _).setCell (p := ⟨M, 2, none⟩) rfl (.int .i64 (q : Int))
  have q1 := kk2.keep p1 (by have := HM.out.2.1; omega)
  have q2 := kk2.keep p2 (by have := HM.out.2.1; omega)
  have h4 := h3.kept kk2 (fun e => HM.out.1 e.symm)
  have k4 := kr_row k3 (by have := HM.out.2.1; have := HSZ.out.1; omega) kk2
  generalize w3.setCell ⟨M, 2, none⟩ (.int .i64 (q : Int)) = w4 at *
  have e2 : w4.cell? ⟨M, 2, none⟩ = some (.int .i64 (q : Int)) := cell_of_row _ _ 2 _ _ _ mM3
  have c0 : w4.cell? ⟨N, 0, none⟩ = some (.pointer (some ⟨R, 0, none⟩)) := cell_of_row _ _ 0 _ _ _ q1
  by_cases h64 : 64 ≤ q
  · have HE := Lib.hid (rdErr (s := s) (show r = .error 1 from by rw [HR3.out, if_pos h64]; rfl) k4)
    have d1 : decide (64 ≤ q) = true := by simpa using h64
    have d2 : decide ((64 : Int) ≤ (q : Int)) = true := by simp; omega
    clear k4 h4 q1 q2 mM3 kk2 k3 h3 p1 p2 mM2 kk k2 m1 m2 mM h2 h64
    go_wp2_with (go_at_call 44; refine (bad_so 1 _).mono ?_; rintro e w' ⟨rfl, rfl⟩)
    exact bodyPost_pan rfl HE.out
  have d1 : decide (64 ≤ q) = false := by simpa using h64
  have d2 : decide ((64 : Int) ≤ (q : Int)) = false := by simp; omega
  have HN := Lib.hid (num_rd h4 8 (by omega) (by omega))
  have HR4 := Lib.hid (show r = viewR (andR (rdN 8 l3) fun m l => .ok ((a, b, q, m), l)) from by rw [HR3.out, if_neg h64]; rfl)
  have H4 := Lib.hid (And.intro k4 (And.intro q1 (And.intro q2 mM3)))
  clear k4 h4 q1 q2 mM3 kk2 k3 h3 p1 p2 mM2 kk k2 m1 m2 mM h2 h64 HR3
  go_wp2_with (go_at_call 44; refine (bad_no 1 _).mono ?_; rintro e w' ⟨rfl, rfl⟩)
  refine HN.out.mono ?_
  intro e w5 h5
  rcases hn : rdN 8 l3 with c | ⟨m, l4⟩
  · rw [hn] at h5
    obtain ⟨rfl, hk⟩ := h5
    have HE := Lib.hid (rdErr (s := s) (show r = .error c from by rw [HR4.out, andR_err hn]; rfl) (H4.out.1.trans hk))
    clear hn hk HN
    exact bodyPost_pan rfl HE.out
  rw [hn] at h5
  obtain ⟨rfl, h5, hk⟩ := h5
  have m1 := keep2 H4.out.2.1 hk HM.out.2.2.1
  have m2 := keep2 H4.out.2.2.1 hk HM.out.2.2.2
  have mM := keep2 H4.out.2.2.2 hk HM.out.1
  have k5 := H4.out.1.trans hk
  have HRF := Lib.hid (show r = .ok (.agg (vwA (a, b, q, m)), l4) from by rw [HR4.out, andR_ok hn]; rfl)
  have d3 : w5.cell? ⟨M, 3, none⟩ = some (.int .u64 0) := cell_of_row _ _ 3 _ _ _ mM
  have f3 : w5.frozen? ⟨M, 3, none⟩ = false := frozen_of_row _ _ _ _ _ mM
  have mM5 := setCell_block mM 3 (.int .u64 (m : Int))
  have kk := (show Kept (fun b => b = M) w5 w5 from .refl _ _).setCell (p := ⟨M, 3, none⟩) rfl (.int .u64 (m : Int))
  have p2 := kk.keep m2 (by have := HM.out.2.1; omega)
  have h6 := h5.kept kk (fun e => HM.out.1 e.symm)
  have k6 := kr_row k5 (by have := HM.out.2.1; have := HSZ.out.1; omega) kk
  have H6 := Lib.hid (And.intro mM5 (And.intro p2 (And.intro h6 k6)))
  clear mM5 kk p2 h6 k6 m1 m2 mM k5 hk hn HN h5 HR4 H4 d1 d2 hw c0 e2
  go_upto_region 5 with (fail)
  obtain ⟨w6, hw6⟩ : ∃ w6, w6 = w5.setCell ⟨M, 3, none⟩ (.int .u64 (m : Int)) := ⟨_, rfl⟩
  rw [← hw6] at H6 ⊢
  clear hw6 d3 f3
  obtain ⟨C, hC⟩ : ∃ C, C = vwA (a, b, q, m) := ⟨_, rfl⟩
  have HC := Lib.hid (And.intro (show w6.heap[M]? = some (.cells C 33 (0, 0)) from by rw [hC]; exact H6.out.1) (And.intro (show C.size = 4 by rw [hC]; rfl) (And.intro (show C.all (·.oneCell') = true by rw [hC]; simp [vwA, vwC, Value.oneCell']) (show r = .ok (.agg C, l4) by rw [hC]; exact HRF.out))))
  clear hC HRF
  go_wp2_with (first
    | (refine wpList_load_row rfl 33 (.tmp 3) rfl M rfl 33 C (0, 0) _ HC.out.1 Tryz.underlying33 rfl (by rw [HC.out.2.1]; kernel_rfl) ?_)
    | (refine wpList_store_row rfl 33 (.tmp 2) (.tmp 28) rfl (N + 1) C rfl rfl 33 _ H6.out.2.1 (by rw [HC.out.2.1]; kernel_rfl) (by rw [HC.out.2.1]; rfl) HC.out.2.2.1 ?_))
  have kk := kept_setRowL w6 (N + 1) C
  have HE := Lib.hid (rdOk HC.out.2.2.2 (H6.out.2.2.1.kept kk (fun e => HM.out.2.2.2 e.symm)) (kr_row H6.out.2.2.2 (by have := HSZ.out.1; omega) kk))
  refine bodyPost_ret (results_cell_row Tryz.results46 _ _ (N + 1) 33 C (0, 0) _ rfl (setRow_heap _ _ _ _ _ _ H6.out.2.1) Tryz.underlying33 rfl (by rw [HC.out.2.1]; kernel_rfl)) rfl ?_
  exact HE.out
end Go.Proofs.YtogagkgkmoppmaaGreatDoor
