/-
  What a body's writer writes: numbers, processes, configurations, keys.
  Conditions: those that each theorem names.
-/
import Derived.Test.YtgpojbmloielmaaFrameC
import Derived.Test.YtgpojbmloielmaaBuild
import Derived.Test.YtgpojbmloielmaaMsgA
import Derived.Defers
import Derived.Recover
namespace Go.Proofs.Ytgpojbmloielmaa
set_option linter.unusedVariables false
set_option linter.unusedSimpArgs false
open Go.RowKit
theorem own_keptS {S : Nat → Prop} {w w' : World} {base : Nat} {e : TypeId} {size : Nat} {v : Value} {n : Nat} {xs : List Value} (h : w.ownsRow base e size v n xs) (hk : Kept S w w') (hs : ∀ b, v.ownBlock = some b → ¬ S b) : w'.ownsRow base e size v n xs := by
  refine ⟨h.1, ?_⟩
  rcases h.2 with hn | ⟨g, cap, cur, rfl, hb, hgg, rest⟩
  · exact .inl hn
  · exact .inr ⟨g, cap, cur, rfl, hb, hk.keep hgg (hs g rfl), rest⟩
theorem bodyPost_pan {P : Program} {fn : Func} {R : Ending → World → Prop} {a : Act} {w : World} {chain : List PanicEntry} (hd : a.defers = []) (hR : R (.panicked chain) w) : bodyPost P fn R (.panic chain) a w := ⟨hd, hR⟩
/-- the panic that gives an error up -/
def panL (c : Int) : List PanicEntry := [{ v := .iface 36 (.int .i64 c), recovered := false }]
theorem bad_no (c : Int) (w : World) : Calls Try.prog 50 #[.int .i64 c, .bool false] w fun e w' => e = .returned (.tuple #[]) ∧ w = w' := by
  go_enter Try.func50, Try.ntmps50
  go_wp2
  go_end0
  exact ⟨rfl, rfl⟩
theorem bad_so (c : Int) (w : World) : Calls Try.prog 50 #[.int .i64 c, .bool true] w fun e w' => e = .panicked (panL c) ∧ w = w' := by
  go_enter Try.func50, Try.ntmps50
  go_wp2
  exact bodyPost_pan rfl ⟨rfl, rfl⟩
/-- nothing but the writer's variable and rows of bytes is written -/
def KeptT (B : Nat) (w w' : World) : Prop := w.heap.size ≤ w'.heap.size ∧ ∀ i, i < w.heap.size → i ≠ B → (∀ cs fr, w.heap[i]? ≠ some (.cells cs 5 fr)) → w'.heap[i]? = w.heap[i]?
theorem KeptT.refl (B : Nat) (w : World) : KeptT B w w := ⟨Nat.le_refl _, fun _ _ _ _ => rfl⟩
theorem KeptT.trans {B : Nat} {w w' w'' : World} (h : KeptT B w w') (h' : KeptT B w' w'') : KeptT B w w'' :=
  ⟨Nat.le_trans h.1 h'.1, fun i hi hB ht => by
    have h1 := h.2 i hi hB ht
    rw [h'.2 i (Nat.lt_of_lt_of_le hi h.1) hB (by rw [h1]; exact ht), h1]⟩
theorem KeptT.of_below {B : Nat} {w w' : World} (h : Below w.heap.size w w') : KeptT B w w' := ⟨h.size, fun i hi _ _ => h.block i hi⟩
theorem KeptT.keep {B : Nat} {w w' : World} (h : KeptT B w w') {i : Nat} {cs : Array Value} {t : TypeId} {fr : Nat × Nat} (hb : w.heap[i]? = some (.cells cs t fr)) (hi : i ≠ B) (ht : t ≠ 5) : w'.heap[i]? = some (.cells cs t fr) := by
  rw [h.2 i (Array.getElem?_eq_some_iff.1 hb).1 hi (by rw [hb]; intro cs' fr' e; injection e with e; injection e with _ e; exact ht e), hb]
/-- a writer's variable, and the bytes that it holds -/
def WrAt (B : Nat) (w0 w : World) (l : List UInt8) : Prop := ∃ v, w.heap[B]? = some (.cells #[v] 80 (0, 0)) ∧ w.ownsRow (B + 1) 5 1 v l.length (ints l) ∧ Below B w0 w ∧ B ≤ w0.heap.size
theorem WrAt.below {B : Nat} {w0 w w' : World} {l : List UInt8} (h : WrAt B w0 w l) (hb : Below w.heap.size w w') : WrAt B w0 w' l := by
  obtain ⟨v, h1, h2, h3, h4⟩ := h
  have hlt := (Array.getElem?_eq_some_iff.1 h1).1
  exact ⟨v, (hb.block _ hlt).trans h1, own_keptS h2 (Kept.of_below (S := fun _ => False) hb) (fun _ _ h => h), h3.trans (hb.mono (Nat.le_of_lt hlt)), h4⟩
theorem WrAt.bel {B : Nat} {w0 w : World} {l : List UInt8} (h : WrAt B w0 w l) : Below B w0 w := by obtain ⟨_, _, _, h, _⟩ := h; exact h
theorem WrAt.lt {B : Nat} {w0 w : World} {l : List UInt8} (h : WrAt B w0 w l) : B < w.heap.size := by obtain ⟨_, h, _⟩ := h; exact (Array.getElem?_eq_some_iff.1 h).1
def WrEnd (B : Nat) (w0 w : World) (l : List UInt8) (r : Except Int (List UInt8)) (e : Ending) (w' : World) : Prop := match r with
  | .ok x => e = .returned (.tuple #[]) ∧ WrAt B w0 w' (l ++ x) ∧ KeptT B w w'
  | .error c => e = .panicked (panL c) ∧ Below B w0 w'
theorem own_src {w : World} {b : Nat} {v : Value} {l : List UInt8} (h : w.ownsRow b 5 1 v l.length (ints l)) : Src w v l := by
  have hcells := fun (g : Nat) (hg : v.ownBlock = some g) => World.ownsRow.cells h hg
  rcases h.2 with ⟨rfl, h0⟩ | ⟨g, cap, cur, hv, hg, hh, _⟩
  · exact .inl ⟨rfl, List.length_eq_zero_iff.1 h0⟩
  · refine .inr ⟨g, cap, hv, (Array.getElem?_eq_some_iff.1 hh).1, fun j hj => ?_⟩
    have := hcells g (by rw [hv]; rfl) j (.int .u8 ((l[j]).toNat : Int)) (by simp [ints, hj])
    rw [show (⟨g, 0, none⟩ : Addr).add j = ⟨g, j, none⟩ from by unfold Addr.add; split <;> simp_all] at this
    exact this
set_option maxHeartbeats 1000000 in
theorem wNum_any {B : Nat} {w0 w : World} {l : List UInt8} (h : WrAt B w0 w l) (x n : Nat) (hl : l.length ≤ 100000000) (hx : x < 18446744073709551616) (hn : n ≤ 8) (hn0 : 0 < n) :
    Calls Try.prog 63 #[.pointer (some ⟨B, 0, none⟩), .int .u64 (x : Int), .int .i64 (n : Int)] w fun e w' => WrEnd B w0 w l (.ok (putL x n)) e w' := by
  obtain ⟨v, h1, h2, h3, h4⟩ := h
  obtain ⟨av, cv, rfl⟩ := ownForm h2
  have c0 : w.cell? ⟨B, 0, none⟩ = some (.slice av l.length cv) := cell_of_row _ _ 0 _ _ _ h1
  have hlt := (Array.getElem?_eq_some_iff.1 h1).1
  have HP := Lib.hid (Put_own _ l x n w (own_src h2) hl hx hn hn0)
  have HH := Lib.hid (And.intro h1 (And.intro h3 (And.intro h4 hlt)))
  clear h1 h2 h3 h4 hlt hx hl
  go_enter Try.func63, Try.ntmps63
  go_wp2_with fail
  refine HP.out.mono ?_
  rintro e w1 ⟨v1, rfl, ho1, hb1⟩
  obtain ⟨a1, c1, hv1⟩ := ownForm ho1
  subst hv1
  have e1 := (hb1.block _ HH.out.2.2.2).trans HH.out.1
  have f1 : w1.frozen? ⟨B, 0, none⟩ = false := frozen_of_row _ _ _ _ _ e1
  have d1 : w1.cell? ⟨B, 0, none⟩ = some (.slice av l.length cv) := cell_of_row _ _ 0 _ _ _ e1
  have hk : Kept (fun b => b = B) w1 (w1.setCell ⟨B, 0, none⟩ (.slice a1 (l ++ putL x n).length c1)) := (show Kept (fun b => b = B) w1 w1 from .refl _ _).setCell (p := ⟨B, 0, none⟩) rfl _
  have HE := Lib.hid (show WrEnd B w0 w l (.ok (putL x n)) (.returned (.tuple #[])) (w1.setCell ⟨B, 0, none⟩ (.slice a1 (l ++ putL x n).length c1)) from by
    refine ⟨rfl, ⟨_, setCell_block e1 0 _, ownMore (own_keptS ho1 hk (fun b hb e => by have := (ho1.lt b hb).1; have := HH.out.2.2.2; omega)) HH.out.2.2.2, hk.out (HH.out.2.1.trans (hb1.mono (Nat.le_of_lt HH.out.2.2.2))) (Nat.le_of_lt (Nat.lt_of_lt_of_le HH.out.2.2.2 hb1.size)) (fun k hk' e => by omega), HH.out.2.2.1⟩, ?_⟩
    exact ⟨Nat.le_trans hb1.size hk.size, fun i hi hB _ => (hk.block i (Nat.lt_of_lt_of_le hi hb1.size) hB).trans (hb1.block i hi)⟩)
  clear ho1 hb1 e1 hk
  go_wp2_with fail
  go_end0
  simpa only [List.length_append] using HE.out
/-- one behind the other -/
def cat (a b : Except Int (List UInt8)) : Except Int (List UInt8) := match a with
  | .ok x => b.map (x ++ ·)
  | .error c => .error c
theorem WrEnd.seq {B : Nat} {w0 w w1 w2 : World} {l x : List UInt8} {r : Except Int (List UInt8)} {e : Ending} (k1 : KeptT B w w1) (h : WrEnd B w0 w1 (l ++ x) r e w2) : WrEnd B w0 w l (cat (.ok x) r) e w2 := by
  cases r with
  | ok y => exact ⟨h.1, by rw [← List.append_assoc]; exact h.2.1, k1.trans h.2.2⟩
  | error c => exact h
def procL (p : Int) : Except Int (List UInt8) := if 0 ≤ p ∧ p < 64 then .ok (putL p.toNat 1) else .error 1
set_option maxHeartbeats 1000000 in
theorem wProc_any {B : Nat} {w0 w : World} {l : List UInt8} (h : WrAt B w0 w l) (p : Int) (hl : l.length ≤ 100000000) :
    Calls Try.prog 65 #[.pointer (some ⟨B, 0, none⟩), .int .i64 p] w fun e w' => WrEnd B w0 w l (procL p) e w' := by
  have HW := Lib.hid h
  have hbel : Below B w0 w := h.bel
  clear h
  unfold procL
  by_cases h1 : p < 0
  · rw [if_neg (by omega)]
    have d1 : decide (p < 0) = true := by simpa using h1
    go_enter Try.func65, Try.ntmps65
    go_wp2_with (go_at_call 50; refine (bad_so 1 _).mono ?_; rintro e w' ⟨rfl, rfl⟩)
    exact bodyPost_pan rfl ⟨rfl, hbel⟩
  · by_cases h2 : p < 64
    · rw [if_pos ⟨by omega, h2⟩]
      have d1 : decide (p < 0) = false := by simpa using h1
      have d2 : decide (64 ≤ p) = false := by simpa using h2
      obtain ⟨n, rfl⟩ : ∃ n : Nat, p = (n : Int) := ⟨p.toNat, by omega⟩
      have hw : IntKind.u64.wrap (n : Int) = (n : Int) := by rw [IntKind.wrap_u64]; omega
      have HN := Lib.hid (wNum_any HW.out n 1 hl (by omega) (by omega) (by omega))
      clear h1 hl
      go_enter Try.func65, Try.ntmps65
      go_wp2_with (go_at_call 50; refine (bad_no 1 _).mono ?_; rintro e w' ⟨rfl, rfl⟩)
      refine HN.out.mono ?_
      rintro e w' ⟨rfl, he⟩
      go_wp2
      go_end0
      exact ⟨rfl, he⟩
    · rw [if_neg (by omega)]
      have d1 : decide (p < 0) = false := by simpa using h1
      have d2 : decide (64 ≤ p) = true := by simp; omega
      go_enter Try.func65, Try.ntmps65
      go_wp2_with (go_at_call 50; refine (bad_so 1 _).mono ?_; rintro e w' ⟨rfl, rfl⟩)
      exact bodyPost_pan rfl ⟨rfl, hbel⟩
def confL (e : Nat) (r : Int) : Except Int (List UInt8) := cat (.ok (putL e 8)) (procL r)
set_option maxHeartbeats 1000000 in
theorem wConf_any {B : Nat} {w0 w : World} {l : List UInt8} (h : WrAt B w0 w l) (ep : Nat) (r : Int) (hl : l.length ≤ 99999900) (hx : ep < 18446744073709551616) :
    Calls Try.prog 61 #[.pointer (some ⟨B, 0, none⟩), .agg #[.int .u64 (ep : Int), .int .i64 r]] w fun e w' => WrEnd B w0 w l (confL ep r) e w' := by
  have hbA := ba (br w) (.cells #[.int .u64 (ep : Int), .int .i64 r] 28)
  have hxA := heap_alloc_new w (.cells #[.int .u64 (ep : Int), .int .i64 r] 28)
  have H1 := Lib.hid (wNum_any (h.below hbA) ep 8 (by omega) hx (by omega) (by omega))
  have HX := Lib.hid (And.intro hbA (And.intro hxA h.lt))
  clear h hbA hxA hx
  go_enter Try.func61, Try.ntmps61
  go_wp2_with fail
  refine H1.out.mono ?_
  rintro e w1 ⟨rfl, h1, k1⟩
  have b1 := k1.keep HX.out.2.1 (Nat.ne_of_gt HX.out.2.2) (by decide)
  have d1 : w1.cell? ⟨w.heap.size, 1, none⟩ = some (.int .i64 r) := cell_of_row _ _ 1 _ _ _ b1
  have H2 := Lib.hid (wProc_any h1 r (by simp [putL_length]; omega))
  have HK := Lib.hid ((KeptT.of_below HX.out.1).trans k1)
  clear h1 k1 b1 H1
  go_wp2_with fail
  refine H2.out.mono ?_
  intro e w2 h2
  have h3 := WrEnd.seq HK.out h2
  unfold procL at h2
  split at h2
  · obtain ⟨rfl, _⟩ := h2
    clear H2
    go_wp2
    go_end0
    exact h3
  · obtain ⟨rfl, _⟩ := h2
    clear H2
    exact bodyPost_pan rfl h3
set_option maxHeartbeats 1000000 in
theorem wKey_any {B : Nat} {w0 w : World} {l : List UInt8} (h : WrAt B w0 w l) (ep : Nat) (r : Int) (hl : l.length ≤ 99999900) (hx : ep < 18446744073709551616) :
    Calls Try.prog 81 #[.pointer (some ⟨B, 0, none⟩), .agg #[.int .u64 (ep : Int), .int .i64 r]] w fun e w' => WrEnd B w0 w l (confL ep r) e w' := by
  have hbA := ba (br w) (.cells #[.int .u64 (ep : Int), .int .i64 r] 49)
  have hxA := heap_alloc_new w (.cells #[.int .u64 (ep : Int), .int .i64 r] 49)
  have H1 := Lib.hid (wNum_any (h.below hbA) ep 8 (by omega) hx (by omega) (by omega))
  have HX := Lib.hid (And.intro hbA (And.intro hxA h.lt))
  clear h hbA hxA hx
  go_enter Try.func81, Try.ntmps81
  go_wp2_with fail
  refine H1.out.mono ?_
  rintro e w1 ⟨rfl, h1, k1⟩
  have b1 := k1.keep HX.out.2.1 (Nat.ne_of_gt HX.out.2.2) (by decide)
  have d1 : w1.cell? ⟨w.heap.size, 1, none⟩ = some (.int .i64 r) := cell_of_row _ _ 1 _ _ _ b1
  have H2 := Lib.hid (wProc_any h1 r (by simp [putL_length]; omega))
  have HK := Lib.hid ((KeptT.of_below HX.out.1).trans k1)
  clear h1 k1 b1 H1
  go_wp2_with fail
  refine H2.out.mono ?_
  intro e w2 h2
  have h3 := WrEnd.seq HK.out h2
  unfold procL at h2
  split at h2
  · obtain ⟨rfl, _⟩ := h2
    clear H2
    go_wp2
    go_end0
    exact h3
  · obtain ⟨rfl, _⟩ := h2
    clear H2
    exact bodyPost_pan rfl h3
end Go.Proofs.Ytgpojbmloielmaa
