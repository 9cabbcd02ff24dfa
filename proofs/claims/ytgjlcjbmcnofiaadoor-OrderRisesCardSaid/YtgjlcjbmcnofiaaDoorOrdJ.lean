/-
  Scripts of an order: acts in memory, opened; what the law's Few returns.
  Conditions: none.
-/
import Derived.Test.YtgjlcjbmcnofiaaDoorOrdR
import Derived.Test.YtgjlcjbmcnofiaaDoorMsgC
namespace Go.Proofs.YtgjlcjbmcnofiaaDoor
set_option linter.unusedVariables false
set_option linter.unusedSimpArgs false
open Go.RowKit
/-- an act: a call, by its kind -/
structure ActO where
  kind : Int
  p : Int
  m : Msg
  seq : Nat
  stamp : Nat
instance : Inhabited ActO := ⟨⟨0, 0, default, 0, 0⟩⟩
def actL (a : ActO) : List Value := [.int .i64 a.kind, .int .i64 a.p] ++ (msgA a.m).toList ++ [.int .u32 (a.seq : Int), .int .u64 (a.stamp : Int)]
def ActsO (w : World) (v : Value) (l : List ActO) : Prop := ∃ ad cap, v = .slice ad l.length cap ∧ l.length ≤ 9223372036854775807 ∧
  ∀ i (h : i < l.length), ∃ B O, ad = some ⟨B, O, none⟩ ∧ B < w.heap.size ∧ w.rangeAt B (O + i * 10) (actL l[i]) ∧ MsgOk w l[i].m ∧ l[i].seq < 4294967296 ∧ l[i].stamp < 18446744073709551616
theorem ActsO.below {w w' : World} {v : Value} {l : List ActO} (h : ActsO w v l) (hb : Below w.heap.size w w') : ActsO w' v l := by
  obtain ⟨ad, cap, rfl, hl, h⟩ := h
  refine ⟨ad, cap, rfl, hl, fun i hi => ?_⟩
  obtain ⟨B, O, rfl, hB, hr, h1, h2⟩ := h i hi
  exact ⟨B, O, rfl, Nat.lt_of_lt_of_le hB hb.size, fun j u hu => (hb.cell (p := ⟨B, O + i * 10 + j, none⟩) hB).trans (hr j u hu), h1.below hb, h2⟩
/-- few acts, of few bytes -/
def FewOkO (l : List ActO) : Prop := l.length ≤ 60 ∧ ∀ a ∈ l, a.m.pay.size ≤ 20000 ∧ a.m.ds.length ≤ 20000
def FewEndO (l : List ActO) (e : Ending) : Prop := ∃ b, e = .returned (.bool b) ∧ (b = true → FewOkO l)
theorem act_msg {w : World} {B o : Nat} {a : ActO} (h : w.rangeAt B o (actL a)) : w.rangeAt B (o + 2) (msgA a.m).toList := fun j u hu => by
  have hj : j < 6 := (List.getElem?_eq_some_iff.1 hu).1
  have := h (2 + j) u (by
    unfold actL
    rw [List.append_assoc, List.getElem?_append_right (by simp), List.getElem?_append_left (by simp [msgA]; omega)]
    simpa using hu)
  rwa [show o + (2 + j) = o + 2 + j by omega] at this
set_option maxRecDepth 100000 in
set_option maxHeartbeats 4000000 in
theorem FewO_any (v : Value) (l : List ActO) (w : World) (h : ActsO w v l) :
    Calls Tryd.prog 15 #[v] w fun e w' => FewEndO l e ∧ Below w.heap.size w w' := by
  have HH := Lib.hid h
  obtain ⟨ad, cap, rfl, hl, hz⟩ := h
  obtain ⟨i0, hi, hz0, hz1, hz2⟩ := info_parts info42
  clear hz
  go_enter Tryd.func15, Tryd.ntmps15
  go_wp2
  go_loopw [3, 4] (fun u i wr => ∃ k : Nat, k ≤ l.length ∧ k ≤ 60 ∧ i = .int .i64 (k : Int) ∧ wr.ownsRow w.heap.size 42 6 u k (rowsM ((l.map (·.m)).take k)) ∧ Below w.heap.size w wr) (fun _ i _ => l.length - (intOf i).toNat)
  case atStart => exact ⟨0, by omega, by omega, rfl, ⟨rfl, .inl ⟨rfl, rfl⟩⟩, br _⟩
  case round =>
    obtain ⟨k, hk, hk2, rfl, ho, hB⟩ := hrel
    by_cases hlt : k < l.length
    · have hbool : decide ((k : Int) < (l.length : Int)) = true := by simpa using hlt
      have hi0 : (k : Int) < (l.length : Int) := by omega
      obtain ⟨ad', cap', e0, _, hm⟩ := HH.out.below hB
      injection e0 with e0 e1 e2
      subst e0
      subst e2
      clear e1
      obtain ⟨g, o, rfl, hg, hrow, hok, hup⟩ := hm k hlt
      have hrow2 := act_msg hrow
      have htk : (l.map (·.m)).take (k + 1) = (l.map (·.m)).take k ++ [l[k].m] := by rw [List.take_succ_eq_append_getElem (by simpa using hlt), List.getElem_map]
      obtain ⟨x, hx⟩ : ∃ x, x = l[k].m := ⟨_, rfl⟩
      rw [← hx] at hrow2 htk
      have y0 : wr.cell? ⟨g, o + k * 10 + 2, none⟩ = some (.int .i64 x.frm) := hrow2 0 _ rfl
      have y1 : wr.cell? ⟨g, o + k * 10 + 2 + 1, none⟩ = some (.int .u32 (x.seq : Int)) := hrow2 1 _ rfl
      have y2 : wr.cell? ⟨g, o + k * 10 + 2 + 2, none⟩ = some (.int .u64 (x.stamp : Int)) := hrow2 2 _ rfl
      have y3 : wr.cell? ⟨g, o + k * 10 + 2 + 3, none⟩ = some (.int .i64 x.service) := hrow2 3 _ rfl
      have y4 : wr.cell? ⟨g, o + k * 10 + 2 + 4, none⟩ = some (.slice x.da x.ds.length x.dc) := hrow2 4 _ rfl
      have y5 : wr.cell? ⟨g, o + k * 10 + 2 + 5, none⟩ = some (.string x.pay) := hrow2 5 _ rfl
      have HK := Lib.hid (And.intro ho (And.intro hB (And.intro htk hlt)))
      have hz := hB.size
      clear hm hup hg hrow hrow2 hok hx htk ho hB hlt hk
      go_wp2_with (at_builtin; refine wpList_append_any _ rfl (.tmp 11) (.tmp 17) 27 rfl w.heap.size 42 i0 _ 6 72 Tryd.underlying27 hi hz0 hz1 hz2 rfl (by decide) u3 k _ rfl (HK.out.1.alloc _) (wr.heap.size + 1) (some ⟨wr.heap.size, 0, none⟩) 1 1 (msgA x).toList rfl (reads_new wr x) (msgA_one x) (by unfold maxLen; omega) (by omega) (by simp; omega) ?_)
      intro v6 w6 ho6 hg6 hu6
      have hb6 : Below w.heap.size w w6 := grownB (ba HK.out.2.1 _) (ba HK.out.2.1 _).size hg6 (fun b hb => (HK.out.1.lt b hb).1)
      have ho6' : w6.ownsRow w.heap.size 42 6 v6 (k + 1) (rowsM ((l.map (·.m)).take (k + 1))) := by
        rw [HK.out.2.2.1, rowsM_snoc]
        exact ho6
      have HE := Lib.hid (And.intro ho6' (And.intro hb6 HK.out.2.2.2))
      clear ho6 ho6' hg6 hu6 hb6 y0 y1 y2 y3 y4 y5 hz
      by_cases h60 : 60 ≤ k
      · have d1 : decide ((60 : Int) ≤ (k : Int)) = true := by simp; omega
        have d1' : decide (60 ≤ k) = true := by simpa using h60
        go_wp2
        go_ret
        exact ⟨⟨_, rfl, fun h => by cases h⟩, HE.out.2.1⟩
      · have d1 : decide ((60 : Int) ≤ (k : Int)) = false := by simp; omega
        have d1' : decide (60 ≤ k) = false := by simpa using h60
        go_wp2
        exact ⟨⟨k + 1, HE.out.2.2, by omega, by go_num, HE.out.1, HE.out.2.1⟩, measI HE.out.2.2⟩
    · have hbool : decide ((k : Int) < (l.length : Int)) = false := by simpa using hlt
      obtain rfl : k = l.length := by omega
      have hms : MsgsAt wr u3 (l.map (·.m)) := by
        rw [List.take_of_length_le (by simp), show l.length = (l.map (·.m)).length by simp] at ho
        refine (RowsAt.of_own ho).rowsIn.msgsAt (by simp; omega) (fun m hm => ?_)
        obtain ⟨a, ha, rfl⟩ := List.mem_map.1 hm
        obtain ⟨i, hi, rfl⟩ := List.mem_iff_getElem.1 ha
        obtain ⟨_, _, _, _, h1⟩ := HH.out.below hB
        obtain ⟨_, _, _, _, _, h2, _⟩ := h1 i hi
        exact h2
      have HF := Lib.hid (Few_any u3 _ wr hms)
      have HB := Lib.hid hB
      clear hms ho hB
      go_wp2_with fail
      refine HF.out.mono ?_
      rintro e w7 ⟨⟨b, rfl, hf⟩, hb7⟩
      have HE := Lib.hid (And.intro (show FewEndO l (.returned (.bool b)) from ⟨b, rfl, fun hb => ⟨hk2, fun a ha => (hf hb).2 a.m (List.mem_map_of_mem ha)⟩⟩) (bt HB.out hb7))
      clear hf hb7
      go_wp2
      go_ret
      exact HE.out
section
open Go.ChangeShapes Go.WideShapes Go.Deep
variable {H : Type} {enc : TypeId × Value → H} {w : World} {base : Nat} {spare : Nat → Bool} {held : Bool}
set_option maxRecDepth 100000 in
theorem act_of {fuel : Nat} {cs : List Value} {x : DataW H × List MemPlace} (hl : cs.length = 10) (h : DataW.trod enc Tryd.prog w base spare held fuel 51 cs = some x) :
    ∃ a : ActO, cs = actL a ∧ MsgOk w a.m ∧ a.seq < 4294967296 ∧ a.stamp < 18446744073709551616 := by
  obtain ⟨xs, k, hk, hxy, _, hxl, hf⟩ := DataW.trod_struct Tryd.underlying51 h
  have c2 : Tryd.prog.cellsOf 3 = 1 := by kernel_rfl
  have c4 : Tryd.prog.cellsOf 33 = 1 := by kernel_rfl
  have c5 : Tryd.prog.cellsOf 36 = 1 := by kernel_rfl
  have c6 : Tryd.prog.cellsOf 42 = 6 := by kernel_rfl
  match xs, hxl, cs, hl with
  | [y0, y1, y2, y3, y4], _, [v0, v1, v2, v3, v4, v5, v6, v7, v8, v9], _ =>
    have g0 := hf 0 _ rfl
    have g1 := hf 1 _ rfl
    have g2 := hf 2 _ rfl
    have g3 := hf 3 _ rfl
    have g4 := hf 4 _ rfl
    simp [c2, c4, c5, c6] at g0 g1 g2 g3 g4
    obtain ⟨a0, e0, _⟩ := DataW.trod_int Tryd.underlying3 g0
    obtain ⟨a1, e1, _⟩ := DataW.trod_int Tryd.underlying3 g1
    obtain ⟨m, e2, hm⟩ := msg_of (by rfl) g2
    obtain ⟨a3, e3, _, hq⟩ := DataW.trod_int Tryd.underlying33 g3
    obtain ⟨a4, e4, _, hr⟩ := DataW.trod_int Tryd.underlying36 g4
    simp at e0 e1 e3 e4
    have hq2 : 0 ≤ a3 ∧ a3 ≤ 4294967295 := by have := hq; simp [Lit.wf, IntKind.min, IntKind.max, IntKind.signed, IntKind.bits] at this; exact this
    have hr2 : 0 ≤ a4 ∧ a4 ≤ 18446744073709551615 := by have := hr; simp [Lit.wf, IntKind.min, IntKind.max, IntKind.signed, IntKind.bits] at this; exact this
    obtain ⟨q, rfl⟩ := Int.eq_ofNat_of_zero_le hq2.1
    obtain ⟨r, rfl⟩ := Int.eq_ofNat_of_zero_le hr2.1
    subst e0 e1 e3 e4
    exact ⟨⟨a0, a1, m, q, r⟩, by unfold actL; rw [← e2]; rfl, hm, by show q < _; omega, by show r < _; omega⟩
set_option maxRecDepth 100000 in
theorem acts_arg {r : Reach} {b0 : Nat} {v : Value} {d : DataW H} {p : List MemPlace} (hv : Value.okWide Tryd.prog w r b0 44 v) (h : DataW.Trod enc Tryd.prog w base spare held 44 v d p) : ∃ l, ActsO w v l := by
  obtain ⟨fuel, hf⟩ := h
  obtain ⟨a', len', cap', rfl⟩ := okWide_slice Tryd.underlying44 hv
  have hcs : (Value.slice a' len' cap').cells.toList = [Value.slice a' len' cap'] := by simp [Value.cells]
  have h9 : Tryd.prog.cellsOf 51 = 10 := by kernel_rfl
  rcases open_slice Tryd.underlying44 hf with ⟨h0, _⟩ | ⟨a, len, cap, m, n, D, Pl, h0, hb, hl, hm, hmm, _, hx⟩
  · rw [hcs] at h0
    simp at h0
    obtain ⟨_, rfl, _⟩ := h0
    exact ⟨[], _, _, rfl, by simp, fun i h => absurd h (by simp)⟩
  · rw [hcs] at h0
    simp at h0
    obtain ⟨rfl, rfl, rfl⟩ := h0
    have hlm : len' ≤ m := by rw [hmm]; split <;> omega
    have each : ∀ i, i < len' → ∃ x : ActO, (∀ j u, (actL x)[j]? = some u → w.cell? ((a.add (i * 10)).add j) = some u) ∧ MsgOk w x.m ∧ x.seq < 4294967296 ∧ x.stamp < 18446744073709551616 := by
      intro i hi
      obtain ⟨cs', h1, h2⟩ := hx i (by omega)
      rw [h9] at h1
      obtain ⟨_, hlen, hcell⟩ := World.cells?_some h1
      obtain ⟨x, e, hq⟩ := act_of hlen h2
      refine ⟨x, fun j u hu => ?_, hq⟩
      rw [← e] at hu
      have hj : j < 10 := by have := (List.getElem?_eq_some_iff.1 hu).1; omega
      exact (hcell j hj).trans hu
    obtain ⟨q, hq⟩ := choose_lt each
    refine ⟨(List.range len').map q, _, _, by simp; exact ⟨rfl, rfl⟩, by simp; unfold maxLen at hm; omega, fun i hi => ?_⟩
    have hi' : i < len' := by simpa using hi
    obtain ⟨b, off, spot⟩ := a
    have hz := (hq 0 (by omega)).1 0 _ rfl
    have hspot : spot = none := by simpa [Addr.add] using World.cell?_spot hz
    subst hspot
    refine ⟨b, off, rfl, ?_, ?_, ?_⟩
    · simpa [Addr.add] using block_lt hz
    · intro j u hu
      rw [List.getElem_map, List.getElem_range] at hu
      have := (hq i hi').1 j u hu
      rw [← this]
      congr 1
      unfold Addr.add
      split <;> split <;> simp_all <;> omega
    · rw [List.getElem_map, List.getElem_range]
      exact (hq i hi').2
end
end Go.Proofs.YtgjlcjbmcnofiaaDoor
