/-
  Scripts of an order: acts in memory, opened; what the law's Few returns.
  Conditions: none.
-/
import Derived.Test.YtgjlcjbmcnofiaaDoorOrdR
import Derived.Test.YtgjlcjbmcnofiaaDoorMsgC
namespace Go.Proofs.YtgjlcjbmcnofiaaDoor
set_option linter.unusedVariables false
set_option linter.unusedSimpArgs false
open Go.RowKit
/-- an act: a call, by its kind -/
structure ActO where
  kind : Int
  p : Int
  m : Msg
  seq : Nat
  stamp : Nat
instance : Inhabited ActO := ⟨⟨0, 0, default, 0, 0⟩⟩
def actL (a : ActO) : List Value := [.int .i64 a.kind, .int .i64 a.p] ++ (msgA a.m).toList ++ [.int .u32 (a.seq : Int), .int .u64 (a.stamp : Int)]
def ActsO (w : World) (v : Value) (l : List ActO) : Prop := ∃ ad cap, v = .slice ad l.length cap ∧ l.length ≤ 9223372036854775807 ∧
  ∀ i (h : i < l.length), ∃ B O, ad = some ⟨B, O, none⟩ ∧ B < w.heap.size ∧ w.rangeAt B (O + i * 10) (actL l[i]) ∧ MsgOk w l[i].m ∧ l[i].seq < 4294967296 ∧ l[i].stamp < 18446744073709551616
theorem ActsO.below {w w' : World} {v : Value} {l : List ActO} (h : ActsO w v l) (hb : Below w.heap.size w w') : ActsO w' v l := by
  obtain ⟨ad, cap, rfl, hl, h⟩ := h
  refine ⟨ad, cap, rfl, hl, fun i hi => ?_⟩
  obtain ⟨B, O, rfl, hB, hr, h1, h2⟩ := h i hi
  exact ⟨B, O, rfl, Nat.lt_of_lt_of_le hB hb.size, fun j u hu => (hb.cell (p := ⟨B, O + i * 10 + j, none⟩) hB).trans (hr j u hu), h1.below hb, h2⟩
/-- few acts, of few bytes -/
def FewOkO (l : List ActO) : Prop := l.length ≤ 60 ∧ ∀ a ∈ l, a.m.pay.size ≤ 20000 ∧ a.m.ds.length ≤ 20000
def FewEndO (l : List ActO) (e : Ending) : Prop := ∃ b, e = .returned (.bool b) ∧ (b = true → FewOkO l)
theorem act_msg {w : World} {B o : Nat} {a : ActO} (h : w.rangeAt B o (actL a)) : w.rangeAt B (o + 2) (msgA a.m).toList := fun j u hu => by
  have hj : j < 6 := (List.getElem?_eq_some_iff.1 hu).1
  have := h (2 + j) u (by
    unfold actL
    rw [List.append_assoc, List.getElem?_append_right (by simp), List.getElem?_append_left (by simp [msgA]; omega)]
    simpa using hu)
  rwa [show o + (2 + j) = o + 2 + j by omega] at this
set_option maxRecDepth 100000 in
set_option maxHeartbeats 4000000 in
theorem FewO_any (v : Value) (l : List ActO) (w : World) (h : ActsO w v l) :
    Calls Tryd.prog 15 #[v] w fun e w' => FewEndO l e ∧ Below w.heap.size w w' := by
  have HH := Lib.hid h
  obtain ⟨ad, cap, rfl, hl, hz⟩ := h
  obtain ⟨i0, hi, hz0, hz1, hz2⟩ := info_parts info42
  clear hz
  go_enter Tryd.func15, Tryd.ntmps15
  go_wp2
  go_loopw [3, 4] (fun u i wr => ∃ k : Nat, k ≤ l.length ∧ k ≤ 60 ∧ i = .int .i64 (k : Int) ∧ wr.ownsRow w.heap.size 42 6 u k (rowsM ((l.map (·.m)).take k)) ∧ Below w.heap.size w wr) (fun _ i _ => l.length - (intOf i).toNat)
  case atStart => exact ⟨0, by omega, by omega, rfl, ⟨rfl, .inl ⟨rfl, rfl⟩⟩, br _⟩
  case round =>
    obtain ⟨k, hk, hk2, rfl, ho, hB⟩ := hrel
    by_cases hlt : k < l.length
    · have hbool : decide ((k : Int) < (l.length : Int)) = true := by simpa using hlt
      have hi0 : (k : Int) < (l.length : Int) := by omega
      obtain ⟨ad', cap', e0, _, hm⟩ := HH.out.below hB
      injection e0 with e0 e1 e2
      subst e0
      subst e2
      clear e1
      obtain ⟨g, o, rfl, hg, hrow, hok, hup⟩ := hm k hlt
      have hrow2 := act_msg hrow
      have htk : (l.map (·.m)).take (k + 1) = (l.map (·.m)).take k ++ [l[k].m] := by rw [List.take_succ_eq_append_getElem (by simpa using hlt), List.getElem_map]
      obtain ⟨x, hx⟩ : ∃ x, x = l[k].m := ⟨_, rfl⟩
      rw [← hx] at hrow2 htk
      have y0 : wr.cell? ⟨g, o + k * 10 + 2, none⟩ = some (.int .i64 x.frm) := hrow2 0 _ rfl
      have y1 : wr.cell? ⟨g, o + k * 10 + 2 + 1, none⟩ = some (.int .u32 (x.seq : Int)) := hrow2 1 _ rfl
      have y2 : wr.cell? ⟨g, o + k * 10 + 2 + 2, none⟩ = some (.int .u64 (x.stamp : Int)) := hrow2 2 _ rfl
      have y3 : wr.cell? ⟨g, o + k * 10 + 2 + 3, none⟩ = some (.int .i64 x.service) := hrow2 3 _ rfl
      have y4 : wr.cell? ⟨g, o + k * 10 + 2 + 4, none⟩ = some (.slice x.da x.ds.length x.dc) := hrow2 4 _ rfl
      have y5 : wr.cell? ⟨g, o + k * 10 + 2 + 5, none⟩ = some (.string x.pay) := hrow2 5 _ rfl
      have HK := Lib.hid (And.intro ho (And.intro hB (And.intro htk hlt)))
      have hz := hB.size
      clear hm hup hg hrow hrow2 hok hx htk ho hB hlt hk
      go_wp2_with (at_builtin; refine wpList_append_any _ rfl (.tmp 11) (.tmp 17) 27 rfl w.heap.size 42 i0 _ 6 72 Tryd.underlying27 hi hz0 hz1 hz2 rfl (by decide) u3 k _ rfl (HK.out.1.alloc _) (wr.heap.size + 1) (some ⟨wr.heap.size, 0, none⟩) 1 1 (msgA x).toList rfl (reads_new wr x) (msgA_one x) (by unfold maxLen; omega) (by omega) (by simp; omega) ?_)
      intro v6 w6 ho6 hg6 hu6
      have hb6 : Below w.heap.size w w6 := grownB (ba HK.out.2.1 _) (ba HK.out.2.1 _).size hg6 (fun b hb => (HK.out.1.lt b hb).1)
      have ho6' : w6.ownsRow w.heap.size 42 6 v6 (k + 1) (rowsM ((l.map (·.m)).take (k + 1))) := by
        rw [HK.out.2.2.1, rowsM_snoc]
        exact ho6
      have HE := Lib.hid (And.intro ho6' (And.intro hb6 HK.out.2.2.2))
      clear ho6 ho6' hg6 hu6 hb6 y0 y1 y2 y3 y4 y5 hz
      by_cases h60 : 60 ≤ k
      · have d1 : decide ((60 : Int) ≤ (k : Int)) = true := by simp; omega
        have d1' : decide (60 ≤ k) = true := by simpa using h60
        go_wp2
        go_ret
        exact ⟨⟨_, rfl, fun h => by cases h⟩, HE.out.2.1⟩
      · have d1 : decide ((60 : Int) ≤ (k : Int)) = false := by simp; omega
        have d1' : decide (60 ≤ k) = false := by simpa using h60
        go_wp2
        exact ⟨⟨k + 1, HE.out.2.2, by omega, by go_num, HE.out.1, HE.out.2.1⟩, measI HE.out.2.2⟩
    · have hbool : decide ((k : Int) < (l.length : Int)) = false := by simpa using hlt
      obtain rfl : k = l.length := by omega
      have hms : MsgsAt wr u3 (l.map (·.m)) := by
        rw [List.take_of_length_le (by simp), show l.length = (l.map (·.m)).length by simp] at ho
        refine (RowsAt.of_own ho).rowsIn.msgsAt (by simp; omega) (fun m hm => ?_)
        obtain ⟨a, ha, rfl⟩ := List.mem_map.1 hm
        obtain ⟨i, hi, rfl⟩ := List.mem_iff_getElem.1 ha
        obtain ⟨_, _, _, _, h1⟩ := HH.out.below hB
        obtain ⟨_, _, _, _, _, h2, _⟩ := h1 i hi
        exact h2
      have HF := Lib.hid (Few_any u3 _ wr hms)
      have HB := Lib.hid hB
      clear hms ho hB
      go_wp2_with fail
      refine HF.out.mono ?_
      rintro e w7 ⟨⟨b, rfl, hf⟩, hb7⟩
      have HE := Lib.hid (And.intro (show FewEndO l (.returned (.bool b)) from ⟨b, rfl, fun hb => ⟨hk2, fun a ha => (hf hb).2 a.m (List.mem_map_of_mem ha)⟩⟩) (bt HB.out hb7))
      clear hf hb7
      go_wp2
      go_ret
      exact HE.out
section
open Go.ChangeShapes Go.WideShapes Go.Deep
variable {H : Type} {enc : TypeId × Value → H} {w : World} {base : Nat} {spare : Nat → Bool} {held : Bool}
set_option maxRecDepth 100000 in
theorem act_of {fuel : Nat} {cs : List Value} {x : DataW H × List MemPlace} (hl : cs.length = 10) (h : DataW.trod enc Tryd.prog w base spare held fuel 51 cs = some x) :
    ∃ a : ActO, cs = actL a ∧ MsgOk w a.m ∧ a.seq < 4294967296 ∧ a.stamp < 18446744073709551616 := by
  obtain ⟨xs, k, hk, hxy, _, hxl, hf⟩ := DataW.trod_struct Tryd.underlying51 h
  have c2 : Tryd.prog.cellsOf 3 = 1 := by kernel_rfl
  have c4 : Tryd.prog.cellsOf 33 = 1 := by kernel_rfl
  have c5 : Tryd.prog.cellsOf 36 = 1 := by kernel_rfl
  have c6 : Tryd.prog.cellsOf 42 = 6 := by kernel_rfl
  match xs, hxl, cs, hl with
  | [y0, y1, y2, y3, y4], _, [v0, v1, v2, v3, v4, v5, v6, v7, v8, v9], _ =>
    have g0 := hf 0 _ rfl
    have g1 := hf 1 _ rfl
    have g2 := hf 2 _ rfl
    have g3 := hf 3 _ rfl
    have g4 := hf 4 _ rfl
    simp [c2, c4, c5, c6] at g0 g1 g2 g3 g4
    obtain ⟨a0, e0, _⟩ := DataW.trod_int Tryd.underlying3 g0
    obtain ⟨a1, e1, _⟩ := DataW.trod_int Tryd.underlying3 g1
    obtain ⟨m, e2, hm⟩ := msg_of (by rfl) g2
    obtain ⟨a3, e3, _, hq⟩ := DataW.trod_int Tryd.underlying33 g3
    obtain ⟨a4, e4, _, hr⟩ := DataW.trod_int Tryd.underlying36 g4
    simp at e0 e1 e3 e4
    have hq2 : 0 ≤ a3 ∧ a3 ≤ 4294967295 := by have := hq; simp [Lit.wf, IntKind.min, IntKind.max, IntKind.signed, IntKind.bits] at this; exact this
    have hr2 : 0 ≤ a4 ∧ a4 ≤ 18446744073709551615 := by have := hr; simp [Lit.wf, IntKind.min, IntKind.max, IntKind.signed, IntKind.bits] at this; exact this
    obtain ⟨q, rfl⟩ := Int.eq_ofNat_of_zero_le hq2.1
    obtain ⟨r, rfl⟩ := Int.eq_ofNat_of_zero_le hr2.1
    subst e0 e1 e3 e4
    exact ⟨⟨a0, a1, m, q, r⟩, by unfold actL; rw [← e2]; rfl, hm, by show q < _; omega, by show r < _; omega⟩
set_option maxRecDepth 100000 in
theorem acts_arg {r : Reach} {b0 : Nat} {v : Value} {d : DataW H} {p : List MemPlace} (hv : Value.okWide Tryd.prog w r b0 44 v) (h : DataW.Trod enc Tryd.prog w base spare held 44 v d p) : ∃ l, ActsO w v l := by
  obtain ⟨fuel, hf⟩ := h
  obtain ⟨a', len', cap', rfl⟩ := okWide_slice Tryd.underlying44 hv
  have hcs : (Value.slice a' len' cap').cells.toList = [Value.slice a' len' cap'] := by simp [Value.cells]
  have h9 : Tryd.prog.cellsOf 51 = 10 := by kernel_rfl
  rcases open_slice Tryd.underlying44 hf with ⟨h0, _⟩ | ⟨a, len, cap, m, n, D, Pl, h0, hb, hl, hm, hmm, _, hx⟩
  · rw [hcs] at h0
    simp at h0
    obtain ⟨_, rfl, _⟩ := h0
    exact ⟨[], _, _, rfl, by simp, fun i h => absurd h (by simp)⟩
  · rw [hcs] at h0
    simp at h0
    obtain ⟨rfl, rfl, rfl⟩ := h0
    have hlm : len' ≤ m := by rw [hmm]; split <;> omega
    have each : ∀ i, i < len' → ∃ x : ActO, (∀ j u, (actL x)[j]? = some u → w.cell? ((a.add (i * 10)).add j) = some u) ∧ MsgOk w x.m ∧ x.seq < 4294967296 ∧ x.stamp < 18446744073709551616 := by
      intro i hi
      obtain ⟨cs', h1, h2⟩ := hx i (by omega)
      rw [h9] at h1
      obtain ⟨_, hlen, hcell⟩ := World.cells?_some h1
      obtain ⟨x, e, hq⟩ := act_of hlen h2
      refine ⟨x, fun j u hu => ?_, hq⟩
      rw [← e] at hu
      have hj : j < 10 := by have := (List.getElem?_eq_some_iff.1 hu).1; omega
      exact (hcell j hj).trans hu
    obtain ⟨q, hq⟩ := choose_lt each
    refine ⟨(List.range len').map q, _, _, by simp; exact ⟨rfl, rfl⟩, by simp; unfold maxLen at hm; omega, fun i hi => ?_⟩
    have hi' : i < len' := by simpa using hi
    obtain ⟨b, off, spot⟩ := a
    have hz := (hq 0 (by omega)).1 0 _ rfl
    have hspot : spot = none := by simpa [Addr.add] using World.cell?_spot hz
    subst hspot
    refine ⟨b, off, rfl, ?_, ?_, ?_⟩
    · simpa [Addr.add] using block_lt hz
    · intro j u hu
      rw [List.getElem_map, List.getElem_range] at hu
      have := (hq i hi').1 j u hu
      rw [← this]
      congr 1
      unfold Addr.add
      split <;> split <;> simp_all <;> omega
    · rw [List.getElem_map, List.getElem_range]
      exact (hq i hi').2
end
end Go.Proofs.YtgjlcjbmcnofiaaDoor
namespace Go.Proofs.YtgjlcjbmcnofiaaDoor
set_option linter.unusedVariables false
set_option linter.unusedSimpArgs false
open Go.RowKit
theorem drop_lo (lo : Nat → Nat) (R : Nat → List Msg) (p : Int) (u q : Nat) : dropLo lo R p u q = if procB p = true ∧ q = p.toNat then max (lo q) (min u (lo q + (R q).length)) else lo q := by
  unfold dropLo dropC
  by_cases hp : procB p = true
  · by_cases hc : lo p.toNat < min u (lo p.toNat + (R p.toNat).length)
    · rw [if_pos (by rw [hp]; simpa using hc)]
      by_cases e : q = p.toNat
      · subst e; rw [upd_same, if_pos ⟨hp, rfl⟩]; omega
      · rw [upd_ne _ _ e, if_neg (fun h => e h.2)]
    · rw [if_neg (by rw [hp]; simpa using hc)]
      by_cases e : q = p.toNat
      · subst e; rw [if_pos ⟨hp, rfl⟩]; omega
      · rw [if_neg (fun h => e h.2)]
  · rw [if_neg (by simp [hp]), if_neg (fun h => hp h.1)]
theorem drop_row (lo : Nat → Nat) (R : Nat → List Msg) (p : Int) (u q : Nat) : dropR lo R p u q = (R q).drop (dropLo lo R p u q - lo q) := by
  unfold dropR dropLo
  split
  · by_cases e : q = p.toNat
    · subst e; rw [upd_same, upd_same]
    · rw [upd_ne _ _ e, upd_ne _ _ e, Nat.sub_self, List.drop_zero]
  · rw [Nat.sub_self, List.drop_zero]
theorem InvO.trim0 {k : Nat} {O : PO} (h : InvO k O) (p : Int) (u : Nat) : InvO k (O.trim p u) := by
  have hh := h.trim p u
  refine ⟨h.mb, h.hz, ⟨hh.hold.numb, hh.hold.ds, fun q hq => ?_, ?_⟩, hh.dn⟩
  · show dropLo O.lo O.R p (min u (doneZ O p)) q + (dropR O.lo O.R p (min u (doneZ O p)) q).length ≤ k
    rw [drop_sum]
    exact h.hold.cnt q hq
  · show (allN (dropR O.lo O.R p (min u (doneZ O p))) 64).length ≤ k
    refine Nat.le_trans ?_ h.hold.tot
    unfold dropR
    split
    · next hc =>
      unfold dropC at hc
      have hp : procB p = true := by
        rw [Bool.and_eq_true] at hc
        exact hc.1
      have hp2 : p.toNat < 64 := by
        unfold procB at hp
        rw [decide_eq_true_eq] at hp
        omega
      have h1 := allN_upd_lt O.R p.toNat ((O.R p.toNat).drop (min (min u (doneZ O p)) (O.lo p.toNat + (O.R p.toNat).length) - O.lo p.toNat)) 64 hp2
      rw [List.length_drop] at h1
      omega
    · exact Nat.le_refl _
/-- T reads as O, but for what T has dropped more -/
structure PRel (O T : PO) : Prop where
  me : T.me = O.me
  mb : T.mb = O.mb
  H : T.H = O.H
  dn : T.dn = O.dn
  ls : T.ls = O.ls
  lf : T.lf = O.lf
  sum : ∀ p, T.lo p + (T.R p).length = O.lo p + (O.R p).length
  le : ∀ p, O.lo p ≤ T.lo p
  row : ∀ p, (T.R p).map core = ((O.R p).map core).drop (T.lo p - O.lo p)
  low : ∀ p, T.lo p ≤ T.dn p
section
variable {O T : PO}
theorem PRel.new (me : Int) (m : Nat) : PRel (po0 me m) (po0 me m) := ⟨rfl, rfl, rfl, rfl, rfl, rfl, fun _ => rfl, fun _ => Nat.le_refl _, fun _ => by rw [Nat.sub_self, List.drop_zero], fun _ => Nat.le_refl _⟩
theorem PRel.next (h : PRel O T) (p : Nat) : (nextO T p).map core = (nextO O p).map core := by
  unfold nextO getZ
  have e : ((p : Int)).toNat = p := by simp
  rw [e, h.dn]
  have h1 := h.sum p
  have h2 := h.le p
  have h3 := h.low p
  rw [h.dn] at h3
  by_cases hp : procB (p : Int) = true
  · by_cases hs : O.dn p + 1 ≤ O.lo p + (O.R p).length
    · rw [if_pos ⟨hp, by omega, by omega⟩, if_pos ⟨hp, by omega, hs⟩]
      have e1 : O.dn p + 1 - T.lo p - 1 < (T.R p).length := by omega
      have e2 : O.dn p + 1 - O.lo p - 1 < (O.R p).length := by omega
      rw [gm_get e1, gm_get e2]
      show some (core (T.R p)[O.dn p + 1 - T.lo p - 1]) = some (core (O.R p)[O.dn p + 1 - O.lo p - 1])
      have a1 : ((T.R p).map core)[O.dn p + 1 - T.lo p - 1]? = some (core (T.R p)[O.dn p + 1 - T.lo p - 1]) := by rw [List.getElem?_map, List.getElem?_eq_getElem e1]; rfl
      have a2 : ((O.R p).map core)[O.dn p + 1 - O.lo p - 1]? = some (core (O.R p)[O.dn p + 1 - O.lo p - 1]) := by rw [List.getElem?_map, List.getElem?_eq_getElem e2]; rfl
      rw [← a1, ← a2, h.row p, List.getElem?_drop]
      congr 1
      omega
    · rw [if_neg (fun h => by omega), if_neg (fun h => by omega)]
  · rw [if_neg (fun h => hp h.1), if_neg (fun h => hp h.1)]
theorem step_core {b b' : Option Msg} {p : Nat} (h : (nextO T p).map core = (nextO O p).map core) (hb : b'.map core = b.map core) : (headStep T b' p).map core = (headStep O b p).map core := by
  unfold headStep
  cases h1 : nextO T p with
  | none =>
    cases h2 : nextO O p with
    | none => exact hb
    | some m => rw [h1, h2] at h; cases h
  | some m' =>
    cases h2 : nextO O p with
    | none => rw [h1, h2] at h; cases h
    | some m =>
      rw [h1, h2] at h
      have hm : core m' = core m := by simpa using h
      cases b' with
      | none =>
        cases b with
        | none => simp [hm]
        | some c => cases hb
      | some c' =>
        cases b with
        | none => cases hb
        | some c =>
          have hc : core c' = core c := by simpa using hb
          simp only
          rw [lessB_core hm hc]
          split
          · simp [hm]
          · simp [hc]
theorem fold_core (h : ∀ p, (nextO T p).map core = (nextO O p).map core) : ∀ (l : List Nat) (b b' : Option Msg), b'.map core = b.map core → (l.foldl (headStep T) b').map core = (l.foldl (headStep O) b).map core
  | [], _, _, hb => hb
  | p :: l, b, b', hb => fold_core h l _ _ (step_core (h p) hb)
theorem PRel.head (h : PRel O T) : T.head.map core = O.head.map core := by
  unfold PO.head
  rw [h.mb]
  exact fold_core h.next _ _ _ rfl
theorem PRel.ripe (h : PRel O T) : T.ripe.map core = O.ripe.map core := by
  have hh := h.head
  unfold PO.ripe
  cases h1 : T.head with
  | none =>
    cases h2 : O.head with
    | none => rfl
    | some m => rw [h1, h2] at hh; cases hh
  | some m' =>
    cases h2 : O.head with
    | none => rw [h1, h2] at hh; cases hh
    | some m =>
      rw [h1, h2] at hh
      have hm : core m' = core m := by simpa using hh
      obtain ⟨_, _, c3, c4, _⟩ := core_iff.1 hm
      have e : T.mark m'.service = O.mark m.service := by unfold PO.mark; rw [h.H, c4]
      simp only
      rw [e, c3]
      split
      · rfl
      · simp [hm]
theorem PRel.took (h : PRel O T) {m m' : Msg} (hm : core m' = core m) : PRel (O.took m) (T.took m') := by
  obtain ⟨c1, _, c3, _⟩ := core_iff.1 hm
  refine ⟨h.me, h.mb, h.H, ?_, c3, c1, h.sum, h.le, h.row, fun p => ?_⟩
  · show upd T.dn m'.frm.toNat (T.dn m'.frm.toNat + 1) = upd O.dn m.frm.toNat (O.dn m.frm.toNat + 1)
    rw [h.dn, c1]
  · have := h.low p
    show T.lo p ≤ upd T.dn m'.frm.toNat (T.dn m'.frm.toNat + 1) p
    by_cases e : p = m'.frm.toNat
    · subst e; rw [upd_same]; omega
    · rw [upd_ne _ _ e]; exact this
theorem PRel.drn (h : PRel O T) {O' : PO} {L : List Msg} (hd : Drn O L O') : ∃ L2 T', Drn T L2 T' ∧ L2.map core = L.map core ∧ PRel O' T' := by
  induction hd with
  | nil => exact ⟨[], T, Drn.nil T, rfl, h⟩
  | @snoc O1 L m hd hr ih =>
    obtain ⟨L2, T', h1, h2, h3⟩ := ih
    have := h3.ripe
    rw [hr] at this
    cases hx : T'.ripe with
    | none => rw [hx] at this; cases this
    | some m2 =>
      rw [hx] at this
      have hm : core m2 = core m := by simpa using this
      exact ⟨L2 ++ [m2], T'.took m2, Drn.snoc h1 hx, by rw [List.map_append, List.map_append, h2]; simp [hm], h3.took hm⟩
theorem PRel.drain (h : PRel O T) {O' T' : PO} {L L2 : List Msg} (hd : Drn O L O') (hr : O'.ripe = none) (hd2 : Drn T L2 T') (hr2 : T'.ripe = none) : L2.map core = L.map core ∧ PRel O' T' := by
  obtain ⟨L3, T3, h1, h2, h3⟩ := h.drn hd
  have hr3 : T3.ripe = none := by
    have := h3.ripe
    rw [hr] at this
    cases hx : T3.ripe with
    | none => rfl
    | some m2 => rw [hx] at this; cases this
  obtain ⟨rfl, rfl⟩ := h1.uniq hr3 hd2 hr2
  exact ⟨h2, h3⟩
theorem PRel.setH (h : PRel O T) (f : HZ → HZ) : PRel { O with H := f O.H } { T with H := f T.H } :=
  ⟨h.me, h.mb, by show f T.H = f O.H; rw [h.H], h.dn, h.ls, h.lf, h.sum, h.le, h.row, h.low⟩
theorem PRel.takeZ (h : PRel O T) (m : Msg) : takeZ T m = takeZ O m := by
  unfold Go.Proofs.YtgjlcjbmcnofiaaDoor.takeZ putK
  rw [h.mb, h.sum]
theorem PRel.take (h : PRel O T) {m a b : Msg} (ha : core a = core m) (hb : core b = core m) : PRel (O.take m a) (T.take m b) := by
  refine ⟨h.me, h.mb, ?_, h.dn, h.ls, h.lf, fun p => ?_, h.le, fun p => ?_, h.low⟩
  · unfold PO.take
    show (if m.frm = T.me then T.H.setC (max T.H.c m.stamp) else T.H.came m.frm m.seq m.stamp) = (if m.frm = O.me then O.H.setC (max O.H.c m.stamp) else O.H.came m.frm m.seq m.stamp)
    rw [h.me, h.H]
  · have := h.sum p
    show T.lo p + (upd T.R m.frm.toNat (T.R m.frm.toNat ++ [b]) p).length = O.lo p + (upd O.R m.frm.toNat (O.R m.frm.toNat ++ [a]) p).length
    by_cases e : p = m.frm.toNat
    · subst e; rw [upd_same, upd_same, List.length_append, List.length_append]; simp; omega
    · rw [upd_ne _ _ e, upd_ne _ _ e]; exact this
  · have h1 := h.sum p
    have h2 := h.row p
    have h3 := h.le p
    show (upd T.R m.frm.toNat (T.R m.frm.toNat ++ [b]) p).map core = ((upd O.R m.frm.toNat (O.R m.frm.toNat ++ [a]) p).map core).drop (T.lo p - O.lo p)
    by_cases e : p = m.frm.toNat
    · subst e
      rw [upd_same, upd_same, List.map_append, List.map_append, List.drop_append_of_le_length (by rw [List.length_map]; omega), h2]
      simp [ha, hb]
    · rw [upd_ne _ _ e, upd_ne _ _ e]; exact h2
theorem doneZ_eq (h : PRel O T) (p : Int) : doneZ T p = doneZ O p := by unfold doneZ; rw [h.dn]
theorem done_low {p : Int} (hp : procB p = true) : doneZ T p = T.dn p.toNat := by
  unfold doneZ
  unfold procB at hp
  rw [decide_eq_true_eq] at hp
  rw [if_pos hp]
/-- T alone is trimmed -/
theorem PRel.trimT (h : PRel O T) (p : Int) (u : Nat) : PRel O (T.trim p u) := by
  have hlo : ∀ q, (T.trim p u).lo q = dropLo T.lo T.R p (min u (doneZ T p)) q := fun _ => rfl
  have hR : ∀ q, (T.trim p u).R q = (T.R q).drop ((T.trim p u).lo q - T.lo q) := fun q => drop_row _ _ _ _ q
  have hs : ∀ q, (T.trim p u).lo q + ((T.trim p u).R q).length = T.lo q + (T.R q).length := fun q => drop_sum _ _ _ _ q
  have hl : ∀ q, T.lo q ≤ (T.trim p u).lo q ∧ (T.trim p u).lo q ≤ T.dn q := fun q => by
    have := h.low q
    rw [hlo, drop_lo]
    split
    · next hc =>
      obtain ⟨hp, rfl⟩ := hc
      rw [done_low hp]
      omega
    · exact ⟨Nat.le_refl _, this⟩
  refine ⟨h.me, h.mb, h.H, h.dn, h.ls, h.lf, fun q => (hs q).trans (h.sum q), fun q => Nat.le_trans (h.le q) (hl q).1, fun q => ?_, fun q => (hl q).2⟩
  rw [hR, List.map_drop, h.row q, List.drop_drop]
  congr 1
  have := h.le q
  have := (hl q).1
  omega
/-- both are trimmed -/
theorem PRel.trim (h : PRel O T) (p : Int) (u : Nat) : PRel (O.trim p u) (T.trim p u) := by
  have ht := h.trimT p u
  have hlo : ∀ q, (T.trim p u).lo q = dropLo T.lo T.R p (min u (doneZ T p)) q := fun _ => rfl
  have hlo2 : ∀ q, (O.trim p u).lo q = dropLo O.lo O.R p (min u (doneZ O p)) q := fun _ => rfl
  have hR : ∀ q, (O.trim p u).R q = (O.R q).drop ((O.trim p u).lo q - O.lo q) := fun q => drop_row _ _ _ _ q
  have hs : ∀ q, (O.trim p u).lo q + ((O.trim p u).R q).length = O.lo q + (O.R q).length := fun q => drop_sum _ _ _ _ q
  have hl : ∀ q, O.lo q ≤ (O.trim p u).lo q ∧ (O.trim p u).lo q ≤ (T.trim p u).lo q := fun q => by
    have h1 := h.sum q
    have h2 := h.le q
    rw [hlo, hlo2, drop_lo, drop_lo, doneZ_eq h]
    split <;> omega
  refine ⟨h.me, h.mb, h.H, h.dn, h.ls, h.lf, fun q => (ht.sum q).trans (hs q).symm, fun q => (hl q).2, fun q => ?_, ht.low⟩
  rw [ht.row q, hR, List.map_drop, List.drop_drop]
  congr 1
  have := (hl q).1
  have := (hl q).2
  omega
end
theorem sort_filter (p : Msg → Bool) (l : List Msg) : (sortM l).filter p = sortM (l.filter p) := by
  refine sortM_uniq ((sortM_srt l).filter _) ⟨(sortM_same l).1.filter _, fun k => ?_⟩
  rw [List.filter_filter, List.filter_filter]
  have := (sortM_same l).2 k
  have e : ∀ r : List Msg, r.filter (fun a => (keyM a == k) && p a) = (r.filter (fun m => keyM m == k)).filter p := fun r => by
    rw [List.filter_filter]
    congr 1
    funext a
    exact Bool.and_comm _ _
  rw [e, e, this]
theorem core_filter {p q : Msg → Bool} (hp : ∀ a b, core a = core b → q a = p b) : ∀ {l l' : List Msg}, l'.map core = l.map core → (l'.filter q).map core = (l.filter p).map core
  | [], [], _ => rfl
  | [], b :: l', h => by simp at h
  | a :: l, [], h => by simp at h
  | a :: l, b :: l', h => by
    simp only [List.map_cons, List.cons.injEq] at h
    have ih := core_filter hp h.2
    have e := hp b a h.1
    rw [List.filter_cons, List.filter_cons, e]
    split
    · simp [h.1, ih]
    · exact ih
theorem flat_core {f g : Nat → List Msg} (h : ∀ p, p < 64 → (g p).map core = (f p).map core) : ∀ n, n ≤ 64 → ((List.range n).flatMap g).map core = ((List.range n).flatMap f).map core
  | 0, _ => rfl
  | n + 1, hn => by
    have ih := flat_core h n (by omega)
    rw [List.range_succ, List.flatMap_append, List.flatMap_append, List.map_append, List.map_append, ih]
    simp [h n (by omega)]
/-- what is left reads alike -/
theorem PRel.rest {O T : PO} {k : Nat} (h : PRel O T) (hi : InvO k O) : T.rest.map core = O.rest.map core := by
  unfold PO.rest
  rw [sort_filter, sort_filter]
  refine sortM_core ?_
  unfold aboveN
  rw [List.filter_filter, List.filter_filter, List.filter_flatMap, List.filter_flatMap]
  refine flat_core (fun p hp => ?_) 64 (Nat.le_refl _)
  have hd := h.le p
  have hs := h.sum p
  have hlow := h.low p
  have hc : ∀ a b, core a = core b → ((!doneB T a) && keyAh 0 (-1) a) = ((!doneB O b) && keyAh 0 (-1) b) := fun a b e => by
    obtain ⟨c1, c2, c3, _⟩ := core_iff.1 e
    unfold doneB keyAh
    rw [h.dn, c1, c2, c3]
  obtain ⟨d, hdd⟩ : ∃ d, d = T.lo p - O.lo p := ⟨_, rfl⟩
  have hrow : (T.R p).map core = ((O.R p).drop d).map core := by rw [h.row p, List.map_drop, hdd]
  rw [core_filter hc hrow]
  conv => rhs; rw [← List.take_append_drop d (O.R p)]
  rw [List.filter_append]
  have hnil : ((O.R p).take d).filter (fun a => (!doneB O a) && keyAh 0 (-1) a) = [] := by
    rw [List.filter_eq_nil_iff]
    intro m hm hx
    obtain ⟨j, hj, rfl⟩ := List.mem_iff_getElem.1 hm
    rw [List.length_take] at hj
    have hj2 : j < (O.R p).length := by omega
    rw [List.getElem_take] at hx
    obtain ⟨n1, n2⟩ := hi.hold.numb p hp j hj2
    rw [Bool.and_eq_true] at hx
    have hx1 := hx.1
    unfold doneB at hx1
    rw [n1, n2, ← h.dn] at hx1
    simp at hx1
    omega
  rw [hnil, List.nil_append]
end Go.Proofs.YtgjlcjbmcnofiaaDoor
namespace Go.Proofs.YtgjlcjbmcnofiaaDoor
set_option linter.unusedVariables false
set_option linter.unusedSimpArgs false
open Go.RowKit
/-- the blocks of F are as they were -/
def Keep (F : Nat → Prop) (w w' : World) : Prop := ∃ S, Kept S w w' ∧ Calm w S ∧ ∀ b, F b → ¬ S b
theorem Keep.of_below {F : Nat → Prop} {w w' : World} (h : Below w.heap.size w w') : Keep F w w' := ⟨fun _ => False, .of_below h, fun _ h => h.elim, fun _ _ h => h⟩
theorem Keep.keep {F : Nat → Prop} {w w' : World} {b : Nat} {o : Obj} (h : Keep F w w') (hF : F b) (hb : w.heap[b]? = some o) : w'.heap[b]? = some o := by
  obtain ⟨S, h1, _, h3⟩ := h
  exact h1.keep hb (h3 b hF)
theorem Keep.row {F : Nat → Prop} {w w' : World} {base : Nat} {e : TypeId} {size : Nat} {v : Value} {n : Nat} {xs : List Value} (h : Keep F w w') (hF : ∀ b, v.ownBlock = some b → F b) (hr : w.ownsRow base e size v n xs) : w'.ownsRow base e size v n xs := by
  obtain ⟨S, h1, _, h3⟩ := h
  exact own_keptS hr h1 (fun b hb => h3 b (hF b hb))
theorem Keep.outs {F : Nat → Prop} {w w' : World} {b0 : Nat} {L : List Msg} (h : Keep F w w') (ho : Outs b0 w L) : Outs b0 w' L := by
  obtain ⟨S, h1, h2, _⟩ := h
  exact ho.keptC h1 h2
theorem Keep.mono {F G : Nat → Prop} {w w' : World} (h : Keep F w w') (hg : ∀ b, G b → F b) : Keep G w w' := by
  obtain ⟨S, h1, h2, h3⟩ := h
  exact ⟨S, h1, h2, fun b hb => h3 b (hg b hb)⟩
/-- messages that are a row above b0, read as L -/
def RowO (b0 : Nat) (w : World) (v : Value) (L : List Msg) : Prop := ∃ L', w.ownsRow b0 42 6 v L'.length (rowsM L') ∧ L'.map core = L.map core ∧ Outs b0 w L'
theorem RowO.nil (b0 : Nat) (w : World) : RowO b0 w (.slice none 0 0) [] := ⟨[], ⟨rfl, .inl ⟨rfl, rfl⟩⟩, rfl, fun m h => by cases h⟩
theorem RowO.keep {F : Nat → Prop} {w w' : World} {b0 : Nat} {v : Value} {L : List Msg} (hr : RowO b0 w v L) (h : Keep F w w') (hF : ∀ b, v.ownBlock = some b → F b) : RowO b0 w' v L := by
  obtain ⟨L', h1, h2, h3⟩ := hr
  exact ⟨L', h.row hF h1, h2, h.outs h3⟩
theorem RowO.kind {w : World} {b0 : Nat} {v : Value} {L : List Msg} (hr : RowO b0 w v L) : ∀ b, v.ownBlock = some b → ∃ c fz, w.heap[b]? = some (.cells c 42 fz) := by
  obtain ⟨L', h1, _⟩ := hr
  exact Lib.ownsRow_kind h1
theorem RowO.msgs {w : World} {b0 : Nat} {v : Value} {L : List Msg} (hr : RowO b0 w v L) (hl : L.length ≤ 9223372036854775807) : ∃ L', MsgsAt w v L' ∧ L'.map core = L.map core := by
  obtain ⟨L', h1, h2, h3⟩ := hr
  have e : L'.length = L.length := by simpa using congrArg List.length h2
  exact ⟨L', (RowsAt.of_own h1).rowsIn.msgsAt (by omega) (fun m hm => (h3 m hm).1), h2⟩
/-- two orders above w0; the blocks of F lie apart -/
structure Two (w0 w : World) (B1 D1 Z1 : Nat) (O1 : PO) (B2 D2 Z2 : Nat) (O2 : PO) (F : Nat → Prop) : Prop where
  ex : ∃ V1 U1 V2 U2, OrH w0 w B1 D1 Z1 O1 V1 U1 ∧ OrH w0 w B2 D2 Z2 O2 V2 U2 ∧ (∀ b, orS B1 D1 Z1 V1 U1 b → ¬ orS B2 D2 Z2 V2 U2 b) ∧ (∀ b, F b → ¬ orS B1 D1 Z1 V1 U1 b ∧ ¬ orS B2 D2 Z2 V2 U2 b ∧ b < w.heap.size)
section
variable {w0 w w' : World} {B1 D1 Z1 B2 D2 Z2 : Nat} {O1 O1' O2 : PO} {F F' : Nat → Prop}
theorem Two.symm (h : Two w0 w B1 D1 Z1 O1 B2 D2 Z2 O2 F) : Two w0 w B2 D2 Z2 O2 B1 D1 Z1 O1 F := by
  obtain ⟨V1, U1, V2, U2, h1, h2, h3, h4⟩ := h
  exact ⟨V2, U2, V1, U1, h2, h1, fun b hb hc => h3 b hc hb, fun b hb => ⟨(h4 b hb).2.1, (h4 b hb).1, (h4 b hb).2.2⟩⟩
theorem Two.bel (h : Two w0 w B1 D1 Z1 O1 B2 D2 Z2 O2 F) : Below w0.heap.size w0 w := by
  obtain ⟨V1, U1, V2, U2, h1, _⟩ := h
  exact h1.bel
theorem Two.mono (h : Two w0 w B1 D1 Z1 O1 B2 D2 Z2 O2 F) (hF : ∀ b, F' b → F b) : Two w0 w B1 D1 Z1 O1 B2 D2 Z2 O2 F' := by
  obtain ⟨V1, U1, V2, U2, h1, h2, h3, h4⟩ := h
  exact ⟨V1, U1, V2, U2, h1, h2, h3, fun b hb => h4 b (hF b hb)⟩
/-- memory is made; what is new lies apart -/
theorem Two.add (h : Two w0 w B1 D1 Z1 O1 B2 D2 Z2 O2 F) (hb : Below w.heap.size w w') (hF : ∀ b, F' b → F b ∨ (w.heap.size ≤ b ∧ b < w'.heap.size)) : Two w0 w' B1 D1 Z1 O1 B2 D2 Z2 O2 F' := by
  obtain ⟨V1, U1, V2, U2, h1, h2, h3, h4⟩ := h
  refine ⟨V1, U1, V2, U2, h1.below hb, h2.below hb, h3, fun b hb' => ?_⟩
  rcases hF b hb' with e | e
  · obtain ⟨a1, a2, a3⟩ := h4 b e
    exact ⟨a1, a2, Nat.lt_of_lt_of_le a3 hb.size⟩
  · exact ⟨fun e' => by have := h1.at_.sz e'; omega, fun e' => by have := h2.at_.sz e'; omega, e.2⟩
/-- what lies apart is written -/
theorem Two.aside {S : Nat → Prop} (h : Two w0 w B1 D1 Z1 O1 B2 D2 Z2 O2 F) (hk : Kept S w w') (hc : Calm w S) (hS : ∀ b, S b → F b ∧ w0.heap.size ≤ b) : Two w0 w' B1 D1 Z1 O1 B2 D2 Z2 O2 F := by
  obtain ⟨V1, U1, V2, U2, h1, h2, h3, h4⟩ := h
  refine ⟨V1, U1, V2, U2, h1.kept hk (fun b hb e => (h4 b (hS b e).1).1 hb) hc (fun b e => (hS b e).2), h2.kept hk (fun b hb e => (h4 b (hS b e).1).2.1 hb) hc (fun b e => (hS b e).2), h3, fun b hb => ?_⟩
  obtain ⟨a1, a2, a3⟩ := h4 b hb
  exact ⟨a1, a2, Nat.lt_of_lt_of_le a3 hk.size⟩
theorem Two.step1 {V1 U1 V2 U2 : Nat → Value} (h1 : OrH w0 w B1 D1 Z1 O1 V1 U1) (h2 : OrH w0 w B2 D2 Z2 O2 V2 U2) (h3 : ∀ b, orS B1 D1 Z1 V1 U1 b → ¬ orS B2 D2 Z2 V2 U2 b) (h4 : ∀ b, F b → ¬ orS B1 D1 Z1 V1 U1 b ∧ ¬ orS B2 D2 Z2 V2 U2 b ∧ b < w.heap.size)
    (hg : OrG w0 w B1 D1 Z1 V1 U1 O1' w') : Two w0 w' B1 D1 Z1 O1' B2 D2 Z2 O2 F ∧ Keep F w w' := by
  obtain ⟨V, U, g1, g2, g3, g4⟩ := hg
  refine ⟨⟨V, U, V2, U2, g1, h2.kept g2 (fun b hb e => h3 b e hb) h1.at_.calm h1.frm, fun b hb e => ?_, fun b hb => ?_⟩, _, g2, h1.at_.calm, fun b hb => (h4 b hb).1⟩
  · rcases orS_new g3 g4 hb with x | x
    · exact h3 b x e
    · have := h2.at_.sz e
      omega
  · obtain ⟨a1, a2, a3⟩ := h4 b hb
    refine ⟨fun e => ?_, a2, Nat.lt_of_lt_of_le a3 g2.size⟩
    rcases orS_new g3 g4 e with x | x
    · exact a1 x
    · omega
/-- a call of the first order -/
theorem Two.call1 {p : Program} {fn : Nat} {args : Array Value} {Q : Ending → PO → Prop} (h : Two w0 w B1 D1 Z1 O1 B2 D2 Z2 O2 F)
    (hc : ∀ V U, OrH w0 w B1 D1 Z1 O1 V U → Calls p fn args w fun e w' => ∃ O', Q e O' ∧ OrG w0 w B1 D1 Z1 V U O' w') :
    Calls p fn args w fun e w' => ∃ O', Q e O' ∧ Two w0 w' B1 D1 Z1 O' B2 D2 Z2 O2 F ∧ Keep F w w' := by
  obtain ⟨V1, U1, V2, U2, h1, h2, h3, h4⟩ := h
  refine (hc V1 U1 h1).mono ?_
  rintro e w' ⟨O', q, hg⟩
  exact ⟨O', q, Two.step1 h1 h2 h3 h4 hg⟩
theorem Two.drain1 (h : Two w0 w B1 D1 Z1 O1 B2 D2 Z2 O2 F) (hk : OrOk O1) (hT : Tab w0) :
    Calls Tryd.prog 20 #[.pointer (some ⟨B1, 0, none⟩)] w fun e w' => ∃ L O' v, Drn O1 L O' ∧ O'.ripe = none ∧ e = .returned v ∧ RowO w0.heap.size w' v L ∧ Two w0 w' B1 D1 Z1 O' B2 D2 Z2 O2 (fun b => F b ∨ v.ownBlock = some b) ∧ Keep F w w' := by
  obtain ⟨V1, U1, V2, U2, h1, h2, h3, h4⟩ := h
  refine (orhDrain h1 hk hT).mono ?_
  rintro e w' ⟨L, L', O', v, d1, d2, d3, d4, d5, d6, V, U, g1, g2, g3, g4, g5⟩
  have hs := h1.bel.size
  refine ⟨L, O', v, d1, d2, d3, ⟨L', own_base d4 (fun k hk => by have := (d4.lt k hk).1; omega), d5, fun m hm => ?_⟩, ?_, (Two.step1 h1 h2 h3 h4 ⟨V, U, g1, g2, g3, g4⟩).2⟩
  · obtain ⟨a1, a2, a3⟩ := d6 m hm
    exact ⟨a1, a2, fun ad e1 e2 => Nat.le_trans hs (a3 ad e1 e2)⟩
  · refine ⟨V, U, V2, U2, g1, h2.kept g2 (fun b hb e => h3 b e hb) h1.at_.calm h1.frm, fun b hb e => ?_, fun b hb => ?_⟩
    · rcases orS_new g3 g4 hb with x | x
      · exact h3 b x e
      · have := h2.at_.sz e
        omega
    · rcases hb with hb | hb
      · obtain ⟨a1, a2, a3⟩ := h4 b hb
        refine ⟨fun e => ?_, a2, Nat.lt_of_lt_of_le a3 g2.size⟩
        rcases orS_new g3 g4 e with x | x
        · exact a1 x
        · omega
      · have hl := d4.lt b hb
        exact ⟨g5 b hb, fun e => by have := h2.at_.sz e; omega, hl.2⟩
/-- cells of the first order -/
theorem Two.cZ (h : Two w0 w B1 D1 Z1 O1 B2 D2 Z2 O2 F) : w.cell? ⟨B1, 1, none⟩ = some (.pointer (some ⟨Z1, 0, none⟩)) := by
  obtain ⟨V1, U1, V2, U2, h1, _⟩ := h
  exact h1.cZ
theorem Two.lt (h : Two w0 w B1 D1 Z1 O1 B2 D2 Z2 O2 F) : B1 < w.heap.size := by
  obtain ⟨V1, U1, V2, U2, h1, _⟩ := h
  exact h1.at_.lt
theorem Two.below (h : Two w0 w B1 D1 Z1 O1 B2 D2 Z2 O2 F) (hb : Below w.heap.size w w') : Two w0 w' B1 D1 Z1 O1 B2 D2 Z2 O2 F := h.add hb (fun _ h => .inl h)
theorem Two.rest1 (h : Two w0 w B1 D1 Z1 O1 B2 D2 Z2 O2 F) (hk : OrOk O1) : Calls Tryd.prog 23 #[.pointer (some ⟨B1, 0, none⟩)] w fun e w' => ∃ v, e = .returned v ∧ RowO w.heap.size w' v O1.rest ∧ Below w.heap.size w w' := by
  obtain ⟨V1, U1, V2, U2, h1, h2, h3, h4⟩ := h
  refine (orRest_any h1.at_ hk).mono ?_
  rintro e w' ⟨v, L, he, a1, a2, a3, a4⟩
  exact ⟨v, he, ⟨L, a1, a2, a3⟩, a4⟩
theorem Two.last1 (h : Two w0 w B1 D1 Z1 O1 B2 D2 Z2 O2 F) : Calls Tryd.prog 22 #[.pointer (some ⟨B1, 0, none⟩)] w fun e w' => e = .returned (.agg #[.int .u64 (O1.ls : Int), .int .i64 O1.lf]) ∧ Below w.heap.size w w' := by
  obtain ⟨V1, U1, V2, U2, h1, h2, h3, h4⟩ := h
  exact orLast_any h1.at_
end
/-- what an act does, and hands out -/
def ActTo (a : ActO) (O O' : PO) (L : List Msg) : Prop :=
  if a.kind = 0 then L = [] ∧ ((takeZ O a.m ≠ 0 ∧ O' = O) ∨ (takeZ O a.m = 0 ∧ ∃ m', core m' = core a.m ∧ O' = O.take a.m m'))
  else if a.kind = 1 then L = [] ∧ O' = { O with H := O.H.promise a.p a.stamp a.seq }
  else if a.kind = 2 then L = [] ∧ O' = { O with H := O.H.reached a.p a.stamp }
  else Drn O L O' ∧ O'.ripe = none
theorem ActTo.inv {a : ActO} {O O' : PO} {L : List Msg} {k : Nat} (h : ActTo a O O' L) (hi : InvO k O) (hd : a.m.ds.length ≤ 20000) : InvO (k + 1) O' := by
  unfold ActTo at h
  split at h
  · rcases h.2 with ⟨_, rfl⟩ | ⟨hz, m', hc, rfl⟩
    · exact hi.more
    · exact hi.take hz hc hd
  · split at h
    · obtain ⟨_, rfl⟩ := h
      exact (hi.more).setH (hi.hz.promise _ _ _)
    · split at h
      · obtain ⟨_, rfl⟩ := h
        exact (hi.setH (hi.hz.reached _ _)).more
      · exact (hi.drn h.1).more
theorem ActTo.rel {a : ActO} {O O' T T' : PO} {L L2 : List Msg} (hr : PRel O T) (h : ActTo a O O' L) (h2 : ActTo a T T' L2) : PRel O' T' ∧ L2.map core = L.map core := by
  unfold ActTo at h h2
  by_cases k0 : a.kind = 0
  · rw [if_pos k0] at h h2
    obtain ⟨rfl, h⟩ := h
    obtain ⟨rfl, h2⟩ := h2
    refine ⟨?_, rfl⟩
    rcases h with ⟨hz, rfl⟩ | ⟨hz, m1, c1, rfl⟩
    · rcases h2 with ⟨_, rfl⟩ | ⟨hz2, _⟩
      · exact hr
      · exact absurd ((hr.takeZ _).symm.trans hz2) hz
    · rcases h2 with ⟨hz2, _⟩ | ⟨_, m2, c2, rfl⟩
      · exact absurd ((hr.takeZ _).trans hz) hz2
      · exact hr.take c1 c2
  · rw [if_neg k0] at h h2
    by_cases k1 : a.kind = 1
    · rw [if_pos k1] at h h2
      obtain ⟨rfl, rfl⟩ := h
      obtain ⟨rfl, rfl⟩ := h2
      exact ⟨hr.setH (fun H => H.promise a.p a.stamp a.seq), rfl⟩
    · rw [if_neg k1] at h h2
      by_cases k2 : a.kind = 2
      · rw [if_pos k2] at h h2
        obtain ⟨rfl, rfl⟩ := h
        obtain ⟨rfl, rfl⟩ := h2
        exact ⟨hr.setH (fun H => H.reached a.p a.stamp), rfl⟩
      · rw [if_neg k2] at h h2
        obtain ⟨e1, e2⟩ := hr.drain h.1 h.2 h2.1 h2.2
        exact ⟨e2, e1⟩
end Go.Proofs.YtgjlcjbmcnofiaaDoor
namespace Go.Proofs.YtgjlcjbmcnofiaaDoor
set_option linter.unusedVariables false
set_option linter.unusedSimpArgs false
open Go.RowKit
def nilS : Value := .slice none 0 0
/-- what lies apart from the orders within a round -/
def KF (YB AB LB : Nat) (v0 v1 : Value) (b : Nat) : Prop := b = YB ∨ b = AB ∨ b = LB ∨ v0.ownBlock = some b ∨ v1.ownBlock = some b
/-- within a round: behind the act upon k of both orders -/
structure KSt (w : World) (B1 D1 Z1 B2 D2 Z2 YB AB LB : Nat) (O T : PO) (a : ActO) (k : Nat) (wr : World) : Prop where
  ex : ∃ O' T' v0 v1 L0 L1, Two w wr B1 D1 Z1 O' B2 D2 Z2 T' (KF YB AB LB v0 v1) ∧
    (k = 0 → O' = O ∧ v0 = nilS ∧ L0 = []) ∧ (1 ≤ k → ActTo a O O' L0) ∧ (k ≤ 1 → T' = T ∧ v1 = nilS ∧ L1 = []) ∧ (2 ≤ k → ActTo a T T' L1) ∧
    RowO w.heap.size wr v0 L0 ∧ RowO w.heap.size wr v1 L1 ∧
    wr.heap[YB]? = some (.cells #[.pointer (some ⟨B1, 0, none⟩), .pointer (some ⟨B2, 0, none⟩)] 49 (0, 0)) ∧
    wr.heap[AB]? = some (.cells (actL a).toArray 51 (0, 0)) ∧ wr.heap[LB]? = some (.cells #[v0, v1] 52 (0, 0)) ∧ w.heap.size ≤ LB
theorem calm_at {w : World} {b t : Nat} {cs : Array Value} {fr : Nat × Nat} (h : w.heap[b]? = some (.cells cs t fr)) (ht : t ≠ 33) : Calm w (fun k => k = b) := fun k hk cs' fr' hc => by
  subst hk
  rw [h] at hc
  injection hc with hc
  injection hc with _ hc _
  exact absurd hc ht
theorem kind_ne {w : World} {b c t u : Nat} {cs ds : Array Value} {fr fs : Nat × Nat} (h : w.heap[b]? = some (.cells cs t fr)) (k : w.heap[c]? = some (.cells ds u fs)) (ht : t ≠ u) : b ≠ c := fun e => by
  subst e
  rw [h] at k
  injection k with k
  injection k with _ k _
  exact ht k
/-- which order's turn it is, and what its act leaves -/
theorem KSt.role {w : World} {B1 D1 Z1 B2 D2 Z2 YB AB LB : Nat} {O T : PO} {a : ActO} {k : Nat} {wr : World} (h : KSt w B1 D1 Z1 B2 D2 Z2 YB AB LB O T a k wr) (hk : k < 2) :
    ∃ B D Z Oc B' D' Z' Oo F, wr.cell? ⟨YB, k, none⟩ = some (.pointer (some ⟨B, 0, none⟩)) ∧ Two w wr B D Z Oc B' D' Z' Oo F ∧ (Oc = O ∨ Oc = T) ∧ F YB ∧ F AB ∧ F LB ∧
      wr.heap[YB]? = some (.cells #[.pointer (some ⟨B1, 0, none⟩), .pointer (some ⟨B2, 0, none⟩)] 49 (0, 0)) ∧
      wr.heap[AB]? = some (.cells (actL a).toArray 51 (0, 0)) ∧ (∃ u0 u1, wr.heap[LB]? = some (.cells #[u0, u1] 52 (0, 0))) ∧
      (∀ w' Oc', ActTo a Oc Oc' [] → Two w w' B D Z Oc' B' D' Z' Oo F → Keep F wr w' → KSt w B1 D1 Z1 B2 D2 Z2 YB AB LB O T a (k + 1) w') ∧
      (∀ w' Oc' L v, ActTo a Oc Oc' L → Two w w' B D Z Oc' B' D' Z' Oo (fun b => F b ∨ v.ownBlock = some b) → Keep F wr w' → RowO w.heap.size w' v L → KSt w B1 D1 Z1 B2 D2 Z2 YB AB LB O T a (k + 1) (w'.setCell ⟨LB, k, none⟩ v)) := by
  obtain ⟨O', T', v0, v1, L0, L1, h1, h2, h3, h4, h5, h6, h7, h8, h9, h10, h11⟩ := h
  rcases (by omega : k = 0 ∨ k = 1) with rfl | rfl
  · obtain ⟨rfl, rfl, rfl⟩ := h2 rfl
    obtain ⟨rfl, rfl, rfl⟩ := h4 (by decide)
    refine ⟨B1, D1, Z1, O', B2, D2, Z2, T', KF YB AB LB nilS nilS, cell_of_row _ _ 0 _ _ _ h8, h1, .inl rfl, .inl rfl, .inr (.inl rfl), .inr (.inr (.inl rfl)), h8, h9, ⟨_, _, h10⟩, fun w' Oc' ha ht hk => ?_, fun w' Oc' L v ha ht hk hr => ?_⟩
    · exact ⟨Oc', T', nilS, nilS, [], [], ht, fun e => (by cases e), fun _ => ha, fun _ => ⟨rfl, rfl, rfl⟩, fun e => absurd e (by decide), RowO.nil _ _, RowO.nil _ _, hk.keep (.inl rfl) h8, hk.keep (.inr (.inl rfl)) h9, hk.keep (.inr (.inr (.inl rfl))) h10, h11⟩
    · have a10 := hk.keep (.inr (.inr (.inl rfl))) h10
      have hs := kept_set w' LB 0 v
      have hkp : Keep (fun b => b ≠ LB) w' (w'.setCell ⟨LB, 0, none⟩ v) := ⟨_, hs, calm_at a10 (by decide), fun b hb e => hb e⟩
      refine ⟨Oc', T', v, nilS, L, [], (ht.aside hs (calm_at a10 (by decide)) (fun b e => by subst e; exact ⟨.inl (.inr (.inr (.inl rfl))), h11⟩)).mono (fun b hb => ?_), fun e => (by cases e), fun _ => ha, fun _ => ⟨rfl, rfl, rfl⟩, fun e => absurd e (by decide), hr.keep hkp (fun b hb => ?_), RowO.nil _ _, ?_, ?_, ?_, h11⟩
      · rcases hb with e | e | e | e | e
        · exact .inl (.inl e)
        · exact .inl (.inr (.inl e))
        · exact .inl (.inr (.inr (.inl e)))
        · exact .inr e
        · cases e
      · obtain ⟨c, fz, hc⟩ := hr.kind b hb
        exact kind_ne hc a10 (by decide)
      · exact hkp.keep (kind_ne (hk.keep (.inl rfl) h8) a10 (by decide)) (hk.keep (.inl rfl) h8)
      · exact hkp.keep (kind_ne (hk.keep (.inr (.inl rfl)) h9) a10 (by decide)) (hk.keep (.inr (.inl rfl)) h9)
      · exact setCell_block a10 0 v
  · obtain ⟨rfl, rfl, rfl⟩ := h4 (by decide)
    refine ⟨B2, D2, Z2, T', B1, D1, Z1, O', KF YB AB LB v0 nilS, cell_of_row _ _ 1 _ _ _ h8, h1.symm, .inr rfl, .inl rfl, .inr (.inl rfl), .inr (.inr (.inl rfl)), h8, h9, ⟨_, _, h10⟩, fun w' Oc' ha ht hk => ?_, fun w' Oc' L v ha ht hk hr => ?_⟩
    · exact ⟨O', Oc', v0, nilS, L0, [], ht.symm, fun e => (by cases e), fun _ => h3 (by decide), fun e => absurd e (by decide), fun _ => ha, h6.keep hk (fun b hb => .inr (.inr (.inr (.inl hb)))), RowO.nil _ _, hk.keep (.inl rfl) h8, hk.keep (.inr (.inl rfl)) h9, hk.keep (.inr (.inr (.inl rfl))) h10, h11⟩
    · have a10 := hk.keep (.inr (.inr (.inl rfl))) h10
      have hs := kept_set w' LB 1 v
      have hkp : Keep (fun b => b ≠ LB) w' (w'.setCell ⟨LB, 1, none⟩ v) := ⟨_, hs, calm_at a10 (by decide), fun b hb e => hb e⟩
      have a6 := h6.keep hk (fun b hb => .inr (.inr (.inr (.inl hb))))
      refine ⟨O', Oc', v0, v, L0, L, ((ht.aside hs (calm_at a10 (by decide)) (fun b e => by subst e; exact ⟨.inl (.inr (.inr (.inl rfl))), h11⟩)).mono (fun b hb => ?_)).symm, fun e => (by cases e), fun _ => h3 (by decide), fun e => absurd e (by decide), fun _ => ha, a6.keep hkp (fun b hb => ?_), hr.keep hkp (fun b hb => ?_), ?_, ?_, ?_, h11⟩
      · rcases hb with e | e | e | e | e
        · exact .inl (.inl e)
        · exact .inl (.inr (.inl e))
        · exact .inl (.inr (.inr (.inl e)))
        · exact .inl (.inr (.inr (.inr (.inl e))))
        · exact .inr e
      · obtain ⟨c, fz, hc⟩ := a6.kind b hb
        exact kind_ne hc a10 (by decide)
      · obtain ⟨c, fz, hc⟩ := hr.kind b hb
        exact kind_ne hc a10 (by decide)
      · exact hkp.keep (kind_ne (hk.keep (.inl rfl) h8) a10 (by decide)) (hk.keep (.inl rfl) h8)
      · exact hkp.keep (kind_ne (hk.keep (.inr (.inl rfl)) h9) a10 (by decide)) (hk.keep (.inr (.inl rfl)) h9)
      · exact setCell_block a10 1 v
theorem Keep.trans {F : Nat → Prop} {w1 w2 w3 : World} (h : Keep F w1 w2) (k : Keep F w2 w3) : Keep F w1 w3 := by
  obtain ⟨S, h1, h2, h3⟩ := h
  obtain ⟨S', k1, k2, k3⟩ := k
  refine ⟨fun b => S b ∨ S' b, (h1.more fun _ _ e => .inl e).trans (k1.more fun _ _ e => .inr e), fun b hb cs fr hc => ?_, fun b hb e => e.elim (h3 b hb) (k3 b hb)⟩
  by_cases e : S b
  · exact h2 b e cs fr hc
  · exact k2 b (hb.resolve_left e) cs fr (h1.keep hc e)
/-- what the acts' calls leave, whichever order's turn it is -/
def Acts4 (w : World) (a : ActO) (B Z LB j : Nat) (wr : World) (P : World → Prop) : Prop := ∀ w3, Below wr.heap.size wr w3 →
  (a.kind = 0 → Calls Tryd.prog 17 #[.pointer (some ⟨B, 0, none⟩), .agg (msgA a.m)] w3 fun e w' => (∃ z, e = .returned z) ∧ P w') ∧
  (a.kind = 1 → Calls Tryd.prog 18 #[.pointer (some ⟨Z, 0, none⟩), .int .i64 a.p, .int .u64 (a.stamp : Int), .int .u32 (a.seq : Int)] w3 fun e w' => e = .returned (.tuple #[]) ∧ P w') ∧
  (a.kind = 2 → Calls Tryd.prog 19 #[.pointer (some ⟨Z, 0, none⟩), .int .i64 a.p, .int .u64 (a.stamp : Int)] w3 fun e w' => e = .returned (.tuple #[]) ∧ P w') ∧
  (a.kind ≠ 0 → a.kind ≠ 1 → a.kind ≠ 2 → Calls Tryd.prog 20 #[.pointer (some ⟨B, 0, none⟩)] w3 fun e w' => ∃ ad n c, e = .returned (.slice ad n c) ∧ (∃ u, w'.cell? ⟨LB, j, none⟩ = some u) ∧ w'.frozen? ⟨LB, j, none⟩ = false ∧ P (w'.setCell ⟨LB, j, none⟩ (.slice ad n c)))
theorem acts4_of {w : World} {a : ActO} {B D Z B' D' Z' LB j k : Nat} {Oc Oo : PO} {F : Nat → Prop} {wr : World} {P : World → Prop} (hT : Tab w) (h : Two w wr B D Z Oc B' D' Z' Oo F) (hi : InvO k Oc) (hk : k ≤ 60)
    (hm : ∀ W, Below w.heap.size w W → MsgOk W a.m) (hd : a.m.ds.length ≤ 20000) (hL : F LB) (hj : j < 2) (hl : ∃ u0 u1, wr.heap[LB]? = some (.cells #[u0, u1] 52 (0, 0)))
    (h1 : ∀ w' Oc', ActTo a Oc Oc' [] → Two w w' B D Z Oc' B' D' Z' Oo F → Keep F wr w' → P w')
    (h2 : ∀ w' Oc' L v, ActTo a Oc Oc' L → Two w w' B D Z Oc' B' D' Z' Oo (fun b => F b ∨ v.ownBlock = some b) → Keep F wr w' → RowO w.heap.size w' v L → P (w'.setCell ⟨LB, j, none⟩ v)) : Acts4 w a B Z LB j wr P := by
  intro w3 hb3
  have ht := h.below hb3
  have hkp : Keep F wr w3 := Keep.of_below hb3
  have hok := hi.ok (by omega)
  refine ⟨fun hk0 => ?_, fun hk1 => ?_, fun hk2 => ?_, fun k0 k1 k2 => ?_⟩
  · refine (ht.call1 (Q := fun e O' => (∃ z, e = .returned z) ∧ ActTo a Oc O' []) fun V U hh => (orhTake hh hok a.m (hm _ hh.bel) (by omega)).mono ?_).mono ?_
    · rintro e w' ⟨rfl, ⟨hz, hg⟩ | ⟨hz, m', hc, hg⟩⟩
      · exact ⟨Oc, ⟨⟨_, rfl⟩, by unfold ActTo; rw [if_pos hk0]; exact ⟨rfl, .inl ⟨hz, rfl⟩⟩⟩, hg⟩
      · exact ⟨_, ⟨⟨_, rfl⟩, by unfold ActTo; rw [if_pos hk0]; exact ⟨rfl, .inr ⟨hz, m', hc, rfl⟩⟩⟩, hg⟩
    · rintro e w' ⟨O', ⟨hz, hact⟩, ht', hk'⟩
      exact ⟨hz, h1 w' O' hact ht' (hkp.trans hk')⟩
  · refine (ht.call1 (Q := fun e O' => e = .returned (.tuple #[]) ∧ ActTo a Oc O' []) fun V U hh => ?_).mono ?_
    · have hz : Calls Tryd.prog 18 #[.pointer (some ⟨Z, 0, none⟩), .int .i64 a.p, .int .u64 (a.stamp : Int), .int .u32 (a.seq : Int)] w3 _ := orhPromise hh hok a.p a.stamp a.seq
      refine hz.mono ?_
      rintro e w' ⟨rfl, hg⟩
      exact ⟨_, ⟨rfl, by unfold ActTo; rw [if_neg (by omega), if_pos hk1]; exact ⟨rfl, rfl⟩⟩, hg⟩
    · rintro e w' ⟨O', ⟨hz, hact⟩, ht', hk'⟩
      exact ⟨hz, h1 w' O' hact ht' (hkp.trans hk')⟩
  · refine (ht.call1 (Q := fun e O' => e = .returned (.tuple #[]) ∧ ActTo a Oc O' []) fun V U hh => ?_).mono ?_
    · refine (orhReached hh hok a.p a.stamp).mono ?_
      rintro e w' ⟨rfl, hg⟩
      exact ⟨_, ⟨rfl, by unfold ActTo; rw [if_neg (by omega), if_neg (by omega), if_pos hk2]; exact ⟨rfl, rfl⟩⟩, hg⟩
    · rintro e w' ⟨O', ⟨hz, hact⟩, ht', hk'⟩
      exact ⟨hz, h1 w' O' hact ht' (hkp.trans hk')⟩
  · refine (ht.drain1 hok hT).mono ?_
    rintro e w' ⟨L, O', v, d1, d2, rfl, hr, ht', hk'⟩
    obtain ⟨u0, u1, hl⟩ := hl
    have hl' := (hkp.trans hk').keep hL hl
    have hP := h2 w' O' L v (by unfold ActTo; rw [if_neg k0, if_neg k1, if_neg k2]; exact ⟨d1, d2⟩) ht' (hkp.trans hk') hr
    obtain ⟨L', hro, _⟩ := hr
    obtain ⟨ad, c, rfl⟩ := ownForm hro
    refine ⟨ad, _, c, rfl, ?_, frozen_of_row _ _ _ _ _ hl', hP⟩
    rcases (by omega : j = 0 ∨ j = 1) with rfl | rfl
    · exact ⟨u0, cell_of_row _ _ 0 _ _ _ hl'⟩
    · exact ⟨u1, cell_of_row _ _ 1 _ _ _ hl'⟩
/-- at the head of the acts' loop -/
structure OutSt (w : World) (B1 D1 Z1 B2 D2 Z2 YB k : Nat) (wr : World) : Prop where
  ex : ∃ O T, Two w wr B1 D1 Z1 O B2 D2 Z2 T (fun b => b = YB) ∧ InvO k O ∧ InvO k T ∧ PRel O T ∧ wr.heap[YB]? = some (.cells #[.pointer (some ⟨B1, 0, none⟩), .pointer (some ⟨B2, 0, none⟩)] 49 (0, 0))
/-- while T is trimmed -/
structure PSt (w : World) (B1 D1 Z1 B2 D2 Z2 YB AB LB : Nat) (O : PO) (v0 v1 : Value) (L0 L1 : List Msg) (k : Nat) (wr : World) : Prop where
  ex : ∃ T, Two w wr B1 D1 Z1 O B2 D2 Z2 T (KF YB AB LB v0 v1) ∧ InvO k T ∧ PRel O T ∧ RowO w.heap.size wr v0 L0 ∧ RowO w.heap.size wr v1 L1 ∧
    wr.heap[YB]? = some (.cells #[.pointer (some ⟨B1, 0, none⟩), .pointer (some ⟨B2, 0, none⟩)] 49 (0, 0)) ∧ wr.heap[LB]? = some (.cells #[v0, v1] 52 (0, 0))
theorem PSt.trim {w : World} {B1 D1 Z1 B2 D2 Z2 YB AB LB : Nat} {O : PO} {v0 v1 : Value} {L0 L1 : List Msg} {k : Nat} {wr : World} (h : PSt w B1 D1 Z1 B2 D2 Z2 YB AB LB O v0 v1 L0 L1 k wr) (hk : k ≤ 1000) (q : Nat) :
    Calls Tryd.prog 21 #[.pointer (some ⟨B2, 0, none⟩), .int .i64 (q : Int), .int .u32 4294967295] wr fun e w' => e = .returned (.tuple #[]) ∧ PSt w B1 D1 Z1 B2 D2 Z2 YB AB LB O v0 v1 L0 L1 k w' := by
  obtain ⟨T, t1, t2, t3, t4, t5, t6, t7⟩ := h
  refine (t1.symm.call1 (Q := fun e T' => e = .returned (.tuple #[]) ∧ T' = T.trim q 4294967295) fun V U hh => (orhTrim hh (t2.ok hk) q 4294967295 (by decide)).mono ?_).mono ?_
  · rintro e w' ⟨rfl, hg⟩
    exact ⟨_, ⟨rfl, rfl⟩, hg⟩
  · rintro e w' ⟨T', ⟨rfl, rfl⟩, ht, hkp⟩
    exact ⟨rfl, T.trim q 4294967295, ht.symm, t2.trim0 _ _, t3.trimT _ _, t4.keep hkp (fun b hb => .inr (.inr (.inr (.inl hb)))), t5.keep hkp (fun b hb => .inr (.inr (.inr (.inr hb)))), hkp.keep (.inl rfl) t6, hkp.keep (.inr (.inr (.inl rfl))) t7⟩
theorem own_len {w : World} {b : Nat} {e : TypeId} {size n : Nat} {v : Value} {xs : List Value} (h : w.ownsRow b e size v n xs) : n ≤ 9223372036854775807 := by
  rcases h.2 with ⟨_, rfl⟩ | ⟨g, cap, cur, _, _, _, h1, h2, _⟩
  · omega
  · unfold maxLen at h2
    omega
/-- the calls at a round's end -/
theorem PSt.final {w : World} {B1 D1 Z1 B2 D2 Z2 YB AB LB : Nat} {O : PO} {v0 v1 : Value} {L0 L1 : List Msg} {k : Nat} {wr : World} (h : PSt w B1 D1 Z1 B2 D2 Z2 YB AB LB O v0 v1 L0 L1 k wr) (hi : InvO k O) (hc : L1.map core = L0.map core) (hk : k ≤ 1000) :
    ∃ n0 a0 c0 n1 a1 c1, v0 = .slice a0 n0 c0 ∧ v1 = .slice a1 n1 c1 ∧ wr.cell? ⟨LB, 0, none⟩ = some v0 ∧ wr.cell? ⟨LB, 1, none⟩ = some v1 ∧
      Calls Tryd.prog 11 #[v0, v1] wr (fun e w' => e = .returned (.bool true) ∧ Below wr.heap.size wr w') ∧
      (∃ ls : Nat, ∃ lf : Int, ∀ W, Below wr.heap.size wr W → Calls Tryd.prog 22 #[.pointer (some ⟨B1, 0, none⟩)] W (fun e w' => e = .returned (.agg #[.int .u64 (ls : Int), .int .i64 lf]) ∧ Below W.heap.size W w') ∧
        Calls Tryd.prog 22 #[.pointer (some ⟨B2, 0, none⟩)] W (fun e w' => e = .returned (.agg #[.int .u64 (ls : Int), .int .i64 lf]) ∧ Below W.heap.size W w')) ∧
      (∀ W, Below wr.heap.size wr W → Calls Tryd.prog 23 #[.pointer (some ⟨B1, 0, none⟩)] W (fun e w' => ∃ u, e = .returned u ∧ RowO W.heap.size w' u O.rest ∧ Below W.heap.size W w') ∧
        Calls Tryd.prog 23 #[.pointer (some ⟨B2, 0, none⟩)] W (fun e w' => ∃ u, e = .returned u ∧ RowO W.heap.size w' u O.rest ∧ Below W.heap.size W w')) ∧
      (∀ W, Below wr.heap.size wr W → OutSt w B1 D1 Z1 B2 D2 Z2 YB k W) := by
  obtain ⟨T, t1, t2, t3, t4, t5, t6, t7⟩ := h
  obtain ⟨M0, m1, m2, m3⟩ := id t4
  obtain ⟨M1, q1, q2, q3⟩ := id t5
  obtain ⟨a0, c0, rfl⟩ := ownForm m1
  obtain ⟨a1, c1, rfl⟩ := ownForm q1
  have hm0 : MsgsAt wr (.slice a0 M0.length c0) M0 := (RowsAt.of_own m1).rowsIn.msgsAt (own_len m1) (fun m hm => (m3 m hm).1)
  have hm1 : MsgsAt wr (.slice a1 M1.length c1) M1 := (RowsAt.of_own q1).rowsIn.msgsAt (own_len q1) (fun m hm => (q3 m hm).1)
  refine ⟨_, a0, c0, _, a1, c1, rfl, rfl, cell_of_row _ _ 0 _ _ _ t7, cell_of_row _ _ 1 _ _ _ t7, ?_, ⟨O.ls, O.lf, fun W hW => ⟨(t1.below hW).last1, ?_⟩⟩, fun W hW => ⟨(t1.below hW).rest1 (hi.ok hk), ?_⟩, fun W hW => ⟨O, T, (t1.below hW).mono (fun b e => .inl e), hi, t2, t3, (hW.block _ (Array.getElem?_eq_some_iff.1 t6).1).trans t6⟩⟩
  · have := All_any _ _ M0 M1 wr hm0 hm1
    rw [allM_core (by rw [m2, q2, hc])] at this
    exact this
  · have := (t1.below hW).symm.last1
    rw [t3.ls, t3.lf] at this
    exact this
  · refine ((t1.below hW).symm.rest1 (t2.ok hk)).mono ?_
    rintro e w' ⟨u, rfl, ⟨X, x1, x2, x3⟩, hb⟩
    exact ⟨u, rfl, ⟨X, x1, by rw [x2, t3.rest hi], x3⟩, hb⟩
set_option maxRecDepth 100000 in
set_option maxHeartbeats 16000000 in
theorem law_orderTrims (ms : Nat) (v : Value) (l : List ActO) (w : World) (hm : ms < 18446744073709551616) (hT : Tab w) (h : ActsO w v l) :
    Calls Tryd.prog 5 #[.int .u64 (ms : Int), v] w fun e w' => e = .returned (.bool true) ∧ Below w.heap.size w w' := by
  have HT := Lib.hid hT
  have HL := Lib.hid h
  have HAW := Lib.hid (awake14_any w hT)
  have HFE := Lib.hid (fun (W : World) (hb : Below w.heap.size w W) => FewO_any v l W (h.below hb))
  have HM := Lib.hid hm
  obtain ⟨ad, cap, rfl, hl9, _⟩ := h
  clear hT hm
  go_enter Tryd.func5, Tryd.ntmps5
  go_wp2_with fail
  refine HAW.out.mono ?_
  rintro e w1 ⟨rfl, hb1⟩
  have HB1 := Lib.hid hb1
  clear hb1 HAW
  go_wp2_with fail
  refine (HFE.out _ HB1.out).mono ?_
  rintro e w2 ⟨⟨b, rfl, hfew⟩, hb2⟩
  have HB2 := Lib.hid (bt HB1.out hb2)
  clear hb2 HFE HB1
  cases b
  · clear hfew
    go_wp2_with fail
    go_ret
    exact ⟨rfl, HB2.out⟩
  have HF := Lib.hid (hfew rfl)
  clear hfew
  go_wp2_with fail
  refine (orNew_any 0 ms w2 HM.out).mono ?_
  rintro e w3 hn
  obtain ⟨B1, D1, Z1, rfl, h3, hf3, hb3⟩ := orh_new HB2.out hn
  have H3 := Lib.hid (And.intro h3 (And.intro hf3 hb3))
  clear hn h3 hf3 hb3
  go_wp2_with fail
  refine (orNew_any 0 ms w3 HM.out).mono ?_
  rintro e w4 hn
  obtain ⟨B2, D2, Z2, rfl, h4, hf4, hb4⟩ := orh_new H3.out.1.bel hn
  obtain ⟨h3, hf3, hb3⟩ := H3.out
  have ht4 : Two w w4 B1 D1 Z1 (po0 0 ms) B2 D2 Z2 (po0 0 ms) (fun _ => False) := ⟨nilV, nilV, nilV, nilV, h3.below hb4, h4, fun b hb e => by
    have := h3.at_.sz hb
    have := hf4 b e
    omega, fun b hb => hb.elim⟩
  obtain ⟨w5, hw5⟩ : ∃ w5, w5 = w4.alloc (.cells #[.pointer (some ⟨B1, 0, none⟩), .pointer (some ⟨B2, 0, none⟩)] 49) := ⟨_, rfl⟩
  obtain ⟨YB, hYB⟩ : ∃ x, x = w4.heap.size := ⟨_, rfl⟩
  have hy5 : w5.heap[YB]? = some (.cells #[.pointer (some ⟨B1, 0, none⟩), .pointer (some ⟨B2, 0, none⟩)] 49 (0, 0)) := by rw [hw5, hYB]; exact heap_alloc_new w4 _
  have hb5 : Below w4.heap.size w4 w5 := by rw [hw5]; exact ba (br w4) _
  have HO := Lib.hid (show OutSt w B1 D1 Z1 B2 D2 Z2 YB 0 w5 from ⟨po0 0 ms, po0 0 ms, ht4.add hb5 (fun b e => .inr (by subst e; exact ⟨by omega, (Array.getElem?_eq_some_iff.1 hy5).1⟩)), InvO.new 0 ms HM.out, InvO.new 0 ms HM.out, PRel.new 0 ms, hy5⟩)
  have HW5 := Lib.hid (And.intro hw5 hYB)
  clear hn h4 hf4 hb4 h3 hf3 hb3 ht4 hw5 hYB hy5 hb5 H3 HB2
  go_upto_region 7 with (fail)
  rw [← HW5.out.2, ← HW5.out.1]
  clear HW5
  go_wp2_with fail
  go_loopw [8] (fun i wr => ∃ k : Nat, k ≤ l.length ∧ i = .int .i64 (k : Int) ∧ Hid (OutSt w B1 D1 Z1 B2 D2 Z2 YB k wr)) (fun i _ => l.length - (intOf i).toNat)
  case atStart => exact ⟨0, by omega, rfl, HO⟩
  case round =>
    obtain ⟨k, hk, rfl, HS⟩ := hrel
    by_cases hlt : k < l.length
    · have hbool : decide ((k : Int) < (l.length : Int)) = true := by simpa using hlt
      have hi0 : (k : Int) < (l.length : Int) := by omega
      obtain ⟨O, T, h1, h2, h3, h4, h5⟩ := HS.out.ex
      obtain ⟨ad', cap', e0, _, hm⟩ := HL.out.below h1.bel
      injection e0 with e0 e1 e2
      subst e0
      subst e2
      clear e1
      obtain ⟨g, o, rfl, hg, hrow, hok, hup⟩ := hm k hlt
      have hds : (l[k]).m.ds.length ≤ 20000 := (HF.out.2 l[k] (List.getElem_mem hlt)).2
      have hk60 : k ≤ 60 := by have := HF.out.1; omega
      obtain ⟨a, ha⟩ : ∃ a, a = l[k] := ⟨_, rfl⟩
      rw [← ha] at hrow hok hup hds
      have y0 : wr.cell? ⟨g, o + k * 10, none⟩ = some (.int .i64 a.kind) := hrow 0 _ rfl
      have y1 : wr.cell? ⟨g, o + k * 10 + 1, none⟩ = some (.int .i64 a.p) := hrow 1 _ rfl
      have y2 : wr.cell? ⟨g, o + k * 10 + 2, none⟩ = some (.int .i64 a.m.frm) := hrow 2 _ rfl
      have y3 : wr.cell? ⟨g, o + k * 10 + 3, none⟩ = some (.int .u32 (a.m.seq : Int)) := hrow 3 _ rfl
      have y4 : wr.cell? ⟨g, o + k * 10 + 4, none⟩ = some (.int .u64 (a.m.stamp : Int)) := hrow 4 _ rfl
      have y5 : wr.cell? ⟨g, o + k * 10 + 5, none⟩ = some (.int .i64 a.m.service) := hrow 5 _ rfl
      have y6 : wr.cell? ⟨g, o + k * 10 + 6, none⟩ = some (.slice a.m.da a.m.ds.length a.m.dc) := hrow 6 _ rfl
      have y7 : wr.cell? ⟨g, o + k * 10 + 7, none⟩ = some (.string a.m.pay) := hrow 7 _ rfl
      have y8 : wr.cell? ⟨g, o + k * 10 + 8, none⟩ = some (.int .u32 (a.seq : Int)) := hrow 8 _ rfl
      have y9 : wr.cell? ⟨g, o + k * 10 + 9, none⟩ = some (.int .u64 (a.stamp : Int)) := hrow 9 _ rfl
      obtain ⟨AB, hAB⟩ : ∃ x, x = wr.heap.size := ⟨_, rfl⟩
      obtain ⟨w7, hw7⟩ : ∃ w7, w7 = wr.alloc (.cells (actL a).toArray 51) := ⟨_, rfl⟩
      obtain ⟨LB, hLB⟩ : ∃ x, x = w7.heap.size := ⟨_, rfl⟩
      obtain ⟨w8, hw8⟩ : ∃ w8, w8 = w7.alloc (.cells #[nilS, nilS] 52) := ⟨_, rfl⟩
      have ha7 : w7.heap[AB]? = some (.cells (actL a).toArray 51 (0, 0)) := by rw [hw7, hAB]; exact heap_alloc_new wr _
      have hb7 : Below wr.heap.size wr w7 := by rw [hw7]; exact ba (br wr) _
      have hl8 : w8.heap[LB]? = some (.cells #[nilS, nilS] 52 (0, 0)) := by rw [hw8, hLB]; exact heap_alloc_new w7 _
      have hb8 : Below w7.heap.size w7 w8 := by rw [hw8]; exact ba (br w7) _
      have ha8 := (hb8.block _ (Array.getElem?_eq_some_iff.1 ha7).1).trans ha7
      have hb78 := bt hb7 hb8
      have hy8 := (hb78.block _ (Array.getElem?_eq_some_iff.1 h5).1).trans h5
      have hLw : w.heap.size ≤ LB := by
        have := h1.bel.size
        have := hb7.size
        omega
      have HK := Lib.hid (show KSt w B1 D1 Z1 B2 D2 Z2 YB AB LB O T a 0 w8 from by
        refine ⟨O, T, nilS, nilS, [], [], h1.add hb78 (fun b hb => ?_), fun _ => ⟨rfl, rfl, rfl⟩, fun e => absurd e (by decide), fun _ => ⟨rfl, rfl, rfl⟩, fun e => absurd e (by decide), RowO.nil _ _, RowO.nil _ _, hy8, ha8, hl8, hLw⟩
        rcases hb with e | e | e | e | e
        · exact .inl e
        · exact .inr ⟨by omega, by rw [e]; exact (Array.getElem?_eq_some_iff.1 ha8).1⟩
        · exact .inr ⟨by have := hb7.size; omega, by rw [e]; exact (Array.getElem?_eq_some_iff.1 hl8).1⟩
        · cases e
        · cases e)
      have HI := Lib.hid (And.intro h2 (And.intro h3 h4))
      have HA := Lib.hid (show (∀ W, Below w.heap.size w W → MsgOk W a.m) ∧ a.m.ds.length ≤ 20000 from ⟨fun W hW => by
        obtain ⟨_, _, _, _, q⟩ := HL.out.below hW
        obtain ⟨_, _, _, _, _, q2, _⟩ := q k hlt
        rw [ha]
        exact q2, hds⟩)
      have HW := Lib.hid (And.intro hAB (And.intro hw7 (And.intro hLB hw8)))
      have HLT := Lib.hid (And.intro hlt hk60)
      have hw7' : wr.alloc (.cells #[.int .i64 a.kind, .int .i64 a.p, .int .i64 a.m.frm, .int .u32 (a.m.seq : Int), .int .u64 (a.m.stamp : Int), .int .i64 a.m.service, .slice a.m.da a.m.ds.length a.m.dc, .string a.m.pay, .int .u32 (a.seq : Int), .int .u64 (a.stamp : Int)] 51) = w7 := hw7.symm
      have HW7 := Lib.hid hw7'
      clear hm hup hg hrow hok ha hds hk60 h1 h2 h3 h4 h5 hAB hw7 hLB hw8 ha7 hb7 hl8 hb8 ha8 hb78 hy8 hLw hw7' hk hlt HS HO
      go_upto_region 11 with (fail)
      rw [HW7.out, ← HW.out.1]
      clear HW7 y0 y1 y2 y3 y4 y5 y6 y7 y8 y9
      have HW8 := Lib.hid (show w7.alloc (.cells #[.slice none 0 0, .slice none 0 0] 52) = w8 from HW.out.2.2.2.symm)
      go_upto_region 12 with (fail)
      rw [HW8.out, ← HW.out.2.2.1]
      clear HW8 HW
      go_wp2_with fail
      go_loopw [11] (fun i wr' => ∃ j : Nat, j ≤ 2 ∧ i = .int .i64 (j : Int) ∧ Hid (KSt w B1 D1 Z1 B2 D2 Z2 YB AB LB O T a j wr')) (fun i _ => 2 - (intOf i).toNat)
      case atStart => exact ⟨0, by omega, rfl, HK⟩
      case round =>
        obtain ⟨j, hj, rfl, HKj⟩ := hrel
        by_cases hj2 : j < 2
        · have hbj : decide ((j : Int) < 2) = true := by simp; omega
          have hj3 : (j : Int) < 2 := by omega
          obtain ⟨B, D, Z, Oc, B', D', Z', Oo, F, hcB, htw, hor, hFY, hFA, hFL, hhY, hhA, hhL, hE1, hE2⟩ := HKj.out.role hj2
          have hiC : InvO k Oc := hor.elim (fun e => e ▸ HI.out.1) (fun e => e ▸ HI.out.2.1)
          have HC := Lib.hid (acts4_of HT.out htw hiC HLT.out.2 HA.out.1 HA.out.2 hFL hj2 hhL hE1 hE2)
          obtain ⟨kd, hkd⟩ : ∃ kd, kd = a.kind := ⟨_, rfl⟩
          have c0 : wr.cell? ⟨AB, 0, none⟩ = some (.int .i64 kd) := by rw [hkd]; exact cell_of_row _ _ 0 _ _ _ hhA
          have HKD := Lib.hid hkd
          have lA := (Array.getElem?_eq_some_iff.1 hhA).1
          have lY := (Array.getElem?_eq_some_iff.1 hhY).1
          have z1 : ∀ y : Bel wr, y.val.cell? ⟨AB, 1, none⟩ = some (.int .i64 a.p) := Bel.cell (cell_of_row _ _ 1 _ _ _ hhA) lA
          have z2 : ∀ y : Bel wr, y.val.cell? ⟨AB, 2, none⟩ = some (.int .i64 a.m.frm) := Bel.cell (cell_of_row _ _ 2 _ _ _ hhA) lA
          have z3 : ∀ y : Bel wr, y.val.cell? ⟨AB, 3, none⟩ = some (.int .u32 (a.m.seq : Int)) := Bel.cell (cell_of_row _ _ 3 _ _ _ hhA) lA
          have z4 : ∀ y : Bel wr, y.val.cell? ⟨AB, 4, none⟩ = some (.int .u64 (a.m.stamp : Int)) := Bel.cell (cell_of_row _ _ 4 _ _ _ hhA) lA
          have z5 : ∀ y : Bel wr, y.val.cell? ⟨AB, 5, none⟩ = some (.int .i64 a.m.service) := Bel.cell (cell_of_row _ _ 5 _ _ _ hhA) lA
          have z6 : ∀ y : Bel wr, y.val.cell? ⟨AB, 6, none⟩ = some (.slice a.m.da a.m.ds.length a.m.dc) := Bel.cell (cell_of_row _ _ 6 _ _ _ hhA) lA
          have z7 : ∀ y : Bel wr, y.val.cell? ⟨AB, 7, none⟩ = some (.string a.m.pay) := Bel.cell (cell_of_row _ _ 7 _ _ _ hhA) lA
          have z8 : ∀ y : Bel wr, y.val.cell? ⟨AB, 8, none⟩ = some (.int .u32 (a.seq : Int)) := Bel.cell (cell_of_row _ _ 8 _ _ _ hhA) lA
          have z9 : ∀ y : Bel wr, y.val.cell? ⟨AB, 9, none⟩ = some (.int .u64 (a.stamp : Int)) := Bel.cell (cell_of_row _ _ 9 _ _ _ hhA) lA
          have zB : ∀ y : Bel wr, y.val.cell? ⟨YB, j, none⟩ = some (.pointer (some ⟨B, 0, none⟩)) := Bel.cell hcB lY
          have zZ : ∀ y : Bel wr, y.val.cell? ⟨B, 1, none⟩ = some (.pointer (some ⟨Z, 0, none⟩)) := Bel.cell htw.cZ htw.lt
          clear hkd hor hFY hFA hFL hhY hhA hhL hE1 hE2 hiC lA lY htw HKj HK
          by_cases k0 : kd = 0
          · have d0 : (kd == 0) = true := by simpa using k0
            go_upto_region 18 with (fail)
            refine wp_region_bel_tail 5 (by kernel_rfl) (by kernel_rfl) ?_
            simp only [List.take_succ_cons, List.take_zero, List.drop_succ_cons, List.drop_zero]
            repeat (go_big_quiet_step ((fail)))
            refine wpQuiet_nil ?_
            intro w3 hw3
            have HC3 := Lib.hid ((HC.out w3 (bel_out hw3)).1 (by rw [← HKD.out]; exact k0))
            clear hw3 z1 z2 z3 z4 z5 z6 z7 z8 z9 zB zZ c0 HC
            go_wp2_with fail
            refine HC3.out.mono ?_
            rintro e w4 ⟨⟨z, rfl⟩, hP⟩
            have HE := Lib.hid hP
            clear hP HC3
            go_wp2_with fail
            exact ⟨⟨j + 1, by omega, by go_num, HE⟩, by simp [intOf]; omega⟩
          · have d0 : (kd == 0) = false := by simpa using k0
            by_cases k1 : kd = 1
            · have d1 : (kd == 1) = true := by simpa using k1
              go_upto_region 20 with (fail)
              refine wp_region_bel_tail 12 (by kernel_rfl) (by kernel_rfl) ?_
              simp only [List.take_succ_cons, List.take_zero, List.drop_succ_cons, List.drop_zero]
              repeat (go_big_quiet_step ((fail)))
              refine wpQuiet_nil ?_
              intro w3 hw3
              have HC3 := Lib.hid ((HC.out w3 (bel_out hw3)).2.1 (by rw [← HKD.out]; exact k1))
              clear hw3 z1 z2 z3 z4 z5 z6 z7 z8 z9 zB zZ c0 HC
              go_wp2_with fail
              refine HC3.out.mono ?_
              rintro e w4 ⟨rfl, hP⟩
              have HE := Lib.hid hP
              clear hP HC3
              go_wp2_with fail
              exact ⟨⟨j + 1, by omega, by go_num, HE⟩, by simp [intOf]; omega⟩
            · have d1 : (kd == 1) = false := by simpa using k1
              by_cases k2 : kd = 2
              · have d2 : (kd == 2) = true := by simpa using k2
                go_upto_region 22 with (fail)
                refine wp_region_bel_tail 10 (by kernel_rfl) (by kernel_rfl) ?_
                simp only [List.take_succ_cons, List.take_zero, List.drop_succ_cons, List.drop_zero]
                repeat (go_big_quiet_step ((fail)))
                refine wpQuiet_nil ?_
                intro w3 hw3
                have HC3 := Lib.hid ((HC.out w3 (bel_out hw3)).2.2.1 (by rw [← HKD.out]; exact k2))
                clear hw3 z1 z2 z3 z4 z5 z6 z7 z8 z9 zB zZ c0 HC
                go_wp2_with fail
                refine HC3.out.mono ?_
                rintro e w4 ⟨rfl, hP⟩
                have HE := Lib.hid hP
                clear hP HC3
                go_wp2_with fail
                exact ⟨⟨j + 1, by omega, by go_num, HE⟩, by simp [intOf]; omega⟩
              · have d2 : (kd == 2) = false := by simpa using k2
                have HC3 := Lib.hid ((HC.out wr (br _)).2.2.2 (by rw [← HKD.out]; exact k0) (by rw [← HKD.out]; exact k1) (by rw [← HKD.out]; exact k2))
                clear z1 z2 z3 z4 z5 z6 z7 z8 z9 zB zZ HC
                go_wp2_with fail
                refine HC3.out.mono ?_
                rintro e w4 ⟨ad4, n4, c4, rfl, ⟨u, cu⟩, fu, hP⟩
                have HE := Lib.hid hP
                clear hP HC3 c0 hcB
                go_wp2_with fail
                exact ⟨⟨j + 1, by omega, by go_num, HE⟩, by simp [intOf]; omega⟩
        · have hbj : decide ((j : Int) < 2) = false := by simp; omega
          obtain ⟨O', T', v0, v1, L0, L1, t1, _, t3, _, t5, t6, t7, t8, t9, t10, t11⟩ := HKj.out.ex
          obtain ⟨hrel2, hcor2⟩ := (t3 (by omega)).rel HI.out.2.2 (t5 (by omega))
          have hiO : InvO (k + 1) O' := (t3 (by omega)).inv HI.out.1 HA.out.2
          have hiT : InvO (k + 1) T' := (t5 (by omega)).inv HI.out.2.1 HA.out.2
          have HP := Lib.hid (show PSt w B1 D1 Z1 B2 D2 Z2 YB AB LB O' v0 v1 L0 L1 (k + 1) wr from ⟨T', t1, hiT, hrel2, t6, t7, t8, t10⟩)
          have HQ := Lib.hid (And.intro hiO hcor2)
          clear t1 t3 t5 t6 t7 t8 t9 t10 t11 hrel2 hcor2 hiO hiT HKj HK HI HA
          clear hj hj2
          go_wp2_with fail
          go_loopw [12] (fun i wr' => ∃ q : Nat, q ≤ 64 ∧ i = .int .i64 (q : Int) ∧ Hid (PSt w B1 D1 Z1 B2 D2 Z2 YB AB LB O' v0 v1 L0 L1 (k + 1) wr')) (fun i _ => 64 - (intOf i).toNat)
          case atStart => exact ⟨0, by omega, rfl, HP⟩
          case round =>
            obtain ⟨q, hq, rfl, HPq⟩ := hrel
            by_cases hq2 : q < 64
            · have hbq : decide ((q : Int) < 64) = true := by simp; omega
              have HC := Lib.hid (HPq.out.trim (by have := HLT.out.2; omega) q)
              clear HPq HP
              go_wp2_with fail
              refine HC.out.mono ?_
              rintro e w6 ⟨rfl, hp⟩
              have HE := Lib.hid hp
              clear hp HC
              go_wp2_with fail
              exact ⟨⟨q + 1, by omega, by go_num, HE⟩, by simp [intOf]; omega⟩
            · have hbq : decide ((q : Int) < 64) = false := by simp; omega
              have HFI := Lib.hid (HPq.out.final HQ.out.1 HQ.out.2 (by have := HLT.out.2; omega))
              clear HPq HP HQ
              obtain ⟨n0, a0, c0, n1, a1, c1, rfl, rfl, y0, y1, hall, ⟨ls, lf, hlast⟩, hrest, hout⟩ := HFI.out
              have HAll := Lib.hid hall
              have HLast := Lib.hid hlast
              have HRest := Lib.hid hrest
              have HOut := Lib.hid hout
              clear hall hlast hrest hout HFI
              go_wp2_with fail
              refine HAll.out.mono ?_
              rintro e w6 ⟨rfl, hb6⟩
              have HB6 := Lib.hid hb6
              clear hb6 HAll y0 y1
              go_wp2_with fail
              refine (HLast.out _ HB6.out).1.mono ?_
              rintro e w7 ⟨rfl, hb7⟩
              have HB7 := Lib.hid (bt HB6.out hb7)
              clear hb7 HB6
              go_wp2_with fail
              refine (HLast.out _ HB7.out).2.mono ?_
              rintro e w8 ⟨rfl, hb8⟩
              have HB8 := Lib.hid (bt HB7.out hb8)
              clear hb8 HB7 HLast
              go_wp2_with fail
              refine (HRest.out _ HB8.out).1.mono ?_
              rintro e w9 ⟨u9, rfl, hr9, hb9⟩
              obtain ⟨M9, m9, p9, o9⟩ := hr9
              obtain ⟨a9, c9, rfl⟩ := ownForm m9
              have HM9 := Lib.hid (And.intro (show MsgsAt w9 (.slice a9 M9.length c9) M9 from (RowsAt.of_own m9).rowsIn.msgsAt (own_len m9) (fun m hm => (o9 m hm).1)) p9)
              have HB9 := Lib.hid (bt HB8.out hb9)
              clear m9 p9 o9 hb9 HB8
              go_wp2_with fail
              refine (HRest.out _ HB9.out).2.mono ?_
              rintro e w10 ⟨u10, rfl, hr10, hb10⟩
              obtain ⟨M10, m10, p10, o10⟩ := hr10
              obtain ⟨a10, c10, rfl⟩ := ownForm m10
              have hall2 := All_any _ _ M9 M10 w10 (HM9.out.1.below hb10) ((RowsAt.of_own m10).rowsIn.msgsAt (own_len m10) (fun m hm => (o10 m hm).1))
              rw [allM_core (by rw [HM9.out.2, p10])] at hall2
              have HAll2 := Lib.hid hall2
              have HB10 := Lib.hid (bt HB9.out hb10)
              clear m10 p10 o10 hb10 HB9 hall2 HM9 HRest
              go_wp2_with fail
              refine HAll2.out.mono ?_
              rintro e w11 ⟨rfl, hb11⟩
              have HE := Lib.hid (HOut.out _ (bt HB10.out hb11))
              clear hb11 HB10 HAll2 HOut
              go_wp2_with fail
              exact ⟨⟨k + 1, by have := HLT.out.1; omega, by go_num, HE⟩, by have := HLT.out.1; simp [intOf]; omega⟩
    · have hbool : decide ((k : Int) < (l.length : Int)) = false := by simpa using hlt
      have hbel : Below w.heap.size w wr := by
        obtain ⟨O, T, h1, _⟩ := HS.out.ex
        exact h1.bel
      have HE := Lib.hid hbel
      clear hbel HS HO
      go_wp2_with fail
      go_ret
      exact ⟨rfl, HE.out⟩
end Go.Proofs.YtgjlcjbmcnofiaaDoor
