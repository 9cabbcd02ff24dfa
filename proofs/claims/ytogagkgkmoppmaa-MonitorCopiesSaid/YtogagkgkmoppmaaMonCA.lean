/-
  What maps.Clone and slices.Clone return; a stay's copy.
  Conditions: those that each theorem names.
-/
import Derived.Test.YtogagkgkmoppmaaMonT
import Derived.Shelf.SlMaps.Clone
import Derived.Laws.Externs
namespace Go.Proofs.Ytogagkgkmoppmaa
set_option linter.unusedVariables false
set_option linter.unusedSimpArgs false
open Go.RowKit GM
theorem gmap_copy {α : Type} [DecidableEq α] {f : α → Value} {w : World} {b : Nat} {L : List (α × Value)} (h : GMap f w b L) : ∃ es clock, w.heap[b]? = some (.map es clock) ∧ GMap f (w.alloc (.map es clock)) w.heap.size L := by
  obtain ⟨h0, es, clock, h1, h2, h3⟩ := h
  exact ⟨es, clock, h1, h0, es, clock, heap_alloc_new _ _, h2, h3⟩
set_option maxRecDepth 100000 in
set_option maxHeartbeats 2000000 in
theorem clone_had {α : Type} [DecidableEq α] (f : α → Value) (b : Nat) (L : List (α × Value)) (w : World) (h : GMap f w b L) :
    Calls Try.prog 21 #[.map (some b)] w fun e w' => e = .returned (.map (some w.heap.size)) ∧ GMap f w' w.heap.size L ∧ Below w.heap.size w w' := by
  obtain ⟨es, clock, hb, hc⟩ := gmap_copy h
  have hq := fun w => Go.Proofs.run_eql_map_nil_sl (P := Try.prog) w 46 _ _ (some b) Try.underlying46
  go_enter Try.func21, Try.ntmps21
  go_wp2
  rw [run_callFunc_extern Try.func39 (by kernel_rfl) (by kernel_rfl) (by kernel_rfl) (e := Extern.MapsClone.clone) (by kernel_rfl), Go.Proofs.run_maps_clone_sl w 46 hb]
  simp only [Result.andThen]
  rw [Oper.upon_value]
  go_wp2
  rw [Go.Proofs.run_typeAssert_map_sl _ 46 20 _ _ _ Try.underlying46]
  simp only [Result.andThen]
  rw [Oper.upon_value]
  go_wp2
  go_ret
  exact ⟨rfl, hc, ba (br _) _⟩
set_option maxRecDepth 100000 in
set_option maxHeartbeats 2000000 in
theorem clone_conf {α : Type} [DecidableEq α] (f : α → Value) (b : Nat) (L : List (α × Value)) (w : World) (h : GMap f w b L) :
    Calls Try.prog 22 #[.map (some b)] w fun e w' => e = .returned (.map (some w.heap.size)) ∧ GMap f w' w.heap.size L ∧ Below w.heap.size w w' := by
  obtain ⟨es, clock, hb, hc⟩ := gmap_copy h
  have hq := fun w => Go.Proofs.run_eql_map_nil_sl (P := Try.prog) w 47 _ _ (some b) Try.underlying47
  go_enter Try.func22, Try.ntmps22
  go_wp2
  rw [run_callFunc_extern Try.func39 (by kernel_rfl) (by kernel_rfl) (by kernel_rfl) (e := Extern.MapsClone.clone) (by kernel_rfl), Go.Proofs.run_maps_clone_sl w 47 hb]
  simp only [Result.andThen]
  rw [Oper.upon_value]
  go_wp2
  rw [Go.Proofs.run_typeAssert_map_sl _ 47 20 _ _ _ Try.underlying47]
  simp only [Result.andThen]
  rw [Oper.upon_value]
  go_wp2
  go_ret
  exact ⟨rfl, hc, ba (br _) _⟩
set_option maxRecDepth 100000 in
set_option maxHeartbeats 2000000 in
theorem clone_bool {α : Type} [DecidableEq α] (f : α → Value) (b : Nat) (L : List (α × Value)) (w : World) (h : GMap f w b L) :
    Calls Try.prog 23 #[.map (some b)] w fun e w' => e = .returned (.map (some w.heap.size)) ∧ GMap f w' w.heap.size L ∧ Below w.heap.size w w' := by
  obtain ⟨es, clock, hb, hc⟩ := gmap_copy h
  have hq := fun w => Go.Proofs.run_eql_map_nil_sl (P := Try.prog) w 51 _ _ (some b) Try.underlying51
  go_enter Try.func23, Try.ntmps23
  go_wp2
  rw [run_callFunc_extern Try.func39 (by kernel_rfl) (by kernel_rfl) (by kernel_rfl) (e := Extern.MapsClone.clone) (by kernel_rfl), Go.Proofs.run_maps_clone_sl w 51 hb]
  simp only [Result.andThen]
  rw [Oper.upon_value]
  go_wp2
  rw [Go.Proofs.run_typeAssert_map_sl _ 51 20 _ _ _ Try.underlying51]
  simp only [Result.andThen]
  rw [Oper.upon_value]
  go_wp2
  go_ret
  exact ⟨rfl, hc, ba (br _) _⟩
set_option maxRecDepth 100000 in
set_option maxHeartbeats 2000000 in
theorem clone_int {α : Type} [DecidableEq α] (f : α → Value) (b : Nat) (L : List (α × Value)) (w : World) (h : GMap f w b L) :
    Calls Try.prog 40 #[.map (some b)] w fun e w' => e = .returned (.map (some w.heap.size)) ∧ GMap f w' w.heap.size L ∧ Below w.heap.size w w' := by
  obtain ⟨es, clock, hb, hc⟩ := gmap_copy h
  have hq := fun w => Go.Proofs.run_eql_map_nil_sl (P := Try.prog) w 63 _ _ (some b) Try.underlying63
  go_enter Try.func40, Try.ntmps40
  go_wp2
  rw [run_callFunc_extern Try.func39 (by kernel_rfl) (by kernel_rfl) (by kernel_rfl) (e := Extern.MapsClone.clone) (by kernel_rfl), Go.Proofs.run_maps_clone_sl w 63 hb]
  simp only [Result.andThen]
  rw [Oper.upon_value]
  go_wp2
  rw [Go.Proofs.run_typeAssert_map_sl _ 63 20 _ _ _ Try.underlying63]
  simp only [Result.andThen]
  rw [Oper.upon_value]
  go_wp2
  go_ret
  exact ⟨rfl, hc, ba (br _) _⟩
/-- a copy of a row of messages -/
def CloneR (w : World) (r : SR) (e : Ending) (w' : World) : Prop := ∃ r' : SR, e = .returned (slV r') ∧ r'.l = r.l ∧ RowOk w' r' ∧ (∀ b, (rowPc r').blk = some b → w.heap.size ≤ b) ∧ Below w.heap.size w w'
set_option maxRecDepth 100000 in
set_option maxHeartbeats 2000000 in
theorem rowClone_any (r : SR) (w : World) (h : RowOk w r) (hl : r.l.length ≤ 10000) : Calls Try.prog 24 #[slV r] w (CloneR w r) := by
  obtain ⟨i0, hi, hz0, hz1, hz2⟩ := info_parts info34
  have HH := Lib.hid h
  rcases h.1.2 with ⟨hv, hn⟩ | ⟨g, cap, cur, hv, _, hg, _⟩
  · have hnil : ∀ W : World, (Go.binOp .eql 61 (.slice none 0 0) (.slice none 0 0)).run Try.prog W = .ok (.bool true) W := fun W => Lib.run_eql_slice_nil W 61 34 none 0 0 0 0 Try.underlying61
    have hr0 : r.l = [] := List.eq_nil_of_length_eq_zero hn
    have HE := Lib.hid (show CloneR w r (.returned (.slice none 0 0)) w from ⟨noRow, rfl, hr0.symm, noRow_ok w, fun b e => (by cases e), br w⟩)
    rw [hv]
    clear h hv hn hr0
    go_enter Try.func24, Try.ntmps24
    go_wp2
    go_ret
    exact HE.out
  · have hb := ba (br w) (.cells #[] 34)
    have own1 := ownNil w w.heap.size 34 6 (Nat.le_refl _)
    have hv' : slV r = .slice (some ⟨g, 0, none⟩) r.l.length cap := hv
    have e1 : r.ad = some ⟨g, 0, none⟩ := by unfold slV at hv'; injection hv'
    have hrd : Reads w w.heap.size 6 r.ad r.l.length (rowsM r.l) := by
      have := Reads.of_own (show w.ownsRow 0 34 6 (.slice r.ad r.l.length r.cap) r.l.length (rowsM r.l) from h.1)
      exact ⟨this.1, fun hn => by
        obtain ⟨p, e, hp, hc⟩ := this.2 hn
        refine ⟨p, e, ?_, hc⟩
        have e3 : p = ⟨g, 0, none⟩ := Option.some.inj (e.symm.trans e1)
        rw [e3]
        exact (Array.getElem?_eq_some_iff.1 hg).1⟩
    have HR := Lib.hid (hrd.below hb)
    have H1 := Lib.hid (And.intro own1 hb)
    have hone := rowsM_one r.l
    have hnil : ∀ W : World, (Go.binOp .eql 61 (.slice (some ⟨g, 0, none⟩) r.l.length r.cap) (.slice none 0 0)).run Try.prog W = .ok (.bool false) W := fun W => Lib.run_eql_slice_nil W 61 34 (some ⟨g, 0, none⟩) r.l.length r.cap 0 0 Try.underlying61
    unfold slV
    rw [e1] at HR ⊢
    clear h own1 hb hv hv' hg hrd e1
    go_enter Try.func24, Try.ntmps24
    go_wp2_with (at_builtin; refine wpList_append_any _ rfl (.tmp 5) (.tmp 6) 61 rfl w.heap.size 34 i0 _ 6 72 Try.underlying61 hi hz0 hz1 hz2 rfl (by decide) _ 0 [] rfl H1.out.1 _ _ r.l.length _ (rowsM r.l) rfl HR.out hone ?c3 ?c4 ?c5 ?_)
    case c3 => unfold maxLen; omega
    case c4 => omega
    case c5 => simp
    intro v6 w6 ho6 hg6 hu6
    have hb6 := grownB H1.out.2 H1.out.2.size hg6 (fun b hb => (H1.out.1.lt b hb).1)
    obtain ⟨a6, c6, rfl⟩ := ownForm ho6
    have HE := Lib.hid (show CloneR w r (.returned (.slice a6 r.l.length c6)) w6 from ⟨⟨r.l, a6, c6⟩, rfl, rfl, ⟨ownMore ho6 (Nat.zero_le _), fun m hm => (HH.out.2 m hm).below hb6⟩, fun b e => (ho6.lt b e).1, hb6⟩)
    clear ho6 hg6 hu6 hb6 HR H1 hone
    go_wp2
    go_ret
    exact HE.out
end Go.Proofs.Ytogagkgkmoppmaa
