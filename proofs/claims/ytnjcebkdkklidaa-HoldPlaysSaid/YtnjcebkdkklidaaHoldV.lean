/-
  What the law's spoil leaves: only the messages' own blocks are written.
  Conditions: none.
-/
import Derived.Test.YtnjcebkdkklidaaHoldA
namespace Go.Proofs.Ytnjcebkdkklidaa
set_option linter.unusedVariables false
set_option linter.unusedSimpArgs false
open Go.RowKit
/-- messages that may be written over -/
structure SpOk (w : World) (ad : Option Addr) (L : List Msg) : Prop where
  row : 0 < L.length → ∃ g cur, ad = some ⟨g, 0, none⟩ ∧ w.heap[g]? = some (.cells cur 37 (0, 0)) ∧ ∀ i (h : i < L.length), cur[i * 6 + 4]? = some (.slice L[i].da L[i].ds.length L[i].dc) ∧ ∃ u, cur[i * 6 + 5]? = some u
  dep : ∀ m ∈ L, 0 < m.ds.length → ∃ b cs, m.da = some ⟨b, 0, none⟩ ∧ w.heap[b]? = some (.cells cs 23 (0, 0)) ∧ ∀ j, j < m.ds.length → ∃ x : Int, cs[j]? = some (.int .u32 x)
/-- the blocks that are written -/
def SpS (ad : Option Addr) (L : List Msg) (b : Nat) : Prop := (∃ o, ad = some ⟨b, o, none⟩) ∨ ∃ m ∈ L, 0 < m.ds.length ∧ ∃ o, m.da = some ⟨b, o, none⟩
theorem SpOk.setDep {w : World} {ad : Option Addr} {L : List Msg} (h : SpOk w ad L) {b j : Nat} {cs : Array Value} (hb : w.heap[b]? = some (.cells cs 23 (0, 0))) (y : Int) : SpOk (w.setCell ⟨b, j, none⟩ (.int .u32 y)) ad L := by
  refine ⟨fun hl => ?_, fun m hm hd => ?_⟩
  · obtain ⟨g, cur, e, h1, h2⟩ := h.row hl
    have hne : g ≠ b := by rintro rfl; rw [hb] at h1; injection h1 with h1; injection h1 with _ h1; exact absurd h1 (by decide)
    exact ⟨g, cur, e, (heap_setCell_other w ⟨b, j, none⟩ g _ hne).trans h1, h2⟩
  · obtain ⟨b', cs', e, h1, h2⟩ := h.dep m hm hd
    by_cases hbb : b' = b
    · subst hbb
      rw [hb] at h1
      injection h1 with h1
      injection h1 with h1
      subst h1
      refine ⟨b', _, e, setCell_block hb j _, fun i hi => ?_⟩
      obtain ⟨x, hx⟩ := h2 i hi
      by_cases hij : j = i
      · subst hij
        exact ⟨y, by rw [Array.getElem?_setIfInBounds_self_of_lt (Array.getElem?_eq_some_iff.1 hx).1]⟩
      · exact ⟨x, by rw [Array.getElem?_setIfInBounds_ne hij]; exact hx⟩
    · exact ⟨b', cs', e, (heap_setCell_other w ⟨b, j, none⟩ b' _ hbb).trans h1, h2⟩
theorem SpOk.setPay {w : World} {g i : Nat} {L : List Msg} (h : SpOk w (some ⟨g, 0, none⟩) L) (u : Value) : SpOk (w.setCell ⟨g, i * 6 + 5, none⟩ u) (some ⟨g, 0, none⟩) L := by
  refine ⟨fun hl => ?_, fun m hm hd => ?_⟩
  · obtain ⟨g', cur, e, h1, h2⟩ := h.row hl
    injection e with e
    injection e with e
    subst e
    refine ⟨g, _, rfl, setCell_block h1 (i * 6 + 5) u, fun j hj => ?_⟩
    obtain ⟨h3, u', h4⟩ := h2 j hj
    refine ⟨by rw [Array.getElem?_setIfInBounds_ne (by omega)]; exact h3, ?_⟩
    by_cases hij : i = j
    · subst hij
      exact ⟨u, by rw [Array.getElem?_setIfInBounds_self_of_lt (Array.getElem?_eq_some_iff.1 h4).1]⟩
    · exact ⟨u', by rw [Array.getElem?_setIfInBounds_ne (by omega)]; exact h4⟩
  · obtain ⟨b', cs', e, h1, h2⟩ := h.dep m hm hd
    have hl : 0 < L.length := List.length_pos_of_mem hm
    obtain ⟨g', cur, e', h3, _⟩ := h.row hl
    injection e' with e'
    injection e' with e'
    subst e'
    have hne : b' ≠ g := by rintro rfl; rw [h1] at h3; injection h3 with h3; injection h3 with _ h3; exact absurd h3 (by decide)
    exact ⟨b', cs', e, (heap_setCell_other w ⟨g, i * 6 + 5, none⟩ b' _ hne).trans h1, h2⟩
theorem SpOk.drewN {w : World} {ad : Option Addr} {L : List Msg} (h : SpOk w ad L) (n : Nat) : SpOk (w.drewN n) ad L := ⟨h.row, h.dep⟩
theorem SpOk.of_own {w : World} {B : Nat} {ad : Option Addr} {cap : Nat} {L : List Msg} (ho : w.ownsRow B 37 6 (.slice ad L.length cap) L.length (rowsM L)) (hf : ∀ m ∈ L, FreshM B w m) : SpOk w ad L := by
  refine ⟨fun hl => ?_, fun m hm hd => ?_⟩
  · rcases ho.2 with ⟨_, h0⟩ | ⟨g, cap', cur, e, _, hh, _, _, _, ht⟩
    · have : L.length = 0 := h0
      omega
    · injection e with e
      refine ⟨g, cur, e, hh, fun i hi => ?_⟩
      have h4 := rowsM_at L i hi 4 (.slice L[i].da L[i].ds.length L[i].dc) rfl
      have h5 := rowsM_at L i hi 5 (.string L[i].pay) rfl
      rw [← ht] at h4 h5
      rw [List.getElem?_take] at h4 h5
      split at h4
      · split at h5
        · exact ⟨by simpa using h4, _, by simpa using h5⟩
        · cases h5
      · cases h4
  · obtain ⟨_, ho⟩ := hf m hm
    rcases ho.2 with ⟨_, h0⟩ | ⟨g, cap', cur, e, _, hh, _, _, _, ht⟩
    · have : m.ds.length = 0 := h0
      omega
    · injection e with e
      refine ⟨g, cur, e, hh, fun j hj => ⟨(m.ds[j] : Int), ?_⟩⟩
      have h4 : (numsM m.ds)[j]? = some (.int .u32 (m.ds[j] : Int)) := by unfold numsM; rw [List.getElem?_map, List.getElem?_eq_getElem hj]; rfl
      rw [← ht, List.getElem?_take] at h4
      split at h4
      · simpa using h4
      · cases h4
set_option maxRecDepth 100000 in
set_option maxHeartbeats 4000000 in
theorem spoil_any (ad : Option Addr) (cap : Nat) (L : List Msg) (w : World) (h : SpOk w ad L) (hl : L.length ≤ 1000000) (hd : ∀ m ∈ L, m.ds.length ≤ 1000000) :
    Calls Try.prog 14 #[.slice ad L.length cap] w fun e w' => e = .returned (.tuple #[]) ∧ Kept (SpS ad L) w w' := by
  have HH := Lib.hid h
  have HD := Lib.hid hd
  clear h hd
  go_enter Try.func14, Try.ntmps14
  go_wp2
  go_loopw [2] (fun i wr => ∃ k : Nat, k ≤ L.length ∧ i = .int .i64 (k : Int) ∧ SpOk wr ad L ∧ Kept (SpS ad L) w wr) (fun i _ => L.length - (intOf i).toNat)
  case atStart => exact ⟨0, by omega, rfl, HH.out, .refl _ _⟩
  case round =>
    obtain ⟨k, hk, rfl, hs, hK⟩ := hrel
    by_cases hlt : k < L.length
    · have hbool : decide (k < L.length) = true := by simpa using hlt
      have hbool' : decide ((k : Int) < (L.length : Int)) = true := by simpa using hlt
      have hki : (k : Int) < (L.length : Int) := by omega
      obtain ⟨g, cur, rfl, _⟩ := hs.row (by omega)
      have hdl := HD.out _ (List.getElem_mem hlt)
      have hmem := List.getElem_mem hlt
      have HRow := Lib.hid (show ∀ w', SpOk w' (some ⟨g, 0, none⟩) L → w'.cell? ⟨g, k * 6 + 4, none⟩ = some (.slice L[k].da L[k].ds.length L[k].dc) ∧ (∃ u, w'.cell? ⟨g, k * 6 + 5, none⟩ = some u) ∧ w'.frozen? ⟨g, k * 6 + 5, none⟩ = false from fun w' h' => by
        obtain ⟨g', cur', e, h1, h2⟩ := h'.row (by omega)
        injection e with e
        injection e with e
        subst e
        obtain ⟨h3, u, h4⟩ := h2 k hlt
        exact ⟨(cell_of_row _ _ _ _ _ _ h1).trans h3, ⟨u, (cell_of_row _ _ _ _ _ _ h1).trans h4⟩, frozen_of_row _ _ _ _ _ h1⟩)
      obtain ⟨x, hx⟩ : ∃ x, x = L[k] := ⟨_, rfl⟩
      rw [← hx] at HRow hdl hmem
      have HX := Lib.hid hmem
      have HS := Lib.hid (And.intro hs hK)
      have HLT := Lib.hid hlt
      clear hs hK hx hmem hlt
      go_wp2_with fail
      obtain ⟨wo, rfl⟩ : ∃ wo : World, wo = wr := ⟨_, rfl⟩
      go_loopw [3] (fun i wr => ∃ j : Nat, j ≤ x.ds.length ∧ i = .int .i64 (j : Int) ∧ SpOk wr (some ⟨g, 0, none⟩) L ∧ Kept (SpS (some ⟨g, 0, none⟩) L) w wr) (fun i _ => x.ds.length - (intOf i).toNat)
      case atStart => exact ⟨0, by omega, rfl, HS.out⟩
      case round =>
        obtain ⟨j, hj, rfl, hs, hK⟩ := hrel
        have c4 := (HRow.out wr hs).1
        by_cases hj2 : j < x.ds.length
        · have hb2 : decide (j < x.ds.length) = true := by simpa using hj2
          have hb2' : decide ((j : Int) < (x.ds.length : Int)) = true := by simpa using hj2
          have hji : (j : Int) < (x.ds.length : Int) := by omega
          obtain ⟨b, cs, eda, hcs, hints⟩ := hs.dep x HX.out (by omega)
          obtain ⟨y, hy⟩ := hints j hj2
          have c5 : wr.cell? ⟨b, j, none⟩ = some (.int .u32 y) := (cell_of_row _ _ _ _ _ _ hcs).trans hy
          have f5 : wr.frozen? ⟨b, j, none⟩ = false := frozen_of_row _ _ _ _ _ hcs
          have HN := Lib.hid (show ∀ (n : Nat) (z : Int), SpOk ((wr.drewN n).setCell ⟨b, j, none⟩ (.int .u32 z)) (some ⟨g, 0, none⟩) L ∧ Kept (SpS (some ⟨g, 0, none⟩) L) w ((wr.drewN n).setCell ⟨b, j, none⟩ (.int .u32 z)) from fun n z =>
            ⟨(hs.drewN n).setDep (b := b) (j := j) (cs := cs) hcs z, (hK.drewN n).setCell (p := ⟨b, j, none⟩) (.inr ⟨x, HX.out, by omega, 0, eda⟩) _⟩)
          rw [eda] at c4
          have HJ := Lib.hid hj2
          generalize x.ds.length = n at *
          clear hs hK eda hcs hints hy hj2
          go_wp2_with fail
          refine wp_region_drew_tail 15 (by kernel_rfl) (by kernel_rfl) ?_
          simp only [List.take_succ_cons, List.take_zero, List.drop_succ_cons, List.drop_zero]
          repeat (go_big_quiet_step ((fail)))
          refine wpQuiet_nil ?_
          intro w5 hw5
          obtain ⟨nq, rfl⟩ := hw5
          go_wp2
          exact ⟨⟨j + 1, HJ.out, by go_num, HN.out _ _⟩, measI HJ.out⟩
        · have hb2 : decide (j < x.ds.length) = false := by simpa using hj2
          have hb2' : decide ((j : Int) < (x.ds.length : Int)) = false := by simpa using hj2
          obtain ⟨_, ⟨u, c5⟩, f5⟩ := HRow.out wr hs
          have HN := Lib.hid (And.intro (hs.setPay (i := k) (.string ⟨#[115, 112, 111, 105, 108, 116]⟩)) (hK.setCell (p := ⟨g, k * 6 + 5, none⟩) (.inl ⟨0, rfl⟩) (.string ⟨#[115, 112, 111, 105, 108, 116]⟩)))
          clear hs hK
          go_wp2
          exact ⟨⟨k + 1, HLT.out, by go_num, HN.out⟩, measI HLT.out⟩
    · have hbool : decide (k < L.length) = false := by simpa using hlt
      have hbool' : decide ((k : Int) < (L.length : Int)) = false := by simpa using hlt
      have HK := Lib.hid hK
      clear hs hK
      go_wp2
      refine bodyPost_end (results_none rfl _ _ _) rfl ⟨rfl, HK.out⟩
end Go.Proofs.Ytnjcebkdkklidaa
