/-
  A copy of numbers.
  Conditions: none.
-/
import Derived.Test.YtogagkgkmoppmaaMonT
namespace Go.Proofs.Ytogagkgkmoppmaa
set_option linter.unusedVariables false
set_option linter.unusedSimpArgs false
open Go.RowKit
theorem info31 : (Try.prog.info? 31).map (fun i => (i.zero, i.size, i.bytes)) = some (some (.int .u32 0), 1, 4) := by kernel_rfl
def Clone32 (w : World) (ds : List Nat) (e : Ending) (w' : World) : Prop := ∃ ad cap, e = .returned (.slice ad ds.length cap) ∧ w'.ownsRow w.heap.size 31 1 (.slice ad ds.length cap) ds.length (numsM ds)
set_option maxRecDepth 100000 in
set_option maxHeartbeats 2000000 in
theorem clone32_any (ad : Option Addr) (ds : List Nat) (cap : Nat) (w : World) (h : Reads w w.heap.size 1 ad ds.length (numsM ds)) (hl : ds.length ≤ 35184372087808) : Calls Try.prog 15 #[.slice ad ds.length cap] w fun e w' => Clone32 w ds e w' ∧ Below w.heap.size w w' := by
  obtain ⟨i0, hi, hz0, hz1, hz2⟩ := info_parts info31
  rcases ad with _ | p
  · have h0 : ds.length = 0 := by
      rcases Nat.eq_zero_or_pos ds.length with h0 | h0
      · exact h0
      · obtain ⟨_, e, _⟩ := h.2 h0; cases e
    have : ds = [] := List.eq_nil_of_length_eq_zero h0
    subst this
    have hnil : ∀ W : World, (Go.binOp .eql 32 (.slice none 0 cap) (.slice none 0 0)).run Try.prog W = .ok (.bool true) W := fun W => Lib.run_eql_slice_nil W 32 31 none 0 cap 0 0 Try.underlying32
    have HO := Lib.hid (show Clone32 w [] (.returned (.slice none 0 0)) w from ⟨_, _, rfl, rfl, .inl ⟨rfl, rfl⟩⟩)
    clear h h0 hl
    go_enter Try.func15, Try.ntmps15
    go_wp2
    go_ret
    exact ⟨HO.out, br _⟩
  · have hb := ba (br w) (.cells #[] 31)
    have own1 := ownNil w w.heap.size 31 1 (Nat.le_refl _)
    have HR := Lib.hid (h.below hb)
    have H1 := Lib.hid (And.intro own1 hb)
    have hnil : ∀ W : World, (Go.binOp .eql 32 (.slice (some p) ds.length cap) (.slice none 0 0)).run Try.prog W = .ok (.bool false) W := fun W => Lib.run_eql_slice_nil W 32 31 (some p) ds.length cap 0 0 Try.underlying32
    clear h own1 hb
    go_enter Try.func15, Try.ntmps15
    go_wp2_with (at_builtin; refine wpList_append_any _ rfl (.tmp 5) (.tmp 6) 32 rfl w.heap.size 31 i0 _ 1 4 Try.underlying32 hi hz0 hz1 hz2 rfl (by decide) _ 0 [] rfl H1.out.1 w.heap.size _ ds.length _ (numsM ds) rfl HR.out (numsM_one _) ?c3 ?c4 ?c5 ?_)
    case c3 => unfold maxLen; omega
    case c4 => omega
    case c5 => simp
    intro v6 w6 ho6 hg6 hu6
    have hb6 := grownB H1.out.2 H1.out.2.size hg6 (fun b hb => (H1.out.1.lt b hb).1)
    obtain ⟨a6, c6, rfl⟩ := ownForm ho6
    have HO := Lib.hid (show Clone32 w ds (.returned (.slice a6 ds.length c6)) w6 from ⟨a6, c6, rfl, ho6⟩)
    clear ho6 hg6 hu6
    go_wp2
    go_ret
    exact ⟨HO.out, hb6⟩
end Go.Proofs.Ytogagkgkmoppmaa
