/-
  The law KeySorts, ready for its row.
  Conditions: none.
-/
import Derived.Test.YtodlmboagbjcbaaSortI
import Derived.Test.YtodlmboagbjcbaaMsgC
import Derived.Test.YtodlmboagbjcbaaKeyE
namespace Go.Proofs.Ytodlmboagbjcbaa
set_option linter.unusedVariables false
set_option linter.unusedSimpArgs false
open Go.RowKit Go.ChangeShapes Go.WideShapes Go.Deep
theorem mem_sortM {l : List Msg} {m : Msg} : m ∈ sortM l ↔ m ∈ l := (sortM_same l).mem.symm
theorem MsgsAt.ok {w : World} {v : Value} {l : List Msg} (h : MsgsAt w v l) : ∀ m ∈ l, MsgOk w m := by
  obtain ⟨ad, cap, e, hl, h⟩ := h
  intro m hm
  obtain ⟨i, hi, rfl⟩ := List.mem_iff_getElem.1 hm
  obtain ⟨_, _, _, _, _, h1⟩ := h i hi
  exact h1
def SortEndM (w : World) (l : List Msg) (e : Ending) (w' : World) : Prop := ∃ v, e = .returned v ∧ MsgsAt w' v (sortM l)
theorem kSort_msgs (v : Value) (l : List Msg) (w : World) (h : MsgsAt w v l) (hl : l.length ≤ 1000) : Calls Try.prog 27 #[v] w fun e w' => SortEndM w l e w' ∧ Below w.heap.size w w' :=
  (kSort_gen v l w h.rowsIn hl).mono fun e w' ⟨⟨u, he, hr, _⟩, hb⟩ => ⟨⟨u, he, hr.rowsIn.msgsAt (by rw [sortM_len]; omega) fun m hm => (h.ok m (mem_sortM.1 hm)).below hb⟩, hb⟩
theorem rSort_msgs (v : Value) (l : List Msg) (w : World) (h : MsgsAt w v l) (hl : l.length ≤ 1000) : Calls Try.prog 28 #[v] w fun e w' => SortEndM w l e w' ∧ Below w.heap.size w w' :=
  (rSort_any v l w h.rowsIn hl).mono fun e w' ⟨⟨u, he, ho⟩, hb⟩ => ⟨⟨u, he, (RowsAt.of_own ho).rowsIn.msgsAt (by rw [sortM_len]; omega) fun m hm => (h.ok m (mem_sortM.1 hm)).below hb⟩, hb⟩
set_option maxRecDepth 100000 in
set_option maxHeartbeats 2000000 in
theorem law_keySorts (v : Value) (l : List Msg) (w : World) (h : MsgsAt w v l) :
    Calls Try.prog 7 #[v] w fun e w' => e = .returned (.bool true) ∧ Below w.heap.size w w' := by
  have HH := Lib.hid h
  have HAw := Lib.hid (awake03_any w)
  obtain ⟨i0, hi, hz0, hz1, hz2⟩ := info_parts info37
  obtain ⟨ad, cap, rfl, hz⟩ := id h
  clear h hz
  go_enter Try.func7, Try.ntmps7
  go_wp2_with fail
  refine HAw.out.mono ?_
  rintro e w1 ⟨rfl, hb1⟩
  have HF := Lib.hid (Few_any _ l w1 (HH.out.below hb1))
  have HB1 := Lib.hid hb1
  clear HAw hb1
  go_wp2_with fail
  refine HF.out.mono ?_
  rintro e w2 ⟨⟨f, rfl, hf⟩, hb2⟩
  have HF2 := Lib.hid (And.intro hf (bt HB1.out hb2))
  clear HF hf hb2
  cases f
  · go_wp2
    go_ret
    exact ⟨rfl, HF2.out.2⟩
  · have hl : l.length ≤ 300 := (HF2.out.1 rfl).1
    have own1 := ownNil w2 w2.heap.size 37 6 (Nat.le_refl _)
    have H2 := Lib.hid (And.intro own1 (((HH.out.rowsIn).below HF2.out.2)))
    clear own1
    go_wp2_with (at_builtin; refine wpList_append_any _ rfl (.tmp 9) (.tmp 10) 22 rfl w2.heap.size 37 i0 _ 6 72 Try.underlying22 hi hz0 hz1 hz2 rfl (by decide) _ 0 [] rfl H2.out.1 w2.heap.size _ l.length _ (rowsM l) rfl ?c2 (rowsM_one _) ?c3 ?c4 ?c5 ?_)
    case c2 =>
      obtain ⟨ad', cap', e, hr⟩ := H2.out.2
      injection e with e1 e2 e3
      subst e1
      exact hr.below (ba (br w2) _)
    case c3 => unfold maxLen; omega
    case c4 => omega
    case c5 => simp
    intro v3 w3 ho3 hg3 hu3
    have hb23 := grownB (ba (br w2) _) (ba (br w2) _).size hg3 (fun b hb => (H2.out.1.lt b hb).1)
    have hb3 := bt HF2.out.2 hb23
    have hm3 := (RowsAt.of_own ho3).rowsIn.msgsAt (by omega) fun m hm => (HH.out.ok m hm).below hb3
    have HS := Lib.hid (kSort_msgs v3 l w3 hm3 (by omega))
    have H3 := Lib.hid (And.intro hm3 hb3)
    clear H2 ho3 hg3 hu3 hb23 hb3 hm3 HF2
    go_wp2_with fail
    refine HS.out.mono ?_
    rintro e w4 ⟨⟨v4, rfl, hm4⟩, hb4⟩
    have hb4w := bt H3.out.2 hb4
    have HS4 := Lib.hid (rSort_msgs _ l w4 (HH.out.below hb4w) (by omega))
    have H4 := Lib.hid (And.intro hm4 (And.intro (H3.out.1.below hb4) hb4w))
    clear hm4 hb4 hb4w HS
    go_wp2_with fail
    refine HS4.out.mono ?_
    rintro e w5 ⟨⟨v5, rfl, hm5⟩, hb5⟩
    have hb5w := bt H4.out.2.2 hb5
    have HA5 := Lib.hid (All_any v4 v5 _ _ w5 (H4.out.1.below hb5) hm5)
    have H5 := Lib.hid (And.intro (H4.out.2.1.below hb5) hb5w)
    rw [allM_self] at HA5
    clear hm5 hb5 hb5w HS4
    go_wp2_with fail
    refine HA5.out.mono ?_
    rintro e w6 ⟨rfl, hb6⟩
    have hb6w := bt H5.out.2 hb6
    have HA6 := Lib.hid (All_any v3 _ l l w6 (H5.out.1.below hb6) (HH.out.below hb6w))
    have H6 := Lib.hid hb6w
    rw [allM_self] at HA6
    clear hb6 hb6w HA5
    go_wp2_with fail
    refine HA6.out.mono ?_
    rintro e w7 ⟨rfl, hb7⟩
    have hb7w := bt H6.out hb7
    go_wp2
    go_ret
    exact ⟨rfl, hb7w⟩
theorem row_keySorts {H : Type} {enc : TypeId × Value → H} {r : Reach} {b0 base : Nat} {spare : Nat → Bool} {held : Bool} {d : DataW H} {p : List MemPlace} (v : Value) (W : World)
    (hv : Value.okWide Try.prog W r b0 22 v) (h : DataW.Trod enc Try.prog W base spare held 22 v d p) :
    Calls Try.prog 7 #[v] W fun e w' => e = .returned (.bool true) ∧ Below W.heap.size W w' := by
  obtain ⟨l, hl⟩ := msgs_arg hv h
  exact law_keySorts v l W hl
end Go.Proofs.Ytodlmboagbjcbaa
