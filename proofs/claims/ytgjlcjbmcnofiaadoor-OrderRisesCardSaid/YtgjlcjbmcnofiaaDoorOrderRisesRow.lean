/-
  'Rows.OrderRisesCardSaid': for every input the law returns true, and each argument reads behind the call as it did.
  Conditions: none (the listed table is tied to the program's text).
-/
import Derived.Test.YtgjlcjbmcnofiaaDoorRows
import Derived.Test.YtgjlcjbmcnofiaaDoorCards
import Derived.Test.YtgjlcjbmcnofiaaDoorTie
import Derived.SevenTiedAt
import Derived.Test.YtgjlcjbmcnofiaaDoorRow
import Derived.Test.YtgjlcjbmcnofiaaDoorOrdV
namespace Go.Proofs.YtgjlcjbmcnofiaaDoor.orderRises
open Go.ChangeShapes Go.WideShapes Go.ChangeAt Go.RowKit
open Go.ChangeMaps (open_string shut_string)
set_option linter.unusedVariables false
theorem own : ownKnob Tryd.prog.godebug = none := by kernel_rfl
set_option maxRecDepth 100000 in
theorem lifted (os : Os) (started : os.Started) (H : Type) (enc : TypeId × Value → H) :
    ReturnsInHanded {} Tryd.checked os 4 .any (fun w args => (Rows.orderRisesSpec.pre enc Tryd.prog Tryd.f4 [] false w args ∧ laidMetH Tryd.prog laidB w) ∧ sizedMet enc Tryd.prog Tryd.f4 (OpenSpec.ofChange Rows.orderRisesSpec) false w args) (Rows.orderRisesSpec.post enc Tryd.prog Tryd.f4 false true false false) := by
  refine returnsInHanded_of_change_and (C := Tryd.checked) (X := fun w _ => laidMetH Tryd.prog laidB w) (fun _ _ _ hh h => h.of_heap hh) own started (by kernel_rfl) Tryd.func4
    (ChangeSpec.witness_shaped (enc := enc) (C := Tryd.checked) (os := os) (X := fun w _ => laidMetH Tryd.prog laidB w) false (World.doorLaid Tryd.prog 400 os) #[.slice none 0 0, .slice none 0 0, .slice none 0 0] 8 rfl (World.shaped_of_RefB (by kernel_rfl) (by kernel_rfl)) (by kernel_rfl) (by kernel_rfl) (by kernel_rfl) (door_met os _)) ?_
  intro W base args ds gs before hval0 hW _ _ hL _
  have hval : ∀ (j : Nat) t v, Tryd.f4.params[j]? = some t → args[j]? = some v → Value.okWide Tryd.prog W .any base t v := hval0
  have hW0 := hW
  obtain ⟨p, q, hA0, hV, hbef, hfz, hnd⟩ := hW
  have hA : DataW.TrodAll enc Tryd.prog W 0 (fun _ => true) true Tryd.f4.params.toList args.toList ds p := hA0
  rw [Tryd.params4] at hA hval
  obtain ⟨v0, vs0, d0, ds0, p0, q0, hargs, rfl, rfl, h0, r0⟩ := trodAll_cons hA
  obtain ⟨v1, vs1, d1, ds1, p1, q1, rfl, rfl, rfl, h1, r1⟩ := trodAll_cons r0
  obtain ⟨v2, vs2, d2, ds2, p2, q2, rfl, rfl, rfl, h2, r2⟩ := trodAll_cons r1
  obtain ⟨rfl, rfl, rfl⟩ := trodAll_nil r2
  obtain rfl : args = #[v0, v1, v2] := by cases args; simp_all
  obtain ⟨rfl, rfl⟩ := trodVars_none hV
  have fin : ∀ (e : Ending) W', (e = .returned (.bool true) ∧ Below W.heap.size W W') → ∃ v, e = .returned v ∧ Rows.orderRisesSpec.post enc Tryd.prog Tryd.f4 false true false false W #[v0, v1, v2] v W' := by
    rintro e W' ⟨rfl, hb⟩
    exact ⟨_, rfl, law_post (by kernel_rfl) (by intro t ht; rw [Tryd.params4] at ht; simp only [List.mem_cons, List.not_mem_nil, or_false] at ht; rcases ht with rfl | rfl | rfl <;> exact ⟨by kernel_rfl, of_decide_eq_true (by kernel_rfl)⟩) hW0 rfl (by kernel_rfl) Tryd.underlying4 rfl rfl rfl hb⟩
  clear hA0 hval0 hW0

  exact (orderRises_row v0 v1 v2 W (hval 0 22 v0 rfl rfl) h0 (hval 1 23 v1 rfl rfl) h1 (hval 2 23 v2 rfl rfl) h2 hL).mono fin
theorem over : Rows.orderRisesRow.holds Tryd.pinned (OpenSpec.ofChange Rows.orderRisesSpec) :=
  OpenClaim.holds_of_wide 4 Tryd.f4 rfl rfl rfl rfl rfl rfl rfl ⟨rfl, rfl, rfl, rfl, rfl⟩ rfl rfl rfl rfl rfl (by kernel_rfl) Tryd.func4 (by kernel_rfl)
    (of_decide_eq_true (by kernel_rfl)) (by unfold Func.isWrapper; first | (rw [if_pos (by decide +kernel)]; kernel_rfl) | (rw [if_neg (by decide +kernel)]; exact ⟨rfl, rfl⟩))
    (fun os started H enc _ => lifted os started H enc)
theorem card_holds : Rows.OrderRisesCardSaid :=
  Claim7.holds_tied_plain_at .later [] [.data] true (true, "8a2b97c73407d68810801817b31e3284a4048cf8d521cab70090c1e89049453b") false
    over (fun _ h => by cases h) (by kernel_rfl) (fun _ h => by cases h) orderRises_row_tie rfl ⟨rfl, rfl⟩ (by kernel_rfl) rfl
    (fun f fn hf hfn => by
      obtain rfl : f = 4 := Option.some.inj ((show Tryd.prog.funcNamed "consort/consortlaw14.OrderRises" = some 4 by kernel_rfl).symm.trans hf) |>.symm
      obtain rfl : fn = Tryd.f4 := (Option.some.inj (Tryd.func4.symm.trans hfn)).symm
      exact ⟨by kernel_rfl, fun j t ht => by
        rw [Tryd.params4] at ht
        have hm : t ∈ [22, 23, 23] := by simpa using Array.mem_of_getElem? ht
        have hall : ([22, 23, 23].all fun u => !Tryd.prog.wantsStandIn u) = true := by kernel_rfl
        exact (show Tryd.prog.wantsStandIn t = false by simpa using List.all_eq_true.1 hall t hm)⟩)
    (by kernel_rfl)
theorem proved : Rows.OrderRisesCardSaid := card_holds
#print axioms proved
end Go.Proofs.YtgjlcjbmcnofiaaDoor.orderRises
