/-
  The reference's stream: its New, Lacks, find.
  Conditions: none.
-/
import Derived.Test.YtodlmboagbjcbaaStreamC
import Derived.Test.YtodlmboagbjcbaaStreamN
import Derived.Test.YtodlmboagbjcbaaStreamU
import Derived.Test.YtodlmboagbjcbaaBuild
import Derived.Test.YtodlmboagbjcbaaMaskB
namespace Go.Proofs.Ytodlmboagbjcbaa
set_option linter.unusedVariables false
open Go.RowKit IM
/-- a slice of messages, read alone -/
def RowsAt (w : World) (v : Value) (J : List Msg) : Prop := ∃ ad cap, v = .slice ad J.length cap ∧ J.length ≤ cap ∧ cap ≤ 9223372036854775807 ∧ Reads w w.heap.size 6 ad J.length (rowsM J)
theorem RowsAt.below {w w' : World} {v : Value} {J : List Msg} (h : RowsAt w v J) (hb : Below w.heap.size w w') : RowsAt w' v J := by
  obtain ⟨ad, cap, e, h1, h2, h3⟩ := h
  exact ⟨ad, cap, e, h1, h2, (h3.below hb).more hb.size⟩
theorem RowsAt.nil (w : World) : RowsAt w (.slice none 0 0) [] := ⟨none, 0, rfl, by simp, by omega, Reads.none_⟩
theorem RowsAt.of_own {w : World} {base : Nat} {v : Value} {J : List Msg} (h : w.ownsRow base 37 6 v J.length (rowsM J)) : RowsAt w v J := by
  rcases h.2 with ⟨rfl, h0⟩ | ⟨g, cap, cur, rfl, _, _, h1, h2, _⟩
  · have : J = [] := List.eq_nil_of_length_eq_zero h0
    subst this
    exact RowsAt.nil w
  · exact ⟨_, cap, rfl, h1, by unfold maxLen at h2; exact h2, Reads.of_own h⟩
theorem RowsAt.msg {w : World} {v : Value} {J : List Msg} (h : RowsAt w v J) {j : Nat} (hj : j < J.length) : ∃ cap g o, v = .slice (some ⟨g, o, none⟩) J.length cap ∧ g < w.heap.size ∧ w.rangeAt g (o + j * 6) (msgA J[j]).toList := by
  obtain ⟨ad, cap, rfl, _, _, hr⟩ := h
  obtain ⟨⟨g, o, sp⟩, rfl, hb, hc⟩ := hr.2 (by omega)
  have h0 := hc 0 _ (rowsM_at J 0 (by omega) 0 _ rfl)
  have hsp : sp = none := by
    have := World.cell?_spot h0
    simpa [Addr.add] using this
  subst hsp
  refine ⟨cap, g, o, rfl, hb, fun i u hu => ?_⟩
  have := hc (j * 6 + i) u (rowsM_at J j hj i u hu)
  rw [← this]
  congr 1
  unfold Addr.add
  split <;> simp_all <;> omega
def findJ (J : List Msg) (q : Nat) : Int := match J.findIdx? (fun x => x.seq == q) with | some i => (i : Int) | none => -1
theorem findJ_at {J : List Msg} {q k : Nat} (hk : k < J.length) (hm : J[k].seq = q) (hn : ∀ i (h : i < J.length), i < k → J[i].seq ≠ q) : findJ J q = (k : Int) := by
  unfold findJ
  rw [show J.findIdx? (fun x => x.seq == q) = some k from List.findIdx?_eq_some_iff_getElem.2 ⟨hk, by simpa using hm, fun i hi => by simpa using hn i (by omega) hi⟩]
theorem findJ_none {J : List Msg} {q : Nat} (hn : ∀ i (h : i < J.length), J[i].seq ≠ q) : findJ J q = -1 := by
  unfold findJ
  rw [show J.findIdx? (fun x => x.seq == q) = none from List.findIdx?_eq_none_iff.2 (fun x hx => by
    obtain ⟨i, hi, rfl⟩ := List.mem_iff_getElem.1 hx
    simpa using hn i hi)]
set_option maxRecDepth 100000 in
set_option maxHeartbeats 2000000 in
theorem refFindS_any (z : Int) (c q : Nat) (v : Value) (J : List Msg) (w : World) (h : RowsAt w v J) (hJ : J.length ≤ 1000) :
    Calls Try.prog 40 #[.agg #[.int .i64 z, .int .u32 (c : Int), v], .int .u32 (q : Int)] w fun e w' => e = .returned (.int .i64 (findJ J q)) ∧ Below w.heap.size w w' := by
  have hx := heap_alloc_new w (.cells #[.int .i64 z, .int .u32 (c : Int), v] 29)
  have hb := ba (br w) (.cells #[.int .i64 z, .int .u32 (c : Int), v] 29)
  have hr := h.below hb
  obtain ⟨ad, cap, rfl, _⟩ := id h
  clear h
  go_enter Try.func40, Try.ntmps40
  go_wp2
  generalize w.alloc (.cells #[.int .i64 z, .int .u32 (c : Int), .slice ad J.length cap] 29) = W at *
  have c2 : W.cell? ⟨w.heap.size, 2, none⟩ = some (.slice ad J.length cap) := cell_of_row _ _ 2 _ _ _ hx
  have HH := Lib.hid (And.intro hb hr)
  clear hx hb hr
  go_loop [5] (fun i => ∃ k : Nat, k ≤ J.length ∧ i = .int .i64 (k : Int) ∧ ∀ j (h : j < J.length), j < k → J[j].seq ≠ q) (fun i => J.length - (intOf i).toNat)
  case atStart => exact ⟨0, by omega, rfl, by intro j _ h; omega⟩
  case round =>
    obtain ⟨k, hk, rfl, hn⟩ := hrel
    have HN := Lib.hid hn
    clear hn
    by_cases hlt : k < J.length
    · have hbool : decide ((k : Int) < (J.length : Int)) = true := by simpa using hlt
      have hki : (k : Int) < (J.length : Int) := by omega
      obtain ⟨cap', g, o, e, hg, hrow⟩ := HH.out.2.msg hlt
      injection e with e1 e2 e3
      subst e1
      have s1 : W.cell? ⟨g, o + k * 6 + 1, none⟩ = some (.int .u32 (J[k].seq : Int)) := hrow 1 _ rfl
      clear hrow
      by_cases hq : J[k].seq = q
      · have d1 : ((J[k].seq : Int) == (q : Int)) = true := by simp; omega
        have hF := findJ_at hlt hq HN.out
        go_wp2
        go_ret
        exact ⟨rfl, HH.out.1⟩
      · have d1 : ((J[k].seq : Int) == (q : Int)) = false := by simp; omega
        have hN2 := Lib.hid (show ∀ j (h : j < J.length), j < k + 1 → J[j].seq ≠ q from fun j h hj => by
          by_cases e : j = k
          · subst e; exact hq
          · exact HN.out j h (by omega))
        go_wp2
        exact ⟨⟨k + 1, by omega, by go_num, hN2.out⟩, by simp [intOf]; omega⟩
    · have hbool : decide ((k : Int) < (J.length : Int)) = false := by simpa using hlt
      have hF := findJ_none (J := J) (q := q) (fun i h => HN.out i h (by omega))
      go_wp2
      go_ret
      exact ⟨rfl, HH.out.1⟩
end Go.Proofs.Ytodlmboagbjcbaa
