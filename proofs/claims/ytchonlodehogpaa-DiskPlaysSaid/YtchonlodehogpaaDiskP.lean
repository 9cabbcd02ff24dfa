/-
  The law DiskCopies.
  Conditions: none.
-/
import Derived.Test.YtchonlodehogpaaDiskL
namespace Go.Proofs.Ytchonlodehogpaa
set_option linter.unusedVariables false
open Go.RowKit
/-- the disk behind the first acts -/
def upto (l : List ActV) (k : Nat) : ByteArray × ByteArray := (l.take k).foldl actD (⟨#[]⟩, ⟨#[]⟩)
theorem upto_succ (l : List ActV) (k : Nat) (h : k < l.length) : upto l (k + 1) = actD (upto l k) l[k] := by
  unfold upto
  rw [List.take_succ_eq_append_getElem h, List.foldl_append]
  rfl
theorem foldl_size (l : List ActV) : ∀ p : ByteArray × ByteArray, p.1.size ≤ 10000 → p.2.size ≤ 10000 → (l.foldl actD p).1.size ≤ 10000 ∧ (l.foldl actD p).2.size ≤ 10000 := by
  induction l with
  | nil => intro p h1 h2; exact ⟨h1, h2⟩
  | cons x l ih => intro p h1 h2; exact ih _ (act_size p x h1 h2).1 (act_size p x h1 h2).2
theorem upto_size (l : List ActV) (k : Nat) : (upto l k).1.size ≤ 10000 ∧ (upto l k).2.size ≤ 10000 := foldl_size _ _ (by decide) (by decide)
theorem DkAt.stays {w w' : World} {C D : Nat} {a b c d : ByteArray} (h : DkAt w C a b) (hst : DkStep w D c d w') (hne : C ≠ D) : DkAt w' C a b := by
  have hf : ∀ p : Addr, p.block = C → w'.frozen? p = w.frozen? p := fun p hp => World.frozen?_of_block (hst.2.block _ (by rw [hp]; exact h.lt) (fun e => hne (by injection e with e; omega)))
  exact ⟨(hst.cell (p := ⟨C, 0, none⟩) h.lt hne).trans h.1, (hst.cell (p := ⟨C, 1, none⟩) h.lt hne).trans h.2.1, (hf ⟨C, 0, none⟩ rfl).trans h.2.2.1, (hf ⟨C, 1, none⟩ rfl).trans h.2.2.2⟩
theorem ret_true (w w' : World) (h : Below w.heap.size w w') : (fun (e : Ending) (w' : World) => e = .returned (.bool true) ∧ Below w.heap.size w w') (.returned (.bool true)) w' := ⟨rfl, h⟩
set_option maxRecDepth 100000 in
set_option maxHeartbeats 4000000 in
theorem law_diskCopies (v : Value) (l : List ActV) (at0 : Int) (w : World) (h : ActsAt w v l) :
    Calls Try.prog 16 #[v, .int .i64 at0] w fun e w' => e = .returned (.bool true) ∧ Below w.heap.size w w' := by
  have hFew := fun (W : World) (hW : ActsAt W v l) => Few_any v l W hW
  have HF := Lib.hid hFew
  have HA := Lib.hid h
  obtain ⟨ad, cap, rfl, hl, hc⟩ := h.uni
  have hDo : ∀ k (hk : k < l.length) (D : Nat) (W : World), DkAt W D (upto l k).1 (upto l k).2 → Calls Try.prog 32 #[.pointer (some ⟨D, 0, none⟩), .agg #[.string l[k].data, .bool l[k].tear, .int .i64 l[k].keep]] W fun e w' => e = .returned (.int .i64 (codeD l[k])) ∧ DkStep W D (upto l (k + 1)).1 (upto l (k + 1)).2 w' := by
    intro k hk D W hW
    have hz := upto_size l k
    obtain ⟨B, O, _, _, hact⟩ := hc k hk
    have := do_any D _ _ l[k] W hW (by omega) (by omega) hact.2.2.2
    rw [upto_succ l k hk]
    exact this
  have hRd : ∀ k (D : Nat) (W : World), DkAt W D (upto l k).1 (upto l k).2 → Calls Try.prog 35 #[.pointer (some ⟨D, 0, none⟩)] W fun e w' => e = .returned (.tuple #[.string (txtD (upto l k).1 (upto l k).2), .bool (anyD (upto l k).1 (upto l k).2)]) ∧ Below W.heap.size W w' := by
    intro k D W hW
    have hz := upto_size l k
    exact dRead_any D _ _ W hW (by omega) (by omega)
  have h00 : upto l 0 = (⟨#[]⟩, ⟨#[]⟩) := rfl
  have HC := Lib.hid hc
  have HD := Lib.hid hDo
  have HR := Lib.hid hRd
  clear hFew h hc hDo hRd
  go_enter Try.func16, Try.ntmps16
  go_wp2_with fail
  refine (awake08_any _).mono ?_
  rintro e w1 ⟨rfl, hb1⟩
  go_wp2_with fail
  refine (HF.out _ (HA.out.below hb1 (Nat.le_refl _))).mono ?_
  rintro e w2 ⟨⟨b, rfl, hb⟩, rfl⟩
  cases b
  · go_wp2
    go_ret
    exact ⟨rfl, hb1⟩
  have hlen := hb rfl
  clear hb
  by_cases hneg : at0 < 0
  · have dneg : decide (at0 < 0) = true := by simpa using hneg
    go_wp2
    go_ret
    exact ⟨rfl, hb1⟩
  by_cases hbig : (l.length : Int) < at0
  · have dneg : decide (at0 < 0) = false := by simpa using hneg
    have dbig : decide ((l.length : Int) < at0) = true := by simpa using hbig
    go_wp2
    go_ret
    exact ⟨rfl, hb1⟩
  obtain ⟨m, rfl⟩ : ∃ m : Nat, at0 = (m : Int) := ⟨at0.toNat, by omega⟩
  have dneg : decide ((m : Int) < 0) = false := by simp
  have dbig : decide ((l.length : Int) < (m : Int)) = false := by simpa using hbig
  have dbig2 : decide (l.length < m) = false := by simp; omega
  have hm : m ≤ l.length := by omega
  clear hneg hbig
  go_wp2_with fail
  refine (dNew_any _).mono ?_
  rintro e w3 ⟨rfl, hw3⟩
  have h3 : DkAt w3 w1.heap.size (upto l 0).1 (upto l 0).2 := by rw [← hw3]; exact DkAt.new _ _ _ _
  have hb3 : Below w.heap.size w w3 := by rw [← hw3]; exact ba hb1 _
  have hDw : w.heap.size ≤ w1.heap.size := hb1.size
  generalize w1.heap.size = D at *
  clear hw3 h00 dneg dbig dbig2 hlen
  go_wp2
  go_loopw [6] (fun i wr => ∃ (k : Nat), k ≤ m ∧ i = .int .i64 (k : Int) ∧ DkAt wr D (upto l k).1 (upto l k).2 ∧ Below w.heap.size w wr) (fun i _ => m - (intOf i).toNat)
  case atStart => exact ⟨0, by omega, rfl, h3, hb3⟩
  case round =>
    obtain ⟨k, hk, rfl, hDk, hbr⟩ := hrel
    by_cases hlt : k < m
    · have hbool : decide ((k : Int) < (m : Int)) = true := by simpa using hlt
      have hkl : k < l.length := by omega
      obtain ⟨B, O, rfl, hB, hact⟩ := HC.out k hkl
      have hD := HD.out k hkl D wr hDk
      obtain ⟨c0, c1, c2, c3⟩ := hact.below hbr hB
      clear hact
      have hki : (k : Int) < (l.length : Int) := by omega
      generalize l[k] = x at *
      generalize x.data = xs at *
      generalize x.tear = xt at *
      generalize x.keep = xk at *
      have HDD := Lib.hid hD
      clear hD
      go_wp2_with fail
      refine HDD.out.mono ?_
      rintro e w4 ⟨rfl, hst⟩
      have hb4 := hst.out hbr hDw hbr.size
      go_wp2
      exact ⟨⟨k + 1, by omega, by go_num, hst.1, hb4⟩, by simp [intOf]; omega⟩
    · have hbool : decide ((k : Int) < (m : Int)) = false := by simpa using hlt
      obtain rfl : k = m := by omega
      clear hbool hlt hk
      go_wp2_with fail
      refine (dCopy_any _ _ _ _ hDk).mono ?_
      rintro e w5 ⟨rfl, hC5, hq5⟩
      have hCD : wr.heap.size ≠ D := Nat.ne_of_gt hDk.lt
      have hCw : w.heap.size ≤ wr.heap.size := hbr.size
      have hDk5 := hDk.below hq5 hDk.lt
      have hb5 := hbr.trans (hq5.mono hbr.size)
      clear hq5
      generalize wr.heap.size = C at *
      go_wp2_with fail
      refine (HR.out k D _ hDk5).mono ?_
      rintro e w6 ⟨rfl, hq6⟩
      have hC6 := hC5.below hq6 hC5.lt
      have hDk6 := hDk5.below hq6 hDk5.lt
      have hb6 := hb5.trans (hq6.mono hb5.size)
      clear hq6
      go_wp2
      go_loopw [10] (fun i wr => ∃ (j : Nat), j ≤ l.length ∧ i = .int .i64 (j : Int) ∧ DkAt wr D (upto l j).1 (upto l j).2 ∧ DkAt wr C (upto l k).1 (upto l k).2 ∧ Below w.heap.size w wr) (fun i _ => l.length - (intOf i).toNat)
      case atStart => exact ⟨k, hm, rfl, hDk6, hC6, hb6⟩
      case round =>
        obtain ⟨j, hj, rfl, hDj, hCj, hbj⟩ := hrel
        by_cases hlt2 : j < l.length
        · have hbool : decide ((j : Int) < (l.length : Int)) = true := by simpa using hlt2
          obtain ⟨B, O, rfl, hB, hact⟩ := HC.out j hlt2
          have hD := HD.out j hlt2 D wr hDj
          obtain ⟨c0, c1, c2, c3⟩ := hact.below hbj hB
          clear hact
          generalize l[j] = x at *
          generalize x.data = xs at *
          generalize x.tear = xt at *
          generalize x.keep = xk at *
          have HDD := Lib.hid hD
          clear hD
          go_wp2_with fail
          refine HDD.out.mono ?_
          rintro e w7 ⟨rfl, hst⟩
          have hb7 := hst.out hbj hDw hbj.size
          have hO := hCj.stays hst hCD
          go_wp2
          exact ⟨⟨j + 1, by omega, by go_num, hst.1, hO, hb7⟩, by simp [intOf]; omega⟩
        · have hbool : decide ((j : Int) < (l.length : Int)) = false := by simpa using hlt2
          obtain rfl : j = l.length := by omega
          clear hbool hlt2 hj
          go_wp2_with fail
          refine (HR.out k C _ hCj).mono ?_
          rintro e w8 ⟨rfl, hq8⟩
          have hC8 := hCj.below hq8 hCj.lt
          have hD8 := hDj.below hq8 hDj.lt
          have hb8 := hbj.trans (hq8.mono hbj.size)
          clear hq8
          go_wp2
          go_loopw [13] (fun i wr => ∃ (j : Nat), j ≤ l.length ∧ i = .int .i64 (j : Int) ∧ DkAt wr D (upto l l.length).1 (upto l l.length).2 ∧ DkAt wr C (upto l j).1 (upto l j).2 ∧ Below w.heap.size w wr) (fun i _ => l.length - (intOf i).toNat)
          case atStart => exact ⟨k, hm, rfl, hD8, hC8, hb8⟩
          case round =>
            obtain ⟨j, hj, rfl, hDj, hCj, hbj⟩ := hrel
            by_cases hlt2 : j < l.length
            · have hbool : decide ((j : Int) < (l.length : Int)) = true := by simpa using hlt2
              obtain ⟨B, O, rfl, hB, hact⟩ := HC.out j hlt2
              have hD := HD.out j hlt2 C wr hCj
              obtain ⟨c0, c1, c2, c3⟩ := hact.below hbj hB
              clear hact
              generalize l[j] = x at *
              generalize x.data = xs at *
              generalize x.tear = xt at *
              generalize x.keep = xk at *
              have HDD := Lib.hid hD
              clear hD
              go_wp2_with fail
              refine HDD.out.mono ?_
              rintro e w7 ⟨rfl, hst⟩
              have hb7 := hst.out hbj hCw hbj.size
              have hO := hDj.stays hst hCD.symm
              go_wp2
              exact ⟨⟨j + 1, by omega, by go_num, hO, hst.1, hb7⟩, by simp [intOf]; omega⟩
            · have hbool : decide ((j : Int) < (l.length : Int)) = false := by simpa using hlt2
              obtain rfl : j = l.length := by omega
              clear hbool hlt2 hj
              go_wp2_with fail
              refine (dSlot0_any _ _ _ _ hCj).mono ?_
              rintro e w9 ⟨rfl, rfl⟩
              go_wp2_with fail
              refine (dSlot0_any _ _ _ _ hDj).mono ?_
              rintro e w9 ⟨rfl, rfl⟩
              go_wp2_with fail
              refine (dSlot1_any _ _ _ _ hCj).mono ?_
              rintro e w9 ⟨rfl, rfl⟩
              go_wp2_with fail
              refine (dSlot1_any _ _ _ _ hDj).mono ?_
              rintro e w9 ⟨rfl, rfl⟩
              go_wp2
              go_ret
              exact ⟨rfl, hbj⟩
end Go.Proofs.Ytchonlodehogpaa
