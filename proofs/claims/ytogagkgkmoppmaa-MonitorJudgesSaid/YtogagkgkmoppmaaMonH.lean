/-
  What a stay owes of another one's messages.
  Conditions: those that each theorem names.
-/
import Derived.Test.YtogagkgkmoppmaaMonFG
namespace Go.Proofs.Ytogagkgkmoppmaa
set_option linter.unusedVariables false
set_option linter.unusedSimpArgs false
open Go.RowKit
/-- rule 6, of one message -/
def owe (s : ST) (mem : Nat) (c : MC) (x : Msg) : MC := if x.service = 2 ∧ hasB mem s.proc = true then MBk 6 (!(s.p0 ++ s.p1).any (sameM x)) c else c
def owesC (s : ST) (mem : Nat) (l : List Msg) (c : MC) : MC := l.foldl (owe s mem) c
theorem owes_take {s : ST} {mem : Nat} {l : List Msg} {c : MC} {k : Nat} (hk : k < l.length) : owesC s mem (l.take (k + 1)) c = owe s mem (owesC s mem (l.take k) c) l[k] := by
  unfold owesC
  rw [List.take_succ_eq_append_getElem hk, List.foldl_append]
  rfl
theorem monOther {w : World} {B : Nat} {c : MC} (h : MAt w B c) : Other w (fun k => k = B) := by
  rintro b rfl cs t fr hb
  unfold MAt at h
  rw [h] at hb
  injection hb with hb
  injection hb with _ hb _
  subst hb
  exact ⟨by decide, by decide⟩
set_option maxRecDepth 100000 in
set_option maxHeartbeats 16000000 in
theorem owes_any (w : World) (B S : Nat) (c : MC) (s : ST) (h : MAt w B c) (hs : StAt w S s) (h0 : RowT w s.a0 s.p0) (h1 : RowT w s.a1 s.p1) (hl0 : s.p0.length ≤ 10000) (hl1 : s.p1.length ≤ 10000)
    (o : Value) (ad : Option Addr) (cap : Nat) (l : List Msg) (hl : RowT w ad l) (mem : Nat) :
    Calls Try.prog 38 #[.pointer (some ⟨B, 0, none⟩), .pointer (some ⟨S, 0, none⟩), o, .slice ad l.length cap, .int .u64 (mem : Int)] w fun e w' => e = .returned (.tuple #[]) ∧ MAt w' B (owesC s mem l c) ∧ Kept (fun k => k = B) w w' := by
  have hBS : S ≠ B := by
    rintro rfl
    unfold MAt at h
    unfold StAt at hs
    rw [h] at hs
    injection hs with hs
    injection hs with _ hs _
    exact absurd hs (by decide)
  obtain ⟨n, hn⟩ : ∃ n, n = l.length := ⟨_, rfl⟩
  have HL := Lib.hid (And.intro hl (And.intro hn (And.intro hl0 hl1)))
  have HS := Lib.hid (And.intro hs (And.intro h0 (And.intro h1 hBS)))
  have HO := Lib.hid (monOther h)
  have HM := Lib.hid h
  have hn9 : n ≤ 9223372036854775807 := by rw [hn]; exact hl.r.1
  rw [← hn]
  clear hl hn hs h0 h1 hBS h hl0 hl1
  go_enter Try.func38, Try.ntmps38
  go_wp2_with fail
  go_loopw [14] (fun i wr => ∃ k : Nat, k ≤ n ∧ i = .int .i64 (k : Int) ∧ Hid (MAt wr B (owesC s mem (l.take k) c) ∧ Kept (fun k => k = B) w wr)) (fun i _ => n - (intOf i).toNat)
  case atStart => exact ⟨0, by omega, rfl, ⟨HM.out, .refl _ _⟩⟩
  case round =>
    obtain ⟨k, hk, rfl, HW⟩ := hrel
    by_cases hlt : k < n
    · have hd : decide ((k : Int) < (n : Int)) = true := by simpa using hlt
      have hi1 : (k : Int) < (n : Int) := by omega
      have hkl : k < l.length := by rw [← HL.out.2.1]; exact hlt
      have hrow := HL.out.1.kept HW.out.2 HO.out
      obtain ⟨hm, g, oo, rfl, hg, hrg⟩ := hrow.r.2 k hkl
      have htk := owes_take (s := s) (mem := mem) (c := c) hkl
      have hmt := hrow.get hkl
      obtain ⟨x, hx⟩ : ∃ x, x = l[k] := ⟨_, rfl⟩
      rw [← hx] at hrg htk hmt
      obtain ⟨cx, hcx⟩ : ∃ cs, cs = msgA x := ⟨_, rfl⟩
      have z1 : cx.size = 6 := by rw [hcx]; rfl
      have p1 : cx.all (·.oneCell') = true := by rw [hcx]; simp [msgA, Value.oneCell']
      rw [← hcx] at hrg
      have hc1 : cx.toList.toArray = cx := by simp
      obtain ⟨X, hX⟩ : ∃ X, X = wr.heap.size := ⟨_, rfl⟩
      have hz := heap_alloc_new wr (.cells #[.int .i64 0, .int .u32 0, .int .u64 0, .int .i64 0, .slice none 0 0, .string ⟨#[]⟩] 34)
      have hbz := ba (br wr) (.cells #[.int .i64 0, .int .u32 0, .int .u64 0, .int .i64 0, .slice none 0 0, .string ⟨#[]⟩] 34)
      rw [← hX] at hz
      obtain ⟨w2, hw2⟩ : ∃ w2, w2 = (wr.alloc (.cells #[.int .i64 0, .int .u32 0, .int .u64 0, .int .i64 0, .slice none 0 0, .string ⟨#[]⟩] 34)).setRow X cx := ⟨_, rfl⟩
      have hb2 : Below wr.heap.size wr w2 := by rw [hw2]; exact (kept_setRow' (wr.alloc (.cells #[.int .i64 0, .int .u32 0, .int .u64 0, .int .i64 0, .slice none 0 0, .string ⟨#[]⟩] 34)) X cx).out hbz hbz.size (fun k hk' e => by omega)
      have hx2 : w2.heap[X]? = some (.cells cx 34 (0, 0)) := by rw [hw2]; exact setRow_heap _ _ _ _ _ _ hz
      have HZ := Lib.hid (And.intro hz hX)
      have hst2 := (HS.out.1.kept HW.out.2 HS.out.2.2.2).below hb2
      have hk2 : Kept (fun k => k = B) w w2 := HW.out.2.trans (Kept.of_below hb2)
      have HG := Lib.hid (And.intro hrg (And.intro z1 (And.intro p1 (And.intro (hmt.below hb2) (And.intro htk hlt)))))
      have HW2 := Lib.hid (And.intro hx2 (And.intro hst2 (And.intro (HW.out.1.below hb2) (And.intro hk2 (And.intro ((HS.out.2.1.kept HW.out.2 HO.out).below hb2) ((HS.out.2.2.1.kept HW.out.2 HO.out).below hb2))))))
      have HCX := Lib.hid hcx
      have e3 : w2.cell? ⟨X, 3, none⟩ = some (.int .i64 x.service) := by rw [cell_of_row _ _ 3 _ _ _ hx2, hcx]; rfl
      have e0 : w2.cell? ⟨S, 0, none⟩ = some (.int .i64 s.proc) := cell_of_row _ _ 0 _ _ _ hst2
      clear hrow hm hg hrg htk hmt hx hcx z1 p1 hX hz hbz hb2 hx2 hst2 hk2
      go_upto_region 3 with (first
        | (refine wpList_load_mid rfl 34 (.tmp 16) rfl g (oo + k * 6) rfl cx.toList _ HG.out.1 Try.underlying34 rfl (by rw [Array.length_toList, HG.out.2.1]; kernel_rfl) ?_)
        | (refine wpList_store_row rfl 34 (.tmp 11) (.tmp 17) rfl X cx (by rw [HZ.out.2]; rfl) (by rw [← hc1]; rfl) 34 _ HZ.out.1 (by rw [HG.out.2.1]; kernel_rfl) (by rw [HG.out.2.1]; rfl) HG.out.2.2.1 ?_))
      rw [← hw2, ← HZ.out.2]
      clear hw2 hc1
      by_cases hsv : x.service = 2
      · rw [hsv] at e3
        have HH := Lib.hid (setHas_any mem s.proc w2)
        go_wp2_with fail
        refine HH.out.mono ?_
        rintro e w3 ⟨rfl, rfl⟩
        clear HH
        cases hhs : hasB mem s.proc
        · have HE := Lib.hid (show MAt w2 B (owesC s mem (l.take (k + 1)) c) ∧ Kept (fun k => k = B) w w2 from by
            rw [HG.out.2.2.2.2.1]
            unfold owe
            rw [if_neg (fun h => by rw [hhs] at h; exact Bool.noConfusion h.2)]
            exact ⟨HW2.out.2.2.1, HW2.out.2.2.2.1⟩)
          clear e3 e0
          go_wp2_with fail
          exact ⟨⟨k + 1, HG.out.2.2.2.2.2, by go_num, HE.out⟩, by have := HG.out.2.2.2.2.2; simp [intOf]; omega⟩
        · have HA := Lib.hid (all_any w2 S s HW2.out.2.1 HW2.out.2.2.2.2.1 HW2.out.2.2.2.2.2 HL.out.2.2.1 HL.out.2.2.2)
          clear e3 e0
          go_wp2_with fail
          refine HA.out.mono ?_
          rintro e w4 ⟨⟨ad4, cap4, rfl, ho4⟩, hb4⟩
          have hrow4 : RowT w4 ad4 (s.p0 ++ s.p1) := RowT.of_own ho4 (by rw [List.length_append]; have := HL.out.2.2.1; have := HL.out.2.2.2; omega) (fun m hm => by
            rcases List.mem_append.1 hm with hm | hm
            · exact (HW2.out.2.2.2.2.1.ms m hm).below hb4
            · exact (HW2.out.2.2.2.2.2.ms m hm).below hb4)
          have hx4 := (hb4.block _ (Array.getElem?_eq_some_iff.1 HW2.out.1).1).trans HW2.out.1
          rw [HCX.out] at hx4
          have HC := Lib.hid (containsFn_any x (s.p0 ++ s.p1) ad4 cap4 X w4 hx4 (HG.out.2.2.2.1.below hb4).r hrow4.r)
          have HW4 := Lib.hid (And.intro (HW2.out.2.2.1.below hb4) (HW2.out.2.2.2.1.trans (Kept.of_below hb4)))
          clear ho4 hb4 hrow4 hx4 HA
          obtain ⟨b, hb⟩ : ∃ b, b = (s.p0 ++ s.p1).any (sameM x) := ⟨_, rfl⟩
          rw [← hb] at HC
          have HB := Lib.hid hb
          clear hb
          generalize (s.p0 ++ s.p1).length = q at *
          go_wp2_with fail
          refine HC.out.mono ?_
          rintro e w5 ⟨rfl, hb5⟩
          have HK := Lib.hid (breaks_any w5 B _ (HW4.out.1.below hb5) 6 (!b))
          have HW5 := Lib.hid (HW4.out.2.trans (Kept.of_below hb5))
          clear hb5 HC
          go_wp2_with fail
          refine HK.out.mono ?_
          rintro e w6 ⟨rfl, hm6, hk6⟩
          have HE := Lib.hid (show MAt w6 B (owesC s mem (l.take (k + 1)) c) ∧ Kept (fun k => k = B) w w6 from by
            rw [HG.out.2.2.2.2.1]
            unfold owe
            rw [if_pos ⟨hsv, hhs⟩, ← HB.out]
            exact ⟨hm6, HW5.out.trans hk6⟩)
          clear hm6 hk6 HK
          go_wp2_with fail
          exact ⟨⟨k + 1, HG.out.2.2.2.2.2, by go_num, HE.out⟩, by have := HG.out.2.2.2.2.2; simp [intOf]; omega⟩
      · have d3 : (x.service == 2) = false := by simpa using hsv
        have HE := Lib.hid (show MAt w2 B (owesC s mem (l.take (k + 1)) c) ∧ Kept (fun k => k = B) w w2 from by
          rw [HG.out.2.2.2.2.1]
          unfold owe
          rw [if_neg (fun h => hsv h.1)]
          exact ⟨HW2.out.2.2.1, HW2.out.2.2.2.1⟩)
        clear hsv
        generalize x.service = sv at *
        go_wp2_with fail
        exact ⟨⟨k + 1, HG.out.2.2.2.2.2, by go_num, HE.out⟩, by have := HG.out.2.2.2.2.2; simp [intOf]; omega⟩
    · have hd : decide ((k : Int) < (n : Int)) = false := by simpa using hlt
      have HE := Lib.hid (show MAt wr B (owesC s mem l c) ∧ Kept (fun k => k = B) w wr from by
        have := HW.out
        rw [List.take_of_length_le (by rw [← HL.out.2.1]; omega)] at this
        exact this)
      go_wp2_with fail
      go_end0
      exact ⟨rfl, HE.out⟩
end Go.Proofs.Ytogagkgkmoppmaa
