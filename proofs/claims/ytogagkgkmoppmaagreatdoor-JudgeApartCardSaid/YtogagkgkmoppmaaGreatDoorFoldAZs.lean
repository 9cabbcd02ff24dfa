/-
  An application's state as it comes of messages: an entry, a step, some.
  Conditions: those that each theorem names.
-/
import Derived.Test.YtogagkgkmoppmaaGreatDoorLogC
import Derived.Laws.Concat
import Derived.Test.YtogagkgkmoppmaaGreatDoorLogE
import Derived.Test.YtogagkgkmoppmaaGreatDoorJuKZs
namespace Go.Proofs.YtogagkgkmoppmaaGreatDoor
set_option linter.unusedVariables false
set_option linter.unusedSimpArgs false
open Go.RowKit
def entD (d : ByteArray) : ByteArray := d.extract 0 (min d.size 65535)
theorem entD_size (d : ByteArray) : (entD d).size = min d.size 65535 := by unfold entD; simp only [ByteArray.size_extract]; omega
theorem entD_small {d : ByteArray} (h : d.size ≤ 65535) : entD d = d := by
  unfold entD
  rw [show min d.size 65535 = d.size by omega]
  apply ByteArray.ext
  simp
theorem entD_big {d : ByteArray} (h : ¬ d.size ≤ 65535) : entD d = d.extract 0 65535 := by
  unfold entD
  rw [show min d.size 65535 = 65535 by omega]
def byteF (frm : Int) : UInt8 := UInt8.ofNat (frm % 256).toNat
theorem byteF_is (frm : Int) : frm % 256 = ((byteF frm).toNat : Int) := by
  unfold byteF
  have h1 : (frm % 256).toNat < 256 := by omega
  rw [UInt8.toNat_ofNat', Nat.mod_eq_of_lt (by omega)]
  omega
def entB (frm : Int) (d : ByteArray) : ByteArray := ⟨([byteF frm] ++ putL (entD d).size 2).toArray⟩
def entS (frm : Int) (d : ByteArray) : ByteArray := entB frm d ++ entD d
theorem src_one (w : World) (b : UInt8) : Src (w.alloc (.cells #[.int .u8 (b.toNat : Int)] 5)) (.slice (some ⟨w.heap.size, 0, none⟩) 1 1) [b] :=
  .inr ⟨w.heap.size, 1, rfl, by simp, fun j hj => by
    have hj0 : j = 0 := by simpa using hj
    subst hj0
    exact cell_of_row _ _ 0 _ _ _ (heap_alloc_new w (.cells #[.int .u8 (b.toNat : Int)] 5))⟩
set_option maxHeartbeats 4000000 in
theorem entry_any (frm : Int) (d : ByteArray) (w : World) (hd : d.size ≤ 140737488355328) :
    Calls Tryz.prog 85 #[.agg #[.int .i64 frm, .string d]] w fun e w' => e = .returned (.string (entS frm d)) ∧ Below w.heap.size w w' := by
  obtain ⟨N, hN⟩ : ∃ N, N = w.heap.size := ⟨_, rfl⟩
  obtain ⟨W, hW⟩ : ∃ W, W = w.alloc (.cells #[.int .i64 frm, .string d] 147) := ⟨_, rfl⟩
  have hbA := ba (br w) (.cells #[.int .i64 frm, .string d] 147)
  have hxA := heap_alloc_new w (.cells #[.int .i64 frm, .string d] 147)
  rw [← hW] at hxA hbA
  rw [← hN] at hxA
  have c0 : W.cell? ⟨N, 0, none⟩ = some (.int .i64 frm) := cell_of_row _ _ 0 _ _ _ hxA
  have c1 : W.cell? ⟨N, 1, none⟩ = some (.string d) := cell_of_row _ _ 1 _ _ _ hxA
  have HB := Lib.hid (And.intro hbA (ba hbA (.cells #[.int .u8 ((byteF frm).toNat : Int)] 5)))
  have hbf := byteF_is frm
  obtain ⟨D, hD⟩ : ∃ D, D = entD d := ⟨_, rfl⟩
  have hDs : D.size ≤ 65535 := by rw [hD, entD_size]; omega
  obtain ⟨E, hE⟩ : ∃ E, E = entB frm d := ⟨_, rfl⟩
  have hEs : E.size = 3 := by
    rw [hE]
    show ([byteF frm] ++ putL (entD d).size 2).toArray.size = 3
    simp [putL_length]
  obtain ⟨F, hF⟩ : ∃ F, F = entS frm d := ⟨_, rfl⟩
  rw [← hF]
  unfold entS at hF
  rw [← hE, ← hD] at hF
  have hl3 : ([byteF frm] ++ putL D.size 2).length = 3 := by simp [putL_length]
  have HP := Lib.hid (Put_any (.slice (some ⟨W.heap.size, 0, none⟩) 1 1) [byteF frm] D.size 2 (W.alloc (.cells #[.int .u8 ((byteF frm).toNat : Int)] 5)) (src_one W _) (by simp) (by omega) (by omega) (by omega))
  have HEE := Lib.hid (show E = ⟨([byteF frm] ++ putL D.size 2).toArray⟩ from by rw [hE, hD]; rfl)
  have HL3 := Lib.hid hl3
  have HFF := Lib.hid hF
  generalize byteF frm = bf at *
  clear hxA hbA hE hF hl3
  go_enter Tryz.func85, Tryz.ntmps85
  go_upto_region 1 with (fail)
  rw [← hW, ← hN]
  clear hW hN
  by_cases hle : d.size ≤ 65535
  · rw [entD_small hle] at hD
    subst hD
    go_upto_region 2 with (fail)
    go_wp2_with fail
    refine HP.out.mono ?_
    rintro e w1 ⟨v, rfl, g, cap, rfl, hb1, hg, hgl, hcells⟩
    have hconv := conv_cells ([bf] ++ putL D.size 2) w1 g 3 cap HL3.out hcells
    rw [← HEE.out] at hconv
    rw [HL3.out]
    have HE := Lib.hid (bt HB.out.2 hb1)
    clear hb1 hg hgl hcells c0 c1 HP
    go_wp2_with fail
    go_ret
    exact ⟨by rw [HFF.out]; rfl, HE.out⟩
  · rw [entD_big hle] at hD
    have hd1 : (65535 : Int) ≤ (d.size : Int) := by omega
    have hm : min 65535 d.size = 65535 := by omega
    go_upto_region 2 with (fail)
    rw [← hD]
    have HD := Lib.hid hD
    clear hD hm hd1 hle
    go_wp2_with fail
    refine HP.out.mono ?_
    rintro e w1 ⟨v, rfl, g, cap, rfl, hb1, hg, hgl, hcells⟩
    have hconv := conv_cells ([bf] ++ putL D.size 2) w1 g 3 cap HL3.out hcells
    rw [← HEE.out] at hconv
    rw [HL3.out]
    have HE := Lib.hid (bt HB.out.2 hb1)
    clear hb1 hg hgl hcells c0 c1 HP
    go_wp2_with fail
    go_ret
    exact ⟨by rw [HFF.out]; rfl, HE.out⟩
theorem entB_size (frm : Int) (d : ByteArray) : (entB frm d).size = 3 := by
  show ([byteF frm] ++ putL (entD d).size 2).toArray.size = 3
  simp [putL_length]
theorem entS_size (frm : Int) (d : ByteArray) : (entS frm d).size ≤ 65538 := by
  unfold entS
  have h1 := entB_size frm d
  have h2 := entD_size d
  rw [ByteArray.size_append]
  omega
def appS (s : ByteArray) (x : Int × ByteArray) : ByteArray := (s ++ entS x.1 x.2).extract ((s ++ entS x.1 x.2).size - 4096) (s ++ entS x.1 x.2).size
theorem appS_size (s : ByteArray) (x : Int × ByteArray) : (appS s x).size ≤ 4096 := by
  unfold appS
  rw [ByteArray.size_extract]
  omega
set_option maxHeartbeats 4000000 in
theorem apply_any (s : ByteArray) (x : Int × ByteArray) (w : World) (hs : s.size ≤ 140737488355328) (hd : x.2.size ≤ 140737488355328) :
    Calls Tryz.prog 72 #[.string s, .agg #[.int .i64 x.1, .string x.2]] w fun e w' => e = .returned (.string (appS s x)) ∧ Below w.heap.size w w' := by
  obtain ⟨frm, d⟩ := x
  obtain ⟨N, hN⟩ : ∃ N, N = w.heap.size := ⟨_, rfl⟩
  obtain ⟨W, hW⟩ : ∃ W, W = w.alloc (.cells #[.int .i64 frm, .string d] 147) := ⟨_, rfl⟩
  have hbA := ba (br w) (.cells #[.int .i64 frm, .string d] 147)
  have hxA := heap_alloc_new w (.cells #[.int .i64 frm, .string d] 147)
  rw [← hW] at hxA hbA
  rw [← hN] at hxA
  have c0 : W.cell? ⟨N, 0, none⟩ = some (.int .i64 frm) := cell_of_row _ _ 0 _ _ _ hxA
  have c1 : W.cell? ⟨N, 1, none⟩ = some (.string d) := cell_of_row _ _ 1 _ _ _ hxA
  have HB := Lib.hid hbA
  have HP := Lib.hid (entry_any frm d W hd)
  obtain ⟨F, hF⟩ : ∃ F, F = appS s (frm, d) := ⟨_, rfl⟩
  have hEs := entS_size frm d
  show Calls Tryz.prog 72 #[.string s, .agg #[.int .i64 frm, .string d]] w _
  rw [← hF]
  unfold appS at hF
  generalize entS frm d = E at *
  have hsE : (s ++ E).size = s.size + E.size := ByteArray.size_append
  obtain ⟨T, hT⟩ : ∃ T, T = s ++ E := ⟨_, rfl⟩
  have hF2 : F = T.extract (T.size - 4096) T.size := by rw [hF, hT]
  have HFF := Lib.hid hF2
  have hTs : T.size ≤ 140737488420866 := by rw [hT, hsE]; omega
  have HT := Lib.hid hT
  clear hxA hbA hF hF2 hsE hT
  go_enter Tryz.func72, Tryz.ntmps72
  go_upto_region 1 with (fail)
  rw [← hW, ← hN]
  clear hW hN
  go_wp2_with fail
  refine HP.out.mono ?_
  rintro e w1 ⟨rfl, hb1⟩
  have HE := Lib.hid (bt HB.out hb1)
  clear hb1 c0 c1 HP
  go_upto_region 2 with (fail)
  rw [← HT.out]
  clear hEs
  by_cases hle : T.size ≤ 4096
  · have hFT : F = T := by
      rw [HFF.out, show T.size - 4096 = 0 by omega]
      apply ByteArray.ext
      simp
    have hi1 : (T.size : Int) ≤ 4096 := by omega
    have HFT := Lib.hid hFT
    clear hFT
    go_wp2_with fail
    go_ret
    exact ⟨by rw [HFT.out]; rfl, HE.out⟩
  · have hi1 : (4096 : Int) < (T.size : Int) := by omega
    go_wp2_with fail
    go_ret
    exact ⟨by rw [HFF.out]; rfl, HE.out⟩
/-- steps as cells -/
def stepsV (L : List (Int × ByteArray)) : List Value := L.flatMap fun x => [.int .i64 x.1, .string x.2]
theorem stepsV_snoc (L : List (Int × ByteArray)) (x : Int × ByteArray) : stepsV (L ++ [x]) = stepsV L ++ [.int .i64 x.1, .string x.2] := by simp [stepsV]
theorem stepsV_len (L : List (Int × ByteArray)) : (stepsV L).length = L.length * 2 := by
  induction L with
  | nil => rfl
  | cons x L ih => simp [stepsV] at ih ⊢; omega
theorem stepsV_at : ∀ (L : List (Int × ByteArray)) (i : Nat) (hi : i < L.length), (stepsV L)[i * 2]? = some (.int .i64 L[i].1) ∧ (stepsV L)[i * 2 + 1]? = some (.string L[i].2)
  | x :: L, 0, _ => ⟨rfl, rfl⟩
  | x :: L, i + 1, hi => by
    obtain ⟨h1, h2⟩ := stepsV_at L i (by simpa using hi)
    rw [show (i + 1) * 2 = i * 2 + 2 by omega]
    exact ⟨h1, h2⟩
/-- a row of steps that is read -/
def RdS (w : World) (ad : Option Addr) (L : List (Int × ByteArray)) : Prop := L.length ≤ 1000000 ∧ (∀ x ∈ L, x.2.size ≤ 140737488355328) ∧ ∀ i (hi : i < L.length), ∃ g, ad = some ⟨g, 0, none⟩ ∧ g < w.heap.size ∧ w.cell? ⟨g, i * 2, none⟩ = some (.int .i64 L[i].1) ∧ w.cell? ⟨g, i * 2 + 1, none⟩ = some (.string L[i].2)
theorem RdS.below {w w' : World} {ad : Option Addr} {L : List (Int × ByteArray)} (h : RdS w ad L) (hb : Below w.heap.size w w') : RdS w' ad L := ⟨h.1, h.2.1, fun i hi => by
  obtain ⟨g, e, hg, c0, c1⟩ := h.2.2 i hi
  exact ⟨g, e, Nat.lt_of_lt_of_le hg hb.size, (hb.cell (p := ⟨g, i * 2, none⟩) hg).trans c0, (hb.cell (p := ⟨g, i * 2 + 1, none⟩) hg).trans c1⟩⟩
theorem rdS_own {w : World} {B : Nat} {ad : Option Addr} {cap n : Nat} {L : List (Int × ByteArray)} (h : w.ownsRow B 147 2 (.slice ad n cap) n (stepsV L)) (hl : L.length ≤ 1000000) (hm : ∀ x ∈ L, x.2.size ≤ 140737488355328) : RdS w ad L := by
  refine ⟨hl, hm, fun i hi => ?_⟩
  rcases h.2 with ⟨hv, h0⟩ | ⟨g, c, cur, hv, hg, hh, rest⟩
  · have h1 := h.1
    rw [stepsV_len] at h1
    omega
  · injection hv with hv1 hv2 hv3
    obtain ⟨h1, h2⟩ := stepsV_at L i hi
    have hc := fun j u hu => World.ownsRow.cells h (g := g) (by rw [hv1]; rfl) j u hu
    have ha : ∀ j, (⟨g, 0, none⟩ : Addr).add j = ⟨g, j, none⟩ := fun j => by unfold Addr.add; split <;> simp_all
    refine ⟨g, hv1, (Array.getElem?_eq_some_iff.1 hh).1, ?_, ?_⟩
    · have := hc _ _ h1; rwa [ha] at this
    · have := hc _ _ h2; rwa [ha] at this
def foldS (s : ByteArray) (L : List (Int × ByteArray)) : ByteArray := L.foldl appS s
theorem foldS_take {s : ByteArray} {L : List (Int × ByteArray)} {k : Nat} (hk : k < L.length) : foldS s (L.take (k + 1)) = appS (foldS s (L.take k)) L[k] := by
  unfold foldS
  rw [List.take_add_one, List.getElem?_eq_getElem hk, List.foldl_append]
  rfl
theorem foldS_size {s : ByteArray} (hs : s.size ≤ 140737488355328) (L : List (Int × ByteArray)) : (foldS s L).size ≤ 140737488355328 := by
  unfold foldS
  induction L generalizing s with
  | nil => exact hs
  | cons x L ih =>
    have h2 : (appS s x).size ≤ 140737488355328 := Nat.le_trans (appS_size s x) (by omega)
    rw [List.foldl_cons]
    exact ih h2
set_option maxHeartbeats 8000000 in
theorem foldAll_any (s : ByteArray) (L : List (Int × ByteArray)) (ad : Option Addr) (cap : Nat) (w : World) (hs : s.size ≤ 140737488355328) (hL : RdS w ad L) :
    Calls Tryz.prog 38 #[.string s, .slice ad L.length cap] w fun e w' => e = .returned (.string (foldS s L)) ∧ Below w.heap.size w w' := by
  obtain ⟨n, hn⟩ : ∃ n, n = L.length := ⟨_, rfl⟩
  obtain ⟨F, hF⟩ : ∃ F, F = foldS s L := ⟨_, rfl⟩
  rw [← hF, ← hn]
  have HH := Lib.hid (And.intro hL (And.intro hn (And.intro hF hs)))
  have hn9 : n ≤ 1000000 := by rw [hn]; exact hL.1
  clear hL hn hF hs
  go_enter Tryz.func38, Tryz.ntmps38
  go_wp2_with fail
  go_loopw [0, 9] (fun t i wr => ∃ k : Nat, k ≤ n ∧ i = .int .i64 (k : Int) ∧ t = .string (foldS s (L.take k)) ∧ Hid (Below w.heap.size w wr)) (fun _ i _ => n - (intOf i).toNat)
  case atStart => exact ⟨0, by omega, rfl, rfl, Lib.hid (br w)⟩
  case round =>
    obtain ⟨k, hk, rfl, rfl, HB⟩ := hrel
    by_cases hlt : k < n
    · have hd : decide ((k : Int) < (n : Int)) = true := by simpa using hlt
      have hi1 : (k : Int) < (n : Int) := by omega
      have hkl : k < L.length := by rw [← HH.out.2.1]; exact hlt
      obtain ⟨g, rfl, hg, c0, c1⟩ := (HH.out.1.below HB.out).2.2 k hkl
      obtain ⟨x, hx⟩ : ∃ x, x = L[k] := ⟨_, rfl⟩
      have hxs := HH.out.1.2.1 L[k] (List.getElem_mem hkl)
      rw [← hx] at c0 c1 hxs
      obtain ⟨u, hu⟩ : ∃ u, u = foldS s (L.take k) := ⟨_, rfl⟩
      have hus := foldS_size HH.out.2.2.2 (L.take k)
      have hst := foldS_take (s := s) hkl
      rw [← hu, ← hx] at hst
      rw [← hu] at hus ⊢
      obtain ⟨X, hX⟩ : ∃ X, X = wr.heap.size := ⟨_, rfl⟩
      obtain ⟨w1, hw1⟩ : ∃ y, y = wr.alloc (.cells #[.int .i64 x.1, .string x.2] 147) := ⟨_, rfl⟩
      have hb1 := ba (br wr) (.cells #[.int .i64 x.1, .string x.2] 147)
      have hx1 := heap_alloc_new wr (.cells #[.int .i64 x.1, .string x.2] 147)
      rw [← hw1] at hb1 hx1
      rw [← hX] at hx1
      have d0 : w1.cell? ⟨X, 0, none⟩ = some (.int .i64 x.1) := cell_of_row _ _ 0 _ _ _ hx1
      have d1 : w1.cell? ⟨X, 1, none⟩ = some (.string x.2) := cell_of_row _ _ 1 _ _ _ hx1
      have HA := Lib.hid (apply_any u x w1 hus hxs)
      have H1 := Lib.hid (And.intro (bt HB.out hb1) (And.intro hst hlt))
      clear hg hkl hx hu hst hb1 hx1 hxs hus hlt
      generalize x.1 = frm at *
      generalize x.2 = dd at *
      go_upto_region 4 with (fail)
      rw [← hw1, ← hX]
      clear hw1 hX c0 c1
      go_wp2_with fail
      refine HA.out.mono ?_
      rintro e w2 ⟨rfl, hb2⟩
      have HE := Lib.hid (bt H1.out.1 hb2)
      have hlt := H1.out.2.2
      have HT := Lib.hid H1.out.2.1
      clear hb2 HA d0 d1
      go_wp2_with fail
      exact ⟨⟨k + 1, hlt, by go_num, by rw [HT.out], HE⟩, by simp [intOf]; omega⟩
    · have hd : decide ((k : Int) < (n : Int)) = false := by simpa using hlt
      have hF2 : foldS s (L.take k) = F := by rw [HH.out.2.2.1, List.take_of_length_le (by have := HH.out.2.1; omega)]
      rw [hF2]
      go_wp2_with fail
      go_ret
      exact ⟨rfl, HB.out⟩
end Go.Proofs.YtogagkgkmoppmaaGreatDoor
namespace Go.Proofs.YtogagkgkmoppmaaGreatDoor
set_option linter.unusedVariables false
set_option linter.unusedSimpArgs false
open Go.RowKit GM
/-- the data of a message's item -/
def dataI (s : ByteArray) : ByteArray := match itemR s with
  | .ok x => x.1.data
  | .error _ => ⟨#[]⟩
/-- is a message an application's? -/
def appI (s : ByteArray) : Bool := match itemR s with
  | .ok x => decide (x.1.kind = 1)
  | .error _ => false
def ItAns (s : ByteArray) (e : Ending) : Prop := ∃ (C : Array Value) (z : Int), e = .returned (.tuple #[.agg C, .int .i64 z]) ∧ C.size = 18 ∧ C.all (·.oneCell') = true ∧ C[1]? = some (.string (dataI s)) ∧ ∃ k : Int, C[0]? = some (.int .i64 k) ∧ (z == 0 && k == 1) = appI s
theorem item_any (s : ByteArray) (w : World) (hs : s.size ≤ 140737488355328) : Calls Tryz.prog 17 #[.string s] w fun e w' => ItAns s e ∧ Below w.heap.size w w' := by
  refine (parseItem_any s w hs).mono fun e w' h => ?_
  obtain ⟨h1, h2⟩ := h
  refine ⟨?_, h2⟩
  unfold ItAns dataI appI
  rcases hr : itemR s with c | ⟨q, l⟩
  · rw [hr] at h1
    have hc : c ≠ 0 := by
      refine andR_bad hr (fun _ => rdN_two) fun k l c _ h => ?_
      split at h
      · injection h with h; omega
      · split at h
        · injection h with h; omega
        · unfold rdIt at h
          split at h
          · exact andR_bad h (fun _ => rdN_two) fun a l c _ h => andR_bad h (fun _ => rdN_two) fun b l c _ h => andR_bad h (fun _ => rdN_two) fun f l c _ h => by
              split at h
              · injection h with h; omega
              · exact andR_bad h (fun _ => rdRec_two) fun r l c _ h => by
                  unfold rdFin at h
                  split at h
                  · injection h with h; omega
                  · cases h
          · split at h
            · exact andR_bad h (fun _ => rdView_two) fun r l c _ h => by
                unfold rdFin at h
                split at h
                · injection h with h; omega
                · cases h
            · split at h
              · exact andR_bad h (fun _ => rdN_two) fun a l c _ h => andR_bad h (fun _ => rdN_two) fun b l c _ h => andR_bad h (fun _ => rdN_two) fun f l c _ h => by cases h
              · cases h
    exact ⟨_, c, h1, rfl, itA_one _ _ _, rfl, 0, rfl, by simp⟩
  · rw [hr] at h1
    obtain ⟨ad, cap, h1, _⟩ := h1
    refine ⟨_, 0, h1, rfl, itA_one _ _ _, rfl, (q.kind : Int), rfl, ?_⟩
    show ((0 : Int) == 0 && (q.kind : Int) == 1) = decide (q.kind = 1)
    rw [Bool.eq_iff_iff]
    simp
    omega
def stepJ (m : Msg) : Int × ByteArray := (m.frm, dataI m.pay)
theorem info_step : (Tryz.prog.info? 147).map (fun i => (i.zero, i.size, i.bytes)) = some (some (.agg #[.int .i64 0, .string ⟨#[]⟩]), 2, 24) := by kernel_rfl
theorem take_step {L : List Msg} {k : Nat} (hk : k < L.length) : stepsV ((L.take (k + 1)).map stepJ) = stepsV ((L.take k).map stepJ) ++ [.int .i64 L[k].frm, .string (dataI L[k].pay)] := by
  rw [List.take_add_one, List.getElem?_eq_getElem hk, List.map_append, Option.toList_some, List.map_singleton, stepsV_snoc]
  rfl
theorem reads_newJ (w : World) (cs : Array Value) (t : TypeId) : Reads (w.alloc (.cells cs t)) (w.heap.size + 1) cs.size (some ⟨w.heap.size, 0, none⟩) 1 cs.toList :=
  ⟨by rw [Array.length_toList, Nat.one_mul], fun _ => ⟨_, rfl, by show w.heap.size < _; omega, fun j u hu => by
    have ha : (⟨w.heap.size, 0, none⟩ : Addr).add j = ⟨w.heap.size, j, none⟩ := by unfold Addr.add; split <;> simp_all
    rw [ha, cell_of_row _ _ j cs t (0, 0) (heap_alloc_new w _)]
    simpa using hu⟩⟩
def StEnd (w : World) (L : List Msg) (e : Ending) (w' : World) : Prop := ∃ a c, (e = .returned (.slice a L.length c) ∧ RdS w' a (L.map stepJ)) ∧ Below w.heap.size w w'
set_option maxRecDepth 100000 in
set_option maxHeartbeats 8000000 in
theorem steps_any (L : List Msg) (ad : Option Addr) (cap : Nat) (w : World) (hL : RdM w ad L) (hp : ∀ m ∈ L, m.pay.size ≤ 140737488355328) (hd : ∀ m ∈ L, (dataI m.pay).size ≤ 140737488355328) (hl : L.length ≤ 1000000) :
    Calls Tryz.prog 39 #[.slice ad L.length cap] w fun e w' => StEnd w L e w' := by
  obtain ⟨n, hn⟩ : ∃ n, n = L.length := ⟨_, rfl⟩
  have hn9 : n ≤ 1000000 := by rw [hn]; exact hl
  have HH := Lib.hid (And.intro hL (And.intro hp (And.intro hd hn)))
  rw [← hn]
  obtain ⟨i0, hi, hz0, hz1, hz2⟩ := info_parts info_step
  clear hL hp hd hl hn
  go_enter Tryz.func39, Tryz.ntmps39
  go_wp2_with fail
  go_loopw [3, 10] (fun u i wr => ∃ k : Nat, k ≤ n ∧ i = .int .i64 (k : Int) ∧ Hid (wr.ownsRow w.heap.size 147 2 u k (stepsV ((L.take k).map stepJ)) ∧ Below w.heap.size w wr)) (fun _ i _ => n - (intOf i).toNat)
  case atStart => exact ⟨0, by omega, rfl, Lib.hid ⟨⟨rfl, .inl ⟨rfl, rfl⟩⟩, br w⟩⟩
  case round =>
    obtain ⟨k, hk, rfl, HV⟩ := hrel
    obtain ⟨ad1, cap1, rfl⟩ := ownFormL HV.out.1
    by_cases hlt : k < n
    · have hdc : decide ((k : Int) < (n : Int)) = true := by simpa using hlt
      have hdn : decide (k < n) = true := by simpa using hlt
      have hi1 : (k : Int) < (n : Int) := by omega
      have hkl : k < L.length := by rw [← HH.out.2.2.2]; exact hlt
      obtain ⟨hm, g, o, rfl, hg, hrg⟩ := (HH.out.1.below HV.out.2).2 k hkl
      have hps := HH.out.2.1 L[k] (List.getElem_mem hkl)
      have hts := take_step hkl
      obtain ⟨x, hx⟩ : ∃ x, x = L[k] := ⟨_, rfl⟩
      rw [← hx] at hrg hps hts
      obtain ⟨cs, hcs⟩ : ∃ c, c = msgA x := ⟨_, rfl⟩
      rw [← hcs] at hrg
      have hcl : cs.toList.toArray = cs := by simp
      obtain ⟨X, hX⟩ : ∃ X, X = wr.heap.size := ⟨_, rfl⟩
      have hz := heap_alloc_new wr (.cells (msgA zeroM) 31)
      have hbz := ba (br wr) (.cells (msgA zeroM) 31)
      obtain ⟨w2, hw2⟩ : ∃ y, y = (wr.alloc (.cells (msgA zeroM) 31)).setRow X cs := ⟨_, rfl⟩
      rw [← hX] at hz
      have hb2 : Below wr.heap.size wr w2 := by rw [hw2]; exact (kept_setRowL _ X cs).out hbz hbz.size (fun q hq e => by omega)
      have hx2 : w2.heap[X]? = some (.cells cs 31 (0, 0)) := by rw [hw2]; exact setRow_heap _ _ _ _ _ _ hz
      have y0 : w2.cell? ⟨X, 0, none⟩ = some (.int .i64 x.frm) := cell_of_row _ _ 0 _ _ _ (hcs ▸ hx2)
      have y5 : w2.cell? ⟨X, 5, none⟩ = some (.string x.pay) := cell_of_row _ _ 5 _ _ _ (hcs ▸ hx2)
      have HI := Lib.hid (item_any x.pay w2 hps)
      have HG := Lib.hid (And.intro hrg (And.intro (show cs.size = 6 by rw [hcs]; rfl) (And.intro (show cs.all (·.oneCell') = true by rw [hcs]; simp [msgA, Value.oneCell']) (And.intro hz (And.intro hcl (And.intro hX (And.intro hlt hts)))))))
      have HB2 := Lib.hid (And.intro hb2 (And.intro (bt HV.out.2 hb2) (own_keptL HV.out.1 (Kept.of_below (S := fun _ => False) hb2) (fun _ _ h => h))))
      have HY := Lib.hid (And.intro y0 hX)
      clear hrg hcs hcl hz hbz hb2 hx2 hm hg hkl hx hps hts hlt hX y0
      generalize x.pay = pay at *
      have hmz : msgA zeroM = #[.int .i64 0, .int .u32 0, .int .u64 0, .int .i64 0, .slice none 0 0, .string ⟨#[]⟩] := rfl
      rw [hmz] at hw2 HG
      clear hmz
      go_upto_region 5 with (first
        | (with_reducible refine wpList_load_mid rfl 31 (.tmp 12) rfl g (o + k * 6) rfl cs.toList _ HG.out.1 Tryz.underlying31 rfl (by rw [Array.length_toList, HG.out.2.1]; kernel_rfl) ?_)
        | (refine wpList_store_row rfl 31 (.tmp 5) (.tmp 13) rfl X cs (by rw [HG.out.2.2.2.2.2.1]; rfl) (by rw [← HG.out.2.2.2.2.1]; rfl) 31 _ HG.out.2.2.2.1 (by rw [HG.out.2.1]; kernel_rfl) (by rw [HG.out.2.1]; rfl) HG.out.2.2.1 ?_)
        | fail)
      rw [← hw2, ← HY.out.2]
      clear hw2
      go_wp2_with fail
      refine HI.out.mono ?_
      rintro e w3 ⟨⟨C, zz, rfl, hC1, hC2, hC3, _, _, _⟩, hb3⟩
      obtain ⟨Y, hY⟩ : ∃ Y, Y = w3.heap.size := ⟨_, rfl⟩
      have hz := heap_alloc_new w3 (.cells (itA zeroI none 0) 63)
      have hbz := ba (br w3) (.cells (itA zeroI none 0) 63)
      rw [← hY] at hz
      obtain ⟨w4, hw4⟩ : ∃ y, y = (w3.alloc (.cells (itA zeroI none 0) 63)).setRow Y C := ⟨_, rfl⟩
      have hb4 : Below w3.heap.size w3 w4 := by rw [hw4]; exact (kept_setRowL _ Y C).out hbz hbz.size (fun q hq e => by omega)
      have hy4 : w4.heap[Y]? = some (.cells C 63 (0, 0)) := by rw [hw4]; exact setRow_heap _ _ _ _ _ _ hz
      have x0 : w4.cell? ⟨X, 0, none⟩ = some (.int .i64 x.frm) := ((bt hb3 hb4).cell (cell_lt HY.out.1)).trans HY.out.1
      have d1 : w4.cell? ⟨Y, 1, none⟩ = some (.string (dataI pay)) := (cell_of_row _ _ 1 _ _ _ hy4).trans (by rw [← hC3])
      have HZ := Lib.hid (And.intro hz (And.intro hC1 (And.intro hC2 (And.intro hY (And.intro (bt HB2.out.2.1 (bt hb3 hb4)) (own_keptL HB2.out.2.2 (Kept.of_below (S := fun _ => False) (bt hb3 hb4)) (fun _ _ h => h)))))))
      have hw4' : w4 = (w3.alloc (.cells #[.int .i64 0, .string ⟨#[]⟩, .int .u32 0, .int .u64 0, .bool false, .bool false, .int .u64 0, .int .u64 0, .int .i64 0, .int .u64 0, .slice none 0 0, .int .u64 0, .int .u64 0, .int .i64 0, .int .u64 0, .int .u64 0, .int .i64 0, .int .i64 0] 63)).setRow Y C := hw4
      clear hz hbz hw4 hb4 hy4 hb3 hC1 hC2 hC3 hY HI y5
      go_upto_region 6 with (first
        | (refine wpList_store_row rfl 63 (.tmp 6) (.tmp 18) rfl Y C (by rw [HZ.out.2.2.2.1]; rfl) rfl 63 _ HZ.out.1 (by rw [HZ.out.2.1]; kernel_rfl) (by rw [HZ.out.2.1]; rfl) HZ.out.2.2.1 ?_)
        | fail)
      rw [← hw4', ← HZ.out.2.2.2.1]
      clear hw4'
      have hHT := HG.out.2.2.2.2.2.2
      have HTS := Lib.hid hHT
      clear hHT HB2 HY
      generalize x.frm = frm at *
      generalize dataI pay = dat at *
      have ho4 := HZ.out.2.2.2.2.2
      have hle4 := HZ.out.2.2.2.2.1.size
      go_wp2_with (at_builtin; refine wpList_append_any _ rfl (.tmp 20) (.tmp 26) 111 rfl w.heap.size 147 i0 _ 2 24 Tryz.underlying111 hi hz0 hz1 hz2 rfl (by decide) _ k _ rfl (ho4.alloc _) (w4.heap.size + 1) (some ⟨w4.heap.size, 0, none⟩) 1 1 [.int .i64 frm, .string dat] rfl (reads_newJ w4 #[.int .i64 frm, .string dat] 147) (by simp [Value.oneCell']) (by unfold maxLen; omega) (by omega) (by simp; omega) ?_)
      intro v5 w5 ho5 hg5 hu5
      obtain ⟨a5, c5, rfl⟩ := ownFormL ho5
      have HE := Lib.hid (And.intro HTS.out.1 (And.intro (show w5.ownsRow w.heap.size 147 2 (.slice a5 (k + 1) c5) (k + 1) (stepsV ((L.take (k + 1)).map stepJ)) by rw [HTS.out.2, List.map_take]; exact ho5) (show Below w.heap.size w w5 from (HZ.out.2.2.2.2.1.alloc hle4 _).grown hg5 (by simp; omega) (fun g hg => (ho4.lt g hg).1))))
      clear ho5 hg5 hu5 ho4 hle4 HZ HG HTS x0 d1
      go_wp2_with fail
      exact ⟨⟨k + 1, HE.out.1, by go_num, Lib.hid HE.out.2⟩, by have := HE.out.1; simp [intOf]; omega⟩
    · have hdc : decide ((k : Int) < (n : Int)) = false := by simpa using hlt
      have hdn : decide (k < n) = false := by simpa using hlt
      have HE := Lib.hid (show StEnd w L (.returned (.slice ad1 k cap1)) wr from ⟨ad1, cap1, ⟨by rw [show k = L.length by have := HH.out.2.2.2; omega], by
        have h1 := HV.out.1
        rw [List.take_of_length_le (by have := HH.out.2.2.2; omega)] at h1
        exact rdS_own h1 (by rw [List.length_map, ← HH.out.2.2.2]; exact hn9) (fun y hy => by obtain ⟨m, hm, rfl⟩ := List.mem_map.1 hy; exact HH.out.2.2.1 m hm)⟩, HV.out.2⟩)
      clear HV hlt
      go_wp2_with fail
      go_ret
      exact HE.out
end Go.Proofs.YtogagkgkmoppmaaGreatDoor
