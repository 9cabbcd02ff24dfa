/-
  What a body's reader reads of a vector.
  Conditions: those that each theorem names.
-/
import Derived.Test.YtgpojbmloielmaaReadB
import Derived.Test.YtgpojbmloielmaaPackM
namespace Go.Proofs.Ytgpojbmloielmaa
set_option linter.unusedVariables false
set_option linter.unusedSimpArgs false
open Go.RowKit
def rdNs : Nat → List UInt8 → Except Int (List Nat × List UInt8)
  | 0, l => .ok ([], l)
  | n + 1, l => match rdN 4 l with
    | .error c => .error c
    | .ok (v, l') => match rdNs n l' with
      | .error c => .error c
      | .ok (vs, l'') => .ok (v :: vs, l'')
theorem rdNs_snoc : ∀ (k : Nat) (l : List UInt8), rdNs (k + 1) l = match rdNs k l with
    | .error c => .error c
    | .ok (vs, l') => match rdN 4 l' with
      | .error c => .error c
      | .ok (v, l'') => .ok (vs ++ [v], l'')
  | 0, l => by
    simp only [rdNs]
    cases rdN 4 l <;> rfl
  | k + 1, l => by
    rw [rdNs]
    cases h : rdN 4 l with
    | error c => simp only [rdNs, h]
    | ok x =>
      obtain ⟨v, l'⟩ := x
      have ih := rdNs_snoc k l'
      simp only [rdNs, h] at ih ⊢
      rw [ih]
      cases h2 : rdNs k l' with
      | error c => rfl
      | ok y =>
        obtain ⟨vs, l2⟩ := y
        simp only []
        cases h3 : rdN 4 l2 with
        | error c => rfl
        | ok z => rfl
theorem rdNs_bad : ∀ (m k : Nat) (l : List UInt8) (c : Int), rdNs k l = .error c → rdNs (k + m) l = .error c
  | 0, k, l, c, h => h
  | m + 1, k, l, c, h => by
    rw [← Nat.add_assoc, rdNs_snoc, rdNs_bad m k l c h]
theorem rdNs_len : ∀ (k : Nat) (l : List UInt8) (vs : List Nat) (l' : List UInt8), rdNs k l = .ok (vs, l') → vs.length = k ∧ ∀ v ∈ vs, v < 4294967296
  | 0, l, vs, l', h => by injection h with h; injection h with h1 h2; subst h1; simp
  | k + 1, l, vs, l', h => by
    rw [rdNs] at h
    split at h
    · cases h
    · rename_i v l1 h1
      split at h
      · cases h
      · rename_i vs1 l2 h2
        injection h with h
        injection h with h3 h4
        obtain ⟨ih1, ih2⟩ := rdNs_len k _ _ _ h2
        subst h3
        refine ⟨by simp [ih1], fun x hx => ?_⟩
        rcases List.mem_cons.1 hx with rfl | hx
        · simpa using (rdN_lt (by omega) h1).1
        · exact ih2 x hx
def rdVec (l : List UInt8) : Except Int (List Nat × List UInt8) := match rdN 1 l with
  | .error c => .error c
  | .ok (n, l') => if 64 < n then .error 3 else rdNs n l'
def VecEnd (R : Nat) (s : ByteArray) (w : World) (r : Except Int (List Nat × List UInt8)) (e : Ending) (w' : World) : Prop := match r with
  | .ok x => (∃ ad cap, e = .returned (.slice ad x.1.length cap) ∧ OwnN w.heap.size w' ad x.1 cap) ∧ RdL w' R s x.2 ∧ KR R w w'
  | .error c => e = .panicked (panL c) ∧ KR R w w'
theorem vecErr {R : Nat} {s : ByteArray} {w w' : World} {r : Except Int (List Nat × List UInt8)} {c : Int} (hr : r = .error c) (hk : KR R w w') : VecEnd R s w r (.panicked (panL c)) w' := by subst hr; exact ⟨rfl, hk⟩
theorem vecOk {R : Nat} {s : ByteArray} {w w' : World} {r : Except Int (List Nat × List UInt8)} {ds : List Nat} {l' : List UInt8} {ad : Option Addr} {cap n : Nat} (hr : r = .ok (ds, l')) (hn : n = ds.length) (ho : OwnN w.heap.size w' ad ds cap) (h : RdL w' R s l') (hk : KR R w w') : VecEnd R s w r (.returned (.slice ad n cap)) w' := by subst hr hn; exact ⟨⟨ad, cap, rfl, ho⟩, h, hk⟩
theorem new_cell32 (w : World) (v : Nat) : Reads (w.alloc (.cells #[.int .u32 (v : Int)] 29)) (w.heap.size + 1) 1 (some ⟨w.heap.size, 0, none⟩) 1 (numsM [v]) :=
  ⟨rfl, fun _ => ⟨_, rfl, by show w.heap.size < _; omega, fun j u hu => by
    have ha : (⟨w.heap.size, 0, none⟩ : Addr).add j = ⟨w.heap.size, j, none⟩ := by rw [add_at, Nat.zero_add]
    rw [ha, cell_of_row _ _ j #[.int .u32 (v : Int)] 29 (0, 0) (heap_alloc_new w _)]
    simpa [numsM] using hu⟩⟩
set_option maxRecDepth 100000 in
set_option maxHeartbeats 4000000 in
theorem vec_rd {w : World} {R : Nat} {s : ByteArray} {l : List UInt8} (h : RdL w R s l) :
    Calls Try.prog 47 #[.agg #[.pointer (some ⟨R, 0, none⟩)]] w fun e w' => VecEnd R s w (rdVec l) e w' := by
  obtain ⟨N, hN⟩ : ∃ N, N = w.heap.size := ⟨_, rfl⟩
  obtain ⟨W, hW⟩ : ∃ W, W = w.alloc (.cells #[.pointer (some ⟨R, 0, none⟩)] 63) := ⟨_, rfl⟩
  have hbA := ba (br w) (.cells #[.pointer (some ⟨R, 0, none⟩)] 63)
  have hxA := heap_alloc_new w (.cells #[.pointer (some ⟨R, 0, none⟩)] 63)
  rw [← hW] at hxA hbA
  rw [← hN] at hxA
  have hNR : N ≠ R := by have := h.lt; omega
  have hRN : R < N := by have := h.lt; omega
  have c0 : W.cell? ⟨N, 0, none⟩ = some (.pointer (some ⟨R, 0, none⟩)) := cell_of_row _ _ 0 _ _ _ hxA
  have HN := Lib.hid (num_rd (h.below hbA) 1 (by omega) (by omega))
  have HK := Lib.hid (And.intro (KR.below (R := R) hbA) (And.intro hxA (And.intro hNR (And.intro hRN hN))))
  obtain ⟨r, hr⟩ : ∃ r, r = rdVec l := ⟨_, rfl⟩
  rw [← hr]
  have HR := Lib.hid hr
  clear hxA hbA h hr hNR hRN
  obtain ⟨i1, hi, hz0, hz1, hz2⟩ := info_parts info29
  go_enter Try.func47, Try.ntmps47
  go_upto_region 1 with (fail)
  rw [← hW, ← hN]
  clear hW hN
  go_wp2_with fail
  refine HN.out.mono ?_
  intro e w1 h1
  rcases hn : rdN 1 l with c | ⟨n, l1⟩
  · rw [hn] at h1
    obtain ⟨rfl, hk⟩ := h1
    have HE := Lib.hid (vecErr (s := s) (show r = .error c from by rw [HR.out]; unfold rdVec; rw [hn]) (HK.out.1.trans hk))
    clear hn hk HN
    exact bodyPost_pan rfl HE.out
  rw [hn] at h1
  obtain ⟨rfl, h1, hk⟩ := h1
  have hv : n < 256 := by simpa using (rdN_lt (by omega) hn).1
  have hw : IntKind.i64.wrap (n : Int) = (n : Int) := IntWalk.i64_in _ (by omega)
  by_cases h64 : 64 < n
  · have HE := Lib.hid (vecErr (s := s) (show r = .error 3 from by rw [HR.out]; unfold rdVec; rw [hn]; exact if_pos h64) (HK.out.1.trans hk))
    have d1 : decide (64 < n) = true := by simpa using h64
    have d2 : decide ((64 : Int) < (n : Int)) = true := by simp; omega
    clear hn hk HN h1 c0 h64
    go_wp2_with (go_at_call 50; refine (bad_so 3 _).mono ?_; rintro e w' ⟨rfl, rfl⟩)
    exact bodyPost_pan rfl HE.out
  have HRN := Lib.hid (show r = rdNs n l1 from by rw [HR.out]; unfold rdVec; rw [hn]; exact if_neg h64)
  have H1 := Lib.hid (And.intro h1 (And.intro (HK.out.1.trans hk) (keep2 HK.out.2.1 hk HK.out.2.2.1)))
  have hle : w.heap.size + 1 ≤ w1.heap.size := by have := (Array.getElem?_eq_some_iff.1 H1.out.2.2).1; have := HK.out.2.2.2.2; omega
  have d1 : decide (64 < n) = false := by simpa using h64
  have d2 : decide ((64 : Int) < (n : Int)) = false := by simp; omega
  have hn64 : n ≤ 64 := by omega
  clear hn hk HN h1 c0 h64
  go_wp2_with (go_at_call 50; refine (bad_no 3 _).mono ?_; rintro e w' ⟨rfl, rfl⟩)
  clear d1 d2 hw
  go_loopw [4, 13] (fun u i wr => ∃ (k : Nat) (vs : List Nat) (lk : List UInt8) (ad : Option Addr) (cap : Nat), k ≤ n ∧ i = .int .i64 (k : Int) ∧ u = .slice ad k cap ∧ Hid (vs.length = k ∧ rdNs k l1 = .ok (vs, lk)) ∧ wr.ownsRow (w.heap.size + 1) 29 1 (.slice ad k cap) k (numsM vs) ∧ RdL wr R s lk ∧ KR R w wr ∧ wr.heap[N]? = some (.cells #[.pointer (some ⟨R, 0, none⟩)] 63 (0, 0))) (fun _ i _ => n - (intOf i).toNat)
  case atStart => exact ⟨0, [], l1, none, 0, by omega, rfl, rfl, ⟨rfl, rfl⟩, ⟨rfl, .inl ⟨rfl, rfl⟩⟩, H1.out.1, H1.out.2.1, H1.out.2.2⟩
  case round =>
    obtain ⟨k, vs, lk, ad, cap, hk, rfl, rfl, HV, ho, hl, hkr, hb⟩ := hrel
    have c0 : wr.cell? ⟨N, 0, none⟩ = some (.pointer (some ⟨R, 0, none⟩)) := cell_of_row _ _ 0 _ _ _ hb
    by_cases hlt : k < n
    · have hbool : decide ((k : Int) < (n : Int)) = true := by simpa using hlt
      have hbool' : decide (k < n) = true := by simpa using hlt
      have hki : (k : Int) < (n : Int) := by omega
      have HN := Lib.hid (num_rd hl 4 (by omega) (by omega))
      have HB := Lib.hid (And.intro ho (And.intro hkr (And.intro hb hlt)))
      clear ho hl hkr hb hlt
      go_wp2_with fail
      refine HN.out.mono ?_
      intro e w2 h2
      rcases hn : rdN 4 lk with c | ⟨v, l2⟩
      · rw [hn] at h2
        obtain ⟨rfl, hk2⟩ := h2
        have HE := Lib.hid (vecErr (s := s) (show r = .error c from by
          rw [HRN.out, show n = (k + 1) + (n - (k + 1)) by have := HB.out.2.2.2; omega]
          refine rdNs_bad _ _ _ _ ?_
          rw [rdNs_snoc, HV.out.2]
          simp only []
          rw [hn]) (HB.out.2.1.trans hk2))
        clear hn hk2 HN
        (try simp only [Exit.inBlock, Exit.then])
        exact bodyPost_pan (P := Try.prog) (fn := Try.f47) rfl HE.out
      rw [hn] at h2
      obtain ⟨rfl, h2, hk2⟩ := h2
      have hv2 : v < 4294967296 := by simpa using (rdN_lt (by omega) hn).1
      have hw : IntKind.u32.wrap (v : Int) = (v : Int) := by rw [IntKind.wrap_u32]; omega
      have hs : rdNs (k + 1) l1 = .ok (vs ++ [v], l2) := by rw [rdNs_snoc, HV.out.2]; simp only []; rw [hn]
      have ho2 := own_keptS HB.out.1 hk2 (fun b hb e => by have h1 := (HB.out.1.lt b hb).1; have := HK.out.2.2.2.1; have := HK.out.2.2.2.2; omega)
      have hN2 : N < w2.heap.size := Nat.lt_of_lt_of_le (Array.getElem?_eq_some_iff.1 HB.out.2.2.1).1 hk2.size
      have hsz2 : w.heap.size + 1 ≤ w2.heap.size := by have := HK.out.2.2.2.2; omega
      have H2 := Lib.hid (And.intro h2 (And.intro (HB.out.2.1.trans hk2) (And.intro (keep2 HB.out.2.2.1 hk2 HK.out.2.2.1) (And.intro hs (ho2.alloc (.cells #[.int .u32 (v : Int)] 29))))))
      clear hn hk2 HN h2 c0 hs ho2 hN2
      have hkn := HB.out.2.2.2
      go_wp2_with (at_builtin; (refine wpList_append_any _ rfl (.tmp 15) (.tmp 20) 30 rfl (w.heap.size + 1) 29 i1 _ 1 4 Try.underlying30 hi hz0 hz1 hz2 rfl (by decide) _ k (numsM vs) rfl H2.out.2.2.2.2 (w2.heap.size + 1) (some ⟨w2.heap.size, 0, none⟩) 1 1 (numsM [v]) rfl (new_cell32 w2 v) (numsM_one _) (by unfold maxLen; omega) (by omega) (by simp; omega) ?_))
      intro v4 w4 ho4 hg4 hu4
      obtain ⟨a4, q4, rfl⟩ := ownForm ho4
      have hblt := fun b hb => (H2.out.2.2.2.2.lt b hb).1
      have hk4 : Kept (fun b => w.heap.size + 1 ≤ b) w2 w4 := by
        have h1 : Kept (fun b => w.heap.size + 1 ≤ b) w2 (w2.alloc (.cells #[.int .u32 (v : Int)] 29)) := Kept.of_below (ba (br w2) _)
        refine h1.trans ⟨hg4.os, hg4.tape, hg4.output, hg4.size, fun i hi hs => hg4.block i hi (fun e => hs (hblt i e.symm))⟩
      have HE := Lib.hid (And.intro (show w4.ownsRow (w.heap.size + 1) 29 1 (.slice a4 (k + 1) q4) (k + 1) (numsM (vs ++ [v])) from by
        have := ho4
        rw [show numsM (vs ++ [v]) = numsM vs ++ numsM [v] by simp [numsM]]
        exact this) (And.intro (H2.out.1.kept hk4 (by have := HK.out.2.2.2.1; have := HK.out.2.2.2.2; omega)) (And.intro (show KR R w w4 from by
          have hh := H2.out.2.1
          refine ⟨hk4.os.trans hh.os, hk4.tape.trans hh.tape, hk4.output.trans hh.output, Nat.le_trans hh.size hk4.size, fun i hi hs => ?_⟩
          exact (hk4.block i (Nat.lt_of_lt_of_le hi hh.size) (by omega)).trans (hh.block i hi hs)) (And.intro (hk4.keep H2.out.2.2.1 (by have := HK.out.2.2.2.2; omega)) (And.intro (show Hid ((vs ++ [v]).length = k + 1 ∧ rdNs (k + 1) l1 = .ok (vs ++ [v], l2)) from ⟨by rw [List.length_append, HV.out.1]; rfl, H2.out.2.2.2.1⟩) hkn)))))
      clear ho4 hg4 hu4 hk4 hkn hw hblt
      go_wp2_with fail
      exact ⟨⟨k + 1, vs ++ [v], l2, a4, q4, HE.out.2.2.2.2.2, by go_num, by first | rfl | go_num, HE.out.2.2.2.2.1, HE.out.1, HE.out.2.1, HE.out.2.2.1, HE.out.2.2.2.1⟩, measI HE.out.2.2.2.2.2⟩
    · have hbool : decide ((k : Int) < (n : Int)) = false := by simpa using hlt
      have hbool' : decide (k < n) = false := by simpa using hlt
      have hkn : k = n := by omega
      have HE := Lib.hid (show VecEnd R s w r (.returned (.slice ad k cap)) wr from vecOk (show r = .ok (vs, lk) from by rw [HRN.out, ← hkn]; exact HV.out.2) HV.out.1.symm (by unfold OwnN; rw [HV.out.1]; exact ownMore ho (by omega)) hl hkr)
      clear ho hl hkr hb hkn
      go_wp2_with fail
      go_ret
      exact HE.out
end Go.Proofs.Ytgpojbmloielmaa
