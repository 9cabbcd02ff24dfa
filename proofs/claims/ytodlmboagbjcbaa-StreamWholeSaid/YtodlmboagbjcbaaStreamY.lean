/-
  The law StreamWhole.
  Conditions: none.
-/
import Derived.Test.YtodlmboagbjcbaaStreamX
import Derived.Test.YtodlmboagbjcbaaStreamT
import Derived.Test.YtodlmboagbjcbaaStreamC
import Derived.Deep.DeepCutAuto
import Derived.Deep.RegionHeld3
import Derived.IntWalk
namespace Go.Proofs.Ytodlmboagbjcbaa
set_option linter.unusedVariables false
open Go.RowKit IM
theorem info23 : (Try.prog.info? 23).map (fun i => (i.zero, i.size, i.bytes)) = some (some (.int .u32 0), 1, 4) := by kernel_rfl
theorem Reads.take {w : World} {B size n : Nat} {A : Option Addr} {xs : List Value} (h : Reads w B size A n xs) {k : Nat} (hk : k ≤ n) : Reads w B size A k (xs.take (k * size)) := by
  have hl : k * size ≤ n * size := Nat.mul_le_mul_right _ hk
  refine ⟨by rw [List.length_take, h.1]; omega, fun hn => ?_⟩
  obtain ⟨ad, rfl, hb, hcell⟩ := h.2 (by omega)
  refine ⟨ad, rfl, hb, fun j u hu => hcell j u ?_⟩
  rw [List.getElem?_take] at hu
  split at hu
  · exact hu
  · cases hu
theorem ownF1 (w : World) (base : Nat) (e : TypeId) (h : base ≤ w.heap.size) : (w.alloc (.cells #[] e)).drew.ownsRow base e 1 (.slice (some ⟨w.heap.size, 0, none⟩) 0 0) 0 [] :=
  (World.ownsRow_made w #[] 0 h (by decide) rfl).drew
theorem numsV_one (L : List Nat) : ∀ u ∈ numsV L, u.oneCell' = true := by
  intro u hu
  unfold numsV at hu
  obtain ⟨q, _, rfl⟩ := List.mem_map.1 hu
  rfl
theorem numsV_take (L : List Nat) (k : Nat) : (numsV L).take (k * 1) = numsV (L.take k) := by unfold numsV; rw [Nat.mul_one, List.map_take]
theorem numsV_drop (L : List Nat) (k : Nat) : (numsV L).drop (k * 1) = numsV (L.drop k) := by unfold numsV; rw [Nat.mul_one, List.map_drop]
set_option maxRecDepth 100000 in
set_option maxHeartbeats 4000000 in
theorem law_streamWhole (n : Int) (B : Nat) (ts : Option Addr) (m cap : Nat) (L : List Nat) (w : World) (hr : Reads w B 1 ts m (L.map fun t : Nat => .int .u16 (t : Int))) (hB : B ≤ w.heap.size) (hts : ∀ t ∈ L, t < 65536) :
    Calls Try.prog 5 #[.int .i64 n, .slice ts m cap] w fun e w' => e = .returned (.bool true) ∧ Below w.heap.size w w' := by
  have HR := Lib.hid hr
  clear hr
  go_enter Try.func5, Try.ntmps5
  go_wp2_with fail
  refine (awake10_any _).mono ?_
  rintro e w1 ⟨rfl, hb1⟩
  by_cases h1 : n < 0
  · have d1 : decide (n < 0) = true := by simpa using h1
    go_wp2
    go_ret
    exact ⟨rfl, hb1⟩
  by_cases h2 : 64 < n
  · have d1 : decide (n < 0) = false := by simpa using h1
    have d2 : decide (64 < n) = true := by simpa using h2
    go_wp2
    go_ret
    exact ⟨rfl, hb1⟩
  by_cases h3 : 200 < m
  · have d1 : decide (n < 0) = false := by simpa using h1
    have d2 : decide (64 < n) = false := by simpa using h2
    have d3 : decide (200 < m) = true := by simpa using h3
    have d4 : decide ((200 : Int) < (m : Int)) = true := by simp; omega
    go_wp2
    go_ret
    exact ⟨rfl, hb1⟩
  obtain ⟨N, rfl⟩ : ∃ N : Nat, n = (N : Int) := ⟨n.toNat, by omega⟩
  have d1 : decide ((N : Int) < 0) = false := by simp
  have d2 : decide (64 < (N : Int)) = false := by simp; omega
  have d2' : decide (64 < N) = false := by simp; omega
  have d3 : decide (200 < m) = false := by simpa using h3
  have d4 : decide ((200 : Int) < (m : Int)) = false := by simp; omega
  go_wp2
  have hq0 := info_parts info23
  obtain ⟨i0, hi, hz0, hz1, hz2⟩ := hq0
  have hw0 := hb1.size
  have hN : N ≤ 64 := by omega
  clear d1 d2 d2' d3 d4
  go_loopw [5, 6] (fun u i wr => ∃ (k : Nat), k ≤ N ∧ i = .int .i64 (k : Int) ∧ wr.ownsRow w.heap.size 23 1 u k ((List.range k).map fun q : Nat => .int .u32 ((q : Int) + 1)) ∧ Below w.heap.size w wr) (fun _ i _ => N - (intOf i).toNat)
  case atStart => exact ⟨0, by omega, rfl, ⟨rfl, .inl ⟨rfl, rfl⟩⟩, hb1⟩
  case round =>
    obtain ⟨k, hk, rfl, ho, hbr⟩ := hrel
    by_cases hlt : k < N
    · have hbool : decide ((k : Int) < (N : Int)) = true := by simpa using hlt
      have HO := Lib.hid (And.intro ho hbr)
      clear ho hbr
      go_wp2_with (at_builtin; refine wpList_append_any _ rfl (.tmp 32) (.tmp 36) 35 rfl w.heap.size 23 i0 _ 1 4 Try.underlying35 hi hz0 hz1 hz2 rfl (by decide) _ k _ rfl (HO.out.1.alloc _) (wr.heap.size + 1) _ 1 1 [.int .u32 ((k : Int) + 1)] rfl ?c1 (by intro u hu; simp at hu; subst hu; rfl) ?c3 ?c4 ?c5 ?_)
      case c1 => exact ⟨rfl, fun _ => ⟨_, rfl, by show wr.heap.size < _; omega, fun j u hu => new_cells wr [.int .u32 ((k : Int) + 1)] 23 j u hu⟩⟩
      case c3 => unfold maxLen; omega
      case c4 => omega
      case c5 => have := HO.out.2.size; simp; omega
      intro u7 w7 ho7 hg7 hu7
      have hb7 := grown_below (ba HO.out.2 _) (by have := HO.out.2.size; simp; omega) hg7 fun b hb => (HO.out.1.lt b hb).1
      have ho8 : w7.ownsRow w.heap.size 23 1 u7 (k + 1) ((List.range (k + 1)).map fun q : Nat => .int .u32 ((q : Int) + 1)) := by
        rw [List.range_succ, List.map_append]
        exact ho7
      clear ho7 hg7 hu7 HO
      go_wp2
      exact ⟨⟨k + 1, by omega, by go_num, ho8, hb7⟩, by simp [intOf]; omega⟩
    · have hbool : decide ((k : Int) < (N : Int)) = false := by simpa using hlt
      obtain rfl : k = N := by omega
      clear hbool hlt hk
      go_wp2_with fail
      refine (sNew_any 64 _).mono ?_
      rintro e w3 ⟨D, M, rfl, h3, hb3', hD, hM⟩
      have hDw : w.heap.size ≤ D := Nat.le_trans hbr.size hD
      have hMw : w.heap.size ≤ M := Nat.le_trans hbr.size hM
      have hb3 := hbr.trans (hb3'.mono hbr.size)
      have ho3 := hown_below ho hb3'
      have hap : ∀ b, u5.ownBlock = some b → ¬ Two D M b := by
        intro b hb
        have := (ho.lt b hb).2
        unfold Two
        omega
      clear hb3' hD hM ho hbr
      have h30 : StrAt w3 D M 64 0 [] := h3
      have hL0 : OL w.heap.size D M ((List.range k).map (· + 1)) [] u5 (.slice none 0 0) w3 := ⟨by simpa [numsV, Function.comp_def] using ho3, ⟨rfl, .inl ⟨rfl, rfl⟩⟩, hap, (by intro b h; cases h), (by intro b _ h; cases h)⟩
      clear ho3 hap h3
      go_wp2
      have hq1 := info_parts info37
      obtain ⟨i1, hi1, hy0, hy1, hy2⟩ := hq1
      have hSS : ∀ k, k < w.heap.size → ¬ Two D M k := by unfold Two; intro k hk; omega
      go_loopw [5, 8, 9] (fun u v i wr => ∃ (j : Nat) (L : List Nat) (p : Nat × Hel × List Msg × List Msg), i = .int .i64 (j : Int) ∧ j + L.length = k ∧ InvL k L p.1 p.2.1 ∧ InvO 64 p ∧ StrAt wr D M 64 p.1 p.2.1 ∧ OL w.heap.size D M L p.2.2.2 u v wr ∧ Below w.heap.size w wr) (fun _ _ i _ => k - (intOf i).toNat)
      case atStart => exact ⟨0, _, (0, [], [], []), rfl, by simp, invL_zero k, invO_zero 64, h30, hL0, hb3⟩
      case round =>
        clear h30 hL0 hb3
        obtain ⟨j, L, p, rfl, hj, hIL, hIO, hSt, hOL, hbr⟩ := hrel
        obtain ⟨c, H, F, A⟩ := p
        simp only at *
        by_cases hL : L = []
        · subst hL
          obtain ⟨rfl, hH0⟩ := invL_end hIL hIO.keys (fun x hx => (hIO.held x hx).2.1) hIO.gap
          have hlenA : A.length = c := hIO.len
          have hseq : ∀ i (h : i < A.length), A[i].seq = i + 1 := hIO.seq
          have HI := Lib.hid (And.intro hseq hlenA)
          obtain ⟨adL, capL, rfl⟩ := own_slice hOL.f
          obtain ⟨adA, capA, rfl⟩ := own_slice hOL.a
          clear hIL hIO hseq hlenA
          go_wp2
          have hA64 : A.length ≤ 64 := by have := HI.out.2; omega
          go_loopw [13] (fun i ws => ∃ (q : Nat), q ≤ A.length ∧ i = .int .i64 (q : Int) ∧ StrAt ws D M 64 c H ∧ ws.ownsRow w.heap.size 37 6 (.slice adA A.length capA) A.length (rowsM A) ∧ Below w.heap.size w ws) (fun i _ => A.length - (intOf i).toNat)
          case atStart => exact ⟨0, by omega, rfl, hSt, hOL.a, hbr⟩
          case round =>
            clear hSt hOL hbr
            obtain ⟨q, hq, rfl, hSq, hOq, hbq⟩ := hrel
            by_cases hlt : q < A.length
            · have hbool : decide ((q : Int) < (A.length : Int)) = true := by simpa using hlt
              have hqi : (q : Int) < (A.length : Int) := by omega
              obtain ⟨gA, rfl, hgA, rA⟩ := own_msg hOq hlt
              have s1 : wr.cell? ⟨gA, q * 6 + 1, none⟩ = some (.int .u32 ((q : Int) + 1)) := by
                have := rA 1 (.int .u32 (A[q].seq : Int)) rfl
                rw [HI.out.1 q hlt] at this
                simpa using this
              have HH := Lib.hid (And.intro hSq (And.intro hOq hbq))
              clear hSq hOq hbq rA
              go_wp2
              exact ⟨⟨q + 1, by omega, by go_num, HH.out.1, HH.out.2.1, HH.out.2.2⟩, by simp [intOf]; omega⟩
            · have hbool : decide ((q : Int) < (A.length : Int)) = false := by simpa using hlt
              obtain rfl : q = A.length := by omega
              have hAc := HI.out.2
              have d1 : decide ((A.length : Int) = (c : Int)) = true := by simp; omega
              clear hbool hlt hq
              go_wp2_with fail
              refine (sHeld_any D M _ 64 _ _ hSq).mono ?_
              rintro e w9 ⟨rfl, rfl⟩
              have hH0' : (H.length : Int) = 0 := by omega
              go_wp2_with fail
              refine (sCount_any D M _ 64 _ _ hSq).mono ?_
              rintro e w9 ⟨rfl, rfl⟩
              go_wp2
              go_ret
              exact ⟨rfl, hbq⟩
        · have hLl : 0 < L.length := List.length_pos_iff.2 hL
          have dL : decide ((0 : Int) < (L.length : Int)) = true := by simp; omega
          have dL2 : decide (0 < L.length) = true := by simp; omega
          obtain ⟨adL, capL, rfl⟩ := own_slice hOL.f
          have HW := Lib.hid (And.intro hIL (And.intro hIO (And.intro hSt (And.intro hOL hbr))))
          have HN := Lib.hid (And.intro hN hj)
          obtain ⟨bx, hbx⟩ : ∃ b : Bool, decide ((j : Int) < (m : Int)) = b := ⟨_, rfl⟩
          clear hIL hIO hSt hOL hbr hN
          go_upto_if 47 with (fail)
          go_cut [10] (fun s10 wx => (∃ a : Nat, a < L.length ∧ s10 = .int .i64 (a : Int)) ∧ wr = wx)
          case first =>
            by_cases hjm : j < m
            · obtain ⟨ad, x, rfl, hadb, hx, hcx⟩ := HR.out.at_ hjm
              obtain ⟨t, ht, htb⟩ : ∃ t : Nat, x = .int .u16 (t : Int) ∧ t < 65536 := by
                rw [List.getElem?_map] at hx
                obtain ⟨y, hy1, hy⟩ := Option.map_eq_some_iff.1 hx
                exact ⟨y, hy.symm, hts y (List.mem_of_getElem? hy1)⟩
              subst ht
              have hct : wr.cell? (ad.add j) = some (.int .u16 (t : Int)) := (HW.out.2.2.2.2.cell (p := ad.add j) (by rw [show (ad.add j).block = ad.block from by unfold Addr.add; split <;> rfl]; omega)).trans hcx
              have hmod : (t : Int).tmod (L.length : Int) = ((t % L.length : Nat) : Int) := rfl
              have hm2 : t % L.length < L.length := Nat.mod_lt _ hLl
              have hji : (j : Int) < (m : Int) := by omega
              have hL0' : (L.length : Int) ≠ 0 := by omega
              obtain rfl : bx = true := by rw [← hbx]; simpa using hjm
              go_wp2_with fail
              go_meet
              exact ⟨⟨t % L.length, hm2, rfl⟩, rfl⟩
            · obtain rfl : bx = false := by rw [← hbx]; simpa using hjm
              go_wp2_with fail
              go_meet
              exact ⟨⟨0, hLl, rfl⟩, rfl⟩
          case rest =>
            obtain ⟨⟨a, ha, rfl⟩, rfl⟩ := hcut
            have hai : (a : Int) < (L.length : Int) := by omega
            have HW2 := HW.out
            obtain ⟨hIL, hIO, hSt, hOL, hbr⟩ := HW2
            obtain ⟨g, cap', hv, hg0, hg1⟩ := hOL.f.form hLl
            injection hv with hv1 hv2 hv3
            subst hv1
            have hcl : wr.cell? ⟨g, a, none⟩ = some (.int .u32 (L[a] : Int)) := by
              have := hOL.f.cells (g := g) rfl a (.int .u32 (L[a] : Int)) (by unfold numsV; rw [List.getElem?_map, List.getElem?_eq_getElem ha]; rfl)
              rw [← this]
              congr 1
              unfold Addr.add
              split <;> simp_all
            obtain ⟨x, hx⟩ : ∃ x : Msg, x = ⟨0, L[a], 0, 0, [], ⟨#[]⟩, none, 0⟩ := ⟨_, rfl⟩
            have hxs : x.seq = L[a] := by rw [hx]
            have hxm : x.seq ∈ L := by rw [hxs]; exact List.getElem_mem _
            have hk64 := HN.out.1
            have hcode := invL_code hIL hk64 hxm
            have hxl := hIL.left _ hxm
            have hsum := hIL.sum
            have hst := invO_step hIO x
            have hil := invL_step hIL hk64 hIO.keys ha hxs
            unfold stepO at hst
            simp only at hst
            rw [if_pos hcode] at hst
            have hT := sTake_any D M c 64 H x wr hSt hIO.keys (by omega) (by omega) (by omega) (by omega)
            unfold STakePost at hT
            rw [hcode] at hT
            have hlen2 := hst.len
            have hsum2 := hil.sum
            have hlen1 := hIO.len
            simp only at hlen1 hlen2
            have hO : (takeS 64 c H x).2.2.length ≤ 64 := by simp at hlen2; omega
            have hA : A.length ≤ 64 := by omega
            generalize takeS 64 c H x = P at *
            obtain ⟨c', H', O'⟩ := P
            simp only at *
            have HT := Lib.hid hT
            have HB := Lib.hid (And.intro hO hA)
            have HI2 := Lib.hid (And.intro hst hil)
            have hxa : (msgA x) = #[.int .i64 0, .int .u32 (L[a] : Int), .int .u64 0, .int .i64 0, .slice none 0 0, .string ⟨#[]⟩] := by rw [hx]; rfl
            rw [hxa] at HT
            clear hIL hIO hSt hOL hbr hxs hxm hxl hcode hst hil hT hlen2 hsum hsum2 hlen1 hO hA hxa hx
            go_wp2_with fail
            refine HT.out.mono ?_
            rintro e w4 ⟨v4, rfl, ho4, hS4, hK4⟩
            have hb4 := hK4.out HW.out.2.2.2.2 HW.out.2.2.2.2.size hSS
            have hO4 := HW.out.2.2.2.1.two hK4
            obtain ⟨ad4, cap4, rfl⟩ := own_slice ho4
            have hro := Reads.of_own ho4
            have H4 := Lib.hid (And.intro hO4 (And.intro hS4 (And.intro hb4 hro)))
            clear hb4 hO4 hro hS4 hK4 ho4
            go_wp2_with (at_builtin; refine wpList_append_any _ rfl (.tmp 68) (.tmp 69) 22 rfl w.heap.size 37 i1 _ 6 72 Try.underlying22 hi1 hy0 hy1 hy2 rfl (by decide) _ A.length (rowsM A) rfl H4.out.1.a _ _ O'.length _ (rowsM O') rfl H4.out.2.2.2 (rowsM_one O') ?d3 ?d4 ?d5 ?_)
            case d3 => have := HB.out; unfold maxLen; omega
            case d4 => have := HB.out; omega
            case d5 => exact H4.out.2.2.1.size
            intro v6 w6 ho6 hg6 hu6
            obtain ⟨k1, k2, k3⟩ := H4.out.1.pushA H4.out.2.1 H4.out.2.2.1 H4.out.2.2.1.size hg6 ho6 hu6
            clear ho6 hg6 hu6 H4
            have hrow := Reads.of_own k1.f
            have hb6 := br w6
            have hz6 := k3.size
            have hc0 : L.length ≤ cap' := by
              obtain ⟨g2, cap2, cur2, e1, e2, e3, e4, e5⟩ := k1.f.2.resolve_left (by rintro ⟨h, _⟩; cases h)
              injection e1 with e1 e6 e7
              omega
            have hcut : Reads w6 w6.heap.size 1 (if cap' = a + 1 then some ⟨g, 0, none⟩ else some ⟨g, a + 1, none⟩) (L.length - (a + 1)) (numsV (L.drop (a + 1))) := by
              have := numsV_drop L (a + 1) ▸ hrow.cut (k := a + 1) (cap := cap') (by omega) (by omega)
              simpa [Addr.add] using this
            have HR6 := Lib.hid (And.intro (numsV_take L a ▸ hrow.take (k := a) (by omega)) (And.intro hcut hrow))
            have HK6 := Lib.hid (And.intro k1 (And.intro k2 k3))
            clear k1 k2 k3 hrow hcut
            have e1 : IntKind.i64.wrap ((a : Int) + 1) = (a : Int) + 1 := IntWalk.i64_in _ (by omega)
            have e2 : (0 : Int) ≤ (a : Int) + 1 := by omega
            have e3 : (a : Int) + 1 ≤ (L.length : Int) := by omega
            have e4 : ((a : Int) + 1).toNat = a + 1 := by omega
            have e5 : (a : Int) ≤ (cap' : Int) := by omega
            have e6 : (L.length : Int) ≤ (cap' : Int) := by omega
            have e7 : (0 : Int) ≤ (a : Int) := by omega
            have e8 : (0 : Int) ≤ (L.length : Int) := by omega
            go_wp2_with fail
            go_region_held3 (fun _ => True) (trivial)
              (first
                | (refine step_append_any _ rfl (.tmp 71) (.tmp 74) 35 rfl w6.heap.size 23 i0 _ 1 4 Try.underlying35 hi hz0 hz1 hz2 rfl (by decide) (.slice (some ⟨w6.heap.size, 0, none⟩) 0 0) 0 [] rfl (ownF1 _ _ _ (Nat.le_refl _)) w6.heap.size _ a _ _ rfl (HR6.out.1.below (ba hb6 _).drew) (numsV_one _) (by unfold maxLen; omega) (by omega) (by simp) ?_
                   intro v7 w7 ho7 hg7 hu7
                   have hb7 := grown_below (ba hb6 _).drew (by simp) hg7 (fun b hb => ((ownF1 w6 w6.heap.size 23 (Nat.le_refl _)).lt b hb).1))
                | (refine step_append_any _ rfl (.tmp 75) (.tmp 79) 35 rfl w6.heap.size 23 i0 _ 1 4 Try.underlying35 hi hz0 hz1 hz2 rfl (by decide) v7 _ _ rfl ho7 w6.heap.size _ (L.length - (a + 1)) _ (numsV (L.drop (a + 1))) rfl (HR6.out.2.1.below hb7) (numsV_one _) (by unfold maxLen; omega) (by omega) hb7.size ?_
                   intro v8 w8 ho8 hg8 hu8
                   have hb8 := grown_below hb7 hb7.size hg8 (by intro b hb; exact (ho7.lt b hb).1)))
            clear e1 e2 e3 e4 e5 e6 e7 e8
            have hS8 := HK6.out.2.1.below hb8
            have hlK : (L.take a ++ L.drop (a + 1)).length = 0 + a + (L.length - (a + 1)) := by simp; omega
            have hvK : numsV (L.take a ++ L.drop (a + 1)) = [] ++ numsV (L.take a) ++ numsV (L.drop (a + 1)) := by simp [numsV]
            rw [← hvK, ← hlK] at ho8
            have hOL8 := HK6.out.1.anew hb8 ho8 HK6.out.2.2.size HK6.out.2.1.lt.1 HK6.out.2.1.lt.2
            have hbw8 := HK6.out.2.2.trans (hb8.mono HK6.out.2.2.size)
            have HE := Lib.hid (And.intro hS8 (And.intro hOL8 (And.intro hbw8 hlK)))
            clear hS8 hOL8 hbw8 hlK hvK ho8 hg8 hu8 hb8 hu7 hg7 ho7 hb7 hb6
            go_wp2
            exact ⟨⟨j + 1, L.take a ++ L.drop (a + 1), (c', H', F ++ [x], A ++ O'), by go_num, by have := HE.out.2.2.2; have := HN.out.2; omega, HI2.out.2, HI2.out.1, HE.out.1, HE.out.2.1, HE.out.2.2.1⟩, by have := HN.out.2; simp [intOf]; omega⟩
end Go.Proofs.Ytodlmboagbjcbaa
