/-
  What the reference's From and Above return.
  Conditions: none.
-/
import Derived.Test.YtgjlcjbmcnofiaaDoorHoldKS
import Derived.Test.YtgjlcjbmcnofiaaDoorCmpB
import Derived.Test.YtgjlcjbmcnofiaaDoorSortI
namespace Go.Proofs.YtgjlcjbmcnofiaaDoor
set_option linter.unusedVariables false
set_option linter.unusedSimpArgs false
open Go.RowKit
theorem fromA_split (A : List Msg) (lo : Nat → Nat) (p : Int) (seq k : Nat) : ∀ d, ∃ r, fromA A lo p seq (k + d) = fromA A lo p seq k ++ r
  | 0 => ⟨[], by simp⟩
  | d + 1 => by
    obtain ⟨r, hr⟩ := fromA_split A lo p seq k d
    exact ⟨r ++ _, by rw [← Nat.add_assoc, fromA_succ, hr, List.append_assoc]⟩
theorem fromA_take {A : List Msg} {lo : Nat → Nat} {p : Int} {seq k n t : Nat} (hk : k ≤ n) (hl : (fromA A lo p seq k).length ≤ t) (hor : k = n ∨ t ≤ (fromA A lo p seq k).length) : (fromA A lo p seq n).take t = fromA A lo p seq k := by
  rcases hor with rfl | h
  · exact List.take_of_length_le hl
  · obtain ⟨r, hr⟩ := fromA_split A lo p seq k (n - k)
    rw [show k + (n - k) = n by omega] at hr
    have : t = (fromA A lo p seq k).length := by omega
    rw [hr, this, List.take_left']
    rfl
set_option maxRecDepth 100000 in
set_option maxHeartbeats 8000000 in
theorem rFrom_any (v : Value) (lo : Nat → Nat) (A : List Msg) (p : Int) (seq : Nat) (most : Int) (w : World) (h : RowsIn w v A) (hl : A.length ≤ 1000) (hf : ∀ m ∈ A, procB m.frm = true) :
    Calls Tryd.prog 87 #[.agg (refX v lo), .int .i64 p, .int .u32 (seq : Int), .int .i64 most] w fun e w' => OwnEnd w ((fromA A lo p seq (cntA A p)).take most.toNat) e w' ∧ Below w.heap.size w w' := by
  obtain ⟨i0, hi, hz0, hz1, hz2⟩ := info_parts info42
  obtain ⟨X, hX⟩ : ∃ X, X = refX v lo := ⟨_, rfl⟩
  have HCo := Lib.hid (fun (W : World) (hW : Below w.heap.size w W) => rCount_any v lo A p W (h.below hW) hl)
  have HGe := Lib.hid (fun (W : World) (hW : Below w.heap.size w W) (s : Nat) => rGet_any v lo A p s W (h.below hW) hl hf)
  have hXs : X.size = 65 := by rw [hX, refX_size]
  have hsz : (Tryd.prog.info? 67).map (·.size) = some X.size := by rw [hXs]; kernel_rfl
  rw [← hX] at HCo HGe ⊢
  have hx := heap_alloc_new w (.cells X 67)
  have hb := ba (br w) (.cells X 67)
  have hN := ofP_len A p
  have HS := Lib.hid hsz
  clear h hX hf hXs hsz
  go_enter Tryd.func87, Tryd.ntmps87
  go_upto_region 1 with (fail)
  generalize w.alloc (.cells X 67) = W at *
  have HB := Lib.hid (And.intro hb hx)
  clear hb hx
  go_wp2_with (with_reducible refine wpList_load_row rfl 67 (.tmp 4) rfl w.heap.size rfl 67 X (0, 0) _ HB.out.2 Tryd.underlying67 rfl HS.out ?_)
  refine (HCo.out _ HB.out.1).mono ?_
  rintro e w1 ⟨rfl, hb1⟩
  have hn1 : cntA A p ≤ 1000 := by unfold cntA; omega
  obtain ⟨n, hn⟩ : ∃ n, n = cntA A p := ⟨_, rfl⟩
  rw [← hn] at hn1 ⊢
  have HB1 := Lib.hid (And.intro (bt HB.out.1 hb1) ((hb1.block _ (Array.getElem?_eq_some_iff.1 HB.out.2).1).trans HB.out.2))
  have HNN := Lib.hid hn
  clear hb1 hN hn
  go_wp2_with fail
  go_loopw [9, 11] (fun u s wr => ∃ k : Nat, k ≤ n ∧ s = .int .u32 ((k : Int) + 1) ∧ (fromA A lo p seq k).length ≤ most.toNat ∧ wr.ownsRow w.heap.size 42 6 u (fromA A lo p seq k).length (rowsM (fromA A lo p seq k)) ∧ Below w.heap.size w wr ∧ wr.heap[w.heap.size]? = some (.cells X 67 (0, 0))) (fun _ s _ => n + 1 - (intOf s).toNat)
  case atStart => exact ⟨0, by omega, rfl, Nat.zero_le _, ⟨rfl, .inl ⟨rfl, rfl⟩⟩, HB1.out⟩
  case round =>
    obtain ⟨k, hk, rfl, hm, ho, hB, hxr⟩ := hrel
    have hFl := fromA_len A lo p seq k
    have hsu := fromA_succ A lo p seq k
    obtain ⟨F, hF⟩ : ∃ F, F = fromA A lo p seq k := ⟨_, rfl⟩
    have HFT := Lib.hid (show (k = n ∨ most.toNat ≤ F.length) → (fromA A lo p seq n).take most.toNat = F from fun hor => by rw [hF]; exact fromA_take hk (hF ▸ hm) (hF ▸ hor))
    rw [← hF] at hm ho hFl hsu
    obtain ⟨a9, c9, rfl⟩ := ownForm ho
    by_cases hlt : k < n
    · have hbool : decide ((k : Int) + 1 ≤ (n : Int)) = true := by simp; omega
      by_cases hlm : (F.length : Int) < most
      · have dm : decide ((F.length : Int) < most) = true := by simpa using hlm
        have HK := Lib.hid (And.intro ho (And.intro hB (And.intro hxr (And.intro hlt (And.intro hm (And.intro hsu hlm))))))
        have hk1 : k ≤ 1000 := by omega
        have HG := Lib.hid (show ∀ W' : World, Below w.heap.size w W' → Calls Tryd.prog 83 #[.agg X, .int .i64 p, .int .u32 ((k : Int) + 1)] W' fun e w' => e = .returned (getR (getA A lo p (k + 1))) ∧ Below W'.heap.size W' w' from fun W' hW' => HGe.out W' hW' (k + 1))
        have hFle : F.length ≤ 1000 := by omega
        clear ho hB hxr hm hsu hF hFl
        go_wp2_with (with_reducible refine wpList_load_row rfl 67 (.tmp 4) rfl w.heap.size rfl 67 X (0, 0) _ HK.out.2.2.1 Tryd.underlying67 rfl HS.out ?_)
        refine (HG.out _ HK.out.2.1).mono ?_
        rintro e w2 ⟨rfl, hb2⟩
        have ho2 := own_keptS HK.out.1 (Kept.of_below (S := fun _ => False) hb2) (fun _ _ h => h)
        have hB2 := bt HK.out.2.1 hb2
        have hx2 := (hb2.block _ (Array.getElem?_eq_some_iff.1 HK.out.2.2.1).1).trans HK.out.2.2.1
        have HSU := Lib.hid HK.out.2.2.2.2.2.1
        cases hg : getA A lo p (k + 1) with
        | none =>
          have hF2 : fromA A lo p seq (k + 1) = F := by rw [HSU.out, hg]; split <;> simp
          have HE := Lib.hid (And.intro (ho2.alloc (.cells (msgA zeroM) 42)) (And.intro (ba hB2 (.cells (msgA zeroM) 42)) ((Below.heap_alloc w2 (.cells (msgA zeroM) 42) _ (Array.getElem?_eq_some_iff.1 hx2).1).trans hx2)))
          rw [show msgA zeroM = #[.int .i64 0, .int .u32 0, .int .u64 0, .int .i64 0, .slice none 0 0, .string ⟨#[]⟩] from rfl] at HE
          have HF2 := Lib.hid hF2
          rw [show getR none = .tuple #[.agg #[.int .i64 0, .int .u32 0, .int .u64 0, .int .i64 0, .slice none 0 0, .string ⟨#[]⟩], .bool false] from rfl]
          clear ho2 hB2 hx2 hg hF2
          go_wp2
          exact ⟨⟨k + 1, hlt, by go_num, by rw [HF2.out]; exact HK.out.2.2.2.2.1, by rw [HF2.out]; exact HE.out.1, HE.out.2⟩, by simp [intOf]; omega⟩
        | some m =>
          obtain ⟨M, hM⟩ : ∃ M, M = m := ⟨_, rfl⟩
          rw [← hM] at hg
          have hma : getR (some m) = .tuple #[.agg #[.int .i64 m.frm, .int .u32 (m.seq : Int), .int .u64 (m.stamp : Int), .int .i64 m.service, .slice m.da m.ds.length m.dc, .string m.pay], .bool true] := rfl
          rw [hma]
          have HE := Lib.hid (And.intro (ho2.alloc (.cells #[.int .i64 m.frm, .int .u32 (m.seq : Int), .int .u64 (m.stamp : Int), .int .i64 m.service, .slice m.da m.ds.length m.dc, .string m.pay] 42)) (And.intro (ba hB2 (.cells #[.int .i64 m.frm, .int .u32 (m.seq : Int), .int .u64 (m.stamp : Int), .int .i64 m.service, .slice m.da m.ds.length m.dc, .string m.pay] 42)) (And.intro ((Below.heap_alloc w2 (.cells #[.int .i64 m.frm, .int .u32 (m.seq : Int), .int .u64 (m.stamp : Int), .int .i64 m.service, .slice m.da m.ds.length m.dc, .string m.pay] 42) _ (Array.getElem?_eq_some_iff.1 hx2).1).trans hx2) (heap_alloc_new w2 (.cells #[.int .i64 m.frm, .int .u32 (m.seq : Int), .int .u64 (m.stamp : Int), .int .i64 m.service, .slice m.da m.ds.length m.dc, .string m.pay] 42)))))
          by_cases hs : seq ≤ k + 1
          · have ds : decide ((seq : Int) ≤ (k : Int) + 1) = true := by simp; omega
            have HF2 := Lib.hid (show fromA A lo p seq (k + 1) = F ++ [m] by rw [HSU.out, hg, if_pos hs, hM]; rfl)
            clear ho2 hB2 hx2 hg hM hma hs
            go_upto_region 8 with (fail)
            generalize w2.alloc (.cells #[.int .i64 m.frm, .int .u32 (m.seq : Int), .int .u64 (m.stamp : Int), .int .i64 m.service, .slice m.da m.ds.length m.dc, .string m.pay] 42) = W3 at *
            have y0 : W3.cell? ⟨w2.heap.size, 0, none⟩ = some (.int .i64 m.frm) := cell_of_row _ _ 0 _ _ _ HE.out.2.2.2
            have y1 : W3.cell? ⟨w2.heap.size, 1, none⟩ = some (.int .u32 (m.seq : Int)) := cell_of_row _ _ 1 _ _ _ HE.out.2.2.2
            have y2 : W3.cell? ⟨w2.heap.size, 2, none⟩ = some (.int .u64 (m.stamp : Int)) := cell_of_row _ _ 2 _ _ _ HE.out.2.2.2
            have y3 : W3.cell? ⟨w2.heap.size, 3, none⟩ = some (.int .i64 m.service) := cell_of_row _ _ 3 _ _ _ HE.out.2.2.2
            have y4 : W3.cell? ⟨w2.heap.size, 4, none⟩ = some (.slice m.da m.ds.length m.dc) := cell_of_row _ _ 4 _ _ _ HE.out.2.2.2
            have y5 : W3.cell? ⟨w2.heap.size, 5, none⟩ = some (.string m.pay) := cell_of_row _ _ 5 _ _ _ HE.out.2.2.2
            have hz := HE.out.2.1.size
            go_wp2_with (at_builtin; refine wpList_append_any _ rfl (.tmp 41) (.tmp 43) 27 rfl w.heap.size 42 i0 _ 6 72 Tryd.underlying27 hi hz0 hz1 hz2 rfl (by decide) _ F.length (rowsM F) rfl (HE.out.1.alloc _) (W3.heap.size + 1) (some ⟨W3.heap.size, 0, none⟩) 1 1 (msgA m).toList rfl (reads_new W3 m) (msgA_one m) (by unfold maxLen; omega) (by omega) (by simp; omega) ?_)
            intro v6 w6 ho6 hg6 hu6
            have hb6 : Below w.heap.size w w6 := grownB (ba HE.out.2.1 _) (ba HE.out.2.1 _).size hg6 (fun b hb => (HE.out.1.lt b hb).1)
            have ho6' : w6.ownsRow w.heap.size 42 6 v6 (fromA A lo p seq (k + 1)).length (rowsM (fromA A lo p seq (k + 1))) := by
              rw [HF2.out, List.length_append, rowsM_snoc]
              exact ho6
            have hx6 : w6.heap[w.heap.size]? = some (.cells X 67 (0, 0)) := by
              have hxA := (Below.heap_alloc W3 (.cells (msgA m).toList.toArray 42) _ (Array.getElem?_eq_some_iff.1 HE.out.2.2.1).1).trans HE.out.2.2.1
              refine (hg6.block _ (Array.getElem?_eq_some_iff.1 hxA).1 (fun e => ?_)).trans hxA
              exact own_blk_ne (HE.out.1.alloc _) hxA (by decide) e.symm
            have HE6 := Lib.hid (And.intro ho6' (And.intro hb6 hx6))
            clear ho6 ho6' hb6 hx6 hg6 hu6
            go_wp2
            exact ⟨⟨k + 1, hlt, by go_num, by rw [HF2.out, List.length_append]; have := HK.out.2.2.2.2.2.2; simp; omega, HE6.out⟩, by simp [intOf]; omega⟩
          · have ds : decide ((seq : Int) ≤ (k : Int) + 1) = false := by simp; omega
            have HF2 := Lib.hid (show fromA A lo p seq (k + 1) = F by rw [HSU.out, if_neg hs]; simp)
            clear ho2 hB2 hx2 hg hM hma hs
            go_wp2
            exact ⟨⟨k + 1, hlt, by go_num, by rw [HF2.out]; exact HK.out.2.2.2.2.1, by rw [HF2.out]; exact HE.out.1, HE.out.2.1, HE.out.2.2.1⟩, by simp [intOf]; omega⟩
      · have dm : decide ((F.length : Int) < most) = false := by simpa using hlm
        have HE := Lib.hid (show OwnEnd w ((fromA A lo p seq n).take most.toNat) (.returned (.slice a9 F.length c9)) wr from ⟨_, rfl, by rw [HFT.out (.inr (by omega))]; exact ho⟩)
        have hk1 : k ≤ 1000 := by omega
        have HB2 := Lib.hid hB
        clear ho hB hxr hm hsu hF hFl hlm
        go_wp2
        go_ret
        exact ⟨by rw [← HNN.out]; exact HE.out, HB2.out⟩
    · have hbool : decide ((k : Int) + 1 ≤ (n : Int)) = false := by simp; omega
      have HE := Lib.hid (show OwnEnd w ((fromA A lo p seq n).take most.toNat) (.returned (.slice a9 F.length c9)) wr from ⟨_, rfl, by rw [HFT.out (.inl (by omega))]; exact ho⟩)
      have hk1 : k ≤ 1000 := by omega
      have HB2 := Lib.hid hB
      clear ho hB hxr hm hsu hF hFl
      go_wp2
      go_ret
      exact ⟨by rw [← HNN.out]; exact HE.out, HB2.out⟩
theorem keyAh_lt2 (a b : Int) (m : Msg) : keyAh a b m = ltB a b m.stamp m.frm := by
  rw [Bool.eq_iff_iff, ltB_iff]
  unfold keyAh
  rcases keyZ_vals m.stamp m.frm a b with ⟨e, h⟩ | ⟨e, h, h'⟩ | ⟨e, h⟩
  · rw [e]; unfold keyLt at *; simp only at *; simp; omega
  · rw [e]; unfold keyLt; simp; omega
  · rw [e]; simp [h]
/-- what stays while the reference's Above goes on -/
structure AbCtx (w : World) (X : Array Value) (a b : Int) (wr : World) : Prop where
  hold : wr.heap[w.heap.size]? = some (.cells X 67 (0, 0))
  key : wr.heap[w.heap.size + 1]? = some (.cells #[.int .u64 a, .int .i64 b] 38 (0, 0))
  bel : Below w.heap.size w wr
theorem AbCtx.below {w wr wr' : World} {X : Array Value} {a b : Int} (h : AbCtx w X a b wr) (hb : Below wr.heap.size wr wr') : AbCtx w X a b wr' :=
  ⟨(hb.block _ (Array.getElem?_eq_some_iff.1 h.hold).1).trans h.hold, (hb.block _ (Array.getElem?_eq_some_iff.1 h.key).1).trans h.key, bt h.bel hb⟩
theorem AbCtx.grown {w wr wr' : World} {X : Array Value} {a b : Int} {u : Value} {n : Nat} {xs : List Value} (h : AbCtx w X a b wr) (ho : wr.ownsRow w.heap.size 42 6 u n xs) (hg : wr.grownBy wr' u.ownBlock) : AbCtx w X a b wr' :=
  ⟨(hg.block _ (Array.getElem?_eq_some_iff.1 h.hold).1 (fun e => own_blk_ne ho h.hold (by decide) e.symm)).trans h.hold, (hg.block _ (Array.getElem?_eq_some_iff.1 h.key).1 (fun e => own_blk_ne ho h.key (by decide) e.symm)).trans h.key, grownB h.bel h.bel.size hg (fun b hb => (ho.lt b hb).1)⟩
set_option maxRecDepth 100000 in
set_option maxHeartbeats 8000000 in
theorem rAbove_any (v : Value) (lo : Nat → Nat) (A : List Msg) (a b : Int) (w : World) (h : RowsIn w v A) (hl : A.length ≤ 1000) (hf : ∀ m ∈ A, procB m.frm = true) (htot : ∀ t, t ≤ 64 → (aboveA A lo a b t).length ≤ 1000) :
    Calls Tryd.prog 61 #[.agg (refX v lo), .agg #[.int .u64 a, .int .i64 b]] w fun e w' => OwnEnd w (sortM (aboveA A lo a b 64)) e w' ∧ Below w.heap.size w w' := by
  obtain ⟨i0, hi, hz0, hz1, hz2⟩ := info_parts info42
  obtain ⟨ad, cap, rfl, _⟩ := id h
  obtain ⟨X, hX⟩ : ∃ X, X = refX (.slice ad A.length cap) lo := ⟨_, rfl⟩
  have x0 := refX_v (.slice ad A.length cap) lo
  have HFr := Lib.hid (fun (W : World) (hW : Below w.heap.size w W) (p : Nat) => rFrom_any (.slice ad A.length cap) lo A (p : Int) 0 (A.length : Int) W (h.below hW) hl hf)
  have hXs : X.size = 65 := by rw [hX, refX_size]
  have hsz : (Tryd.prog.info? 67).map (·.size) = some X.size := by rw [hXs]; kernel_rfl
  rw [← hX] at x0 HFr ⊢
  have hx := heap_alloc2_old w (.cells X 67) (.cells #[.int .u64 a, .int .i64 b] 38)
  have hk := heap_alloc2_new w (.cells X 67) (.cells #[.int .u64 a, .int .i64 b] 38)
  have hb := ba (ba (br w) (.cells X 67)) (.cells #[.int .u64 a, .int .i64 b] 38)
  have HS := Lib.hid hsz
  have HT := Lib.hid htot
  clear h hX hf hXs hsz htot
  go_enter Tryd.func61, Tryd.ntmps61
  go_upto_region 1 with (fail)
  generalize (w.alloc (.cells X 67)).alloc (.cells #[.int .u64 a, .int .i64 b] 38) = W at *
  have HB := Lib.hid (show AbCtx w X a b W from ⟨hx, hk, hb⟩)
  have HX0 := Lib.hid x0
  clear hb hx hk x0
  go_wp2_with fail
  go_loopw [5, 6] (fun u i wr => ∃ t : Nat, t ≤ 64 ∧ i = .int .i64 (t : Int) ∧ wr.ownsRow w.heap.size 42 6 u (aboveA A lo a b t).length (rowsM (aboveA A lo a b t)) ∧ AbCtx w X a b wr) (fun _ i _ => 64 - (intOf i).toNat)
  case atStart => exact ⟨0, by omega, rfl, ⟨rfl, .inl ⟨rfl, rfl⟩⟩, HB.out⟩
  case round =>
    obtain ⟨t, ht, rfl, ho, hB⟩ := hrel
    by_cases hlt : t < 64
    · have hbool : decide (t < 64) = true := by simpa using hlt
      have hbool' : decide ((t : Int) < 64) = true := by simp; omega
      have ht64 : t ≤ 64 := ht
      have c0 : wr.cell? ⟨w.heap.size, 0, none⟩ = some (.slice ad A.length cap) := (cell_of_row _ _ 0 _ _ _ hB.hold).trans HX0.out
      have HF1 := Lib.hid (HFr.out wr hB.bel t)
      have hPl := HT.out t ht
      have hlb := HT.out (t + 1) (by omega)
      rw [aboveA_succ] at hlb
      obtain ⟨P, hP⟩ : ∃ P, P = aboveA A lo a b t := ⟨_, rfl⟩
      have HSU := Lib.hid (aboveA_succ A lo a b t)
      have hFl : (fromA A lo (t : Int) 0 (cntA A (t : Int))).length ≤ 1000 := by
        have h1 := fromA_len A lo (t : Int) 0 (cntA A (t : Int))
        have h2 := ofP_len A (t : Int)
        unfold cntA at h1 ⊢
        omega
      have hFt : (fromA A lo (t : Int) 0 (cntA A (t : Int))).take (A.length : Int).toNat = fromA A lo (t : Int) 0 (cntA A (t : Int)) := by
        refine List.take_of_length_le ?_
        have h1 := fromA_len A lo (t : Int) 0 (cntA A (t : Int))
        have h2 := ofP_len A (t : Int)
        unfold cntA at h1 ⊢
        omega
      rw [hFt] at HF1
      obtain ⟨F, hF⟩ : ∃ F, F = fromA A lo (t : Int) 0 (cntA A (t : Int)) := ⟨_, rfl⟩
      rw [← hF] at HF1 hFl HSU hlb
      rw [← hP] at ho hPl HSU hlb
      have HO := Lib.hid (And.intro ho (And.intro hB hlt))
      have HLB := Lib.hid hlb
      clear ho hB hlt hP hF hFt hlb ht
      go_wp2_with (with_reducible refine wpList_load_row rfl 67 (.tmp 2) rfl w.heap.size rfl 67 X (0, 0) _ HO.out.2.1.hold Tryd.underlying67 rfl HS.out ?_)
      refine HF1.out.mono ?_
      rintro e w2 ⟨⟨v2, rfl, ho2⟩, hb2⟩
      obtain ⟨a2, c2, rfl⟩ := ownForm ho2
      obtain ⟨n, hn⟩ : ∃ n, n = F.length := ⟨_, rfl⟩
      have H2 := Lib.hid (And.intro ho2 (And.intro (own_keptS HO.out.1 (Kept.of_below (S := fun _ => False) hb2) (fun _ _ h => h)) (And.intro (HO.out.2.1.below hb2) (And.intro hn (show ∀ b, u5.ownBlock = some b → (Value.slice a2 F.length c2).ownBlock ≠ some b from fun b h1 h2 => by
        have := (HO.out.1.lt b h1).2
        have := (ho2.lt b h2).1
        omega)))))
      rw [← hn] at hFl ⊢
      clear ho2 hb2 hn c0
      go_wp2_with fail
      obtain ⟨wo, hwo⟩ : ∃ wo : World, wo = wr := ⟨_, rfl⟩
      rw [← hwo] at H2
      go_loopw [5, 8] (fun u i wr => ∃ k : Nat, k ≤ n ∧ i = .int .i64 (k : Int) ∧ wr.ownsRow w.heap.size 42 6 u (P ++ (F.take k).filter (keyAh a b)).length (rowsM (P ++ (F.take k).filter (keyAh a b))) ∧ AbCtx w X a b wr ∧ wr.ownsRow wo.heap.size 42 6 (.slice a2 F.length c2) F.length (rowsM F) ∧ Hid (∀ b, u.ownBlock = some b → (Value.slice a2 F.length c2).ownBlock ≠ some b)) (fun _ i _ => n - (intOf i).toNat)
      case atStart => exact ⟨0, by omega, rfl, by simpa using H2.out.2.1, H2.out.2.2.1, H2.out.1, H2.out.2.2.2.2⟩
      case round =>
        obtain ⟨k, hk, rfl, ho, hB, hoF, hne⟩ := hrel
        by_cases hk2 : k < n
        · have hbool2 : decide (k < n) = true := by simpa using hk2
          have hbool2' : decide ((k : Int) < (n : Int)) = true := by simp; omega
          have hik : (k : Int) < (n : Int) := by omega
          have hkR : k < F.length := by have := H2.out.2.2.2.1; omega
          obtain ⟨g, e9, hg, hrow⟩ := own_msg hoF hkR
          subst e9
          have htk := List.take_succ_eq_append_getElem hkR
          obtain ⟨x, hxe⟩ : ∃ x, x = F[k] := ⟨_, rfl⟩
          rw [← hxe] at hrow htk
          have hll : (P ++ (F.take k).filter (keyAh a b)).length ≤ 1000 := by
            have h1 : ((F.take k).filter (keyAh a b)).length ≤ (F.filter (keyAh a b)).length := (List.Sublist.filter _ (List.take_sublist k F)).length_le
            have h2 := HLB.out
            rw [List.length_append] at h2 ⊢
            omega
          obtain ⟨L, hL⟩ : ∃ L, L = P ++ (F.take k).filter (keyAh a b) := ⟨_, rfl⟩
          have hL2 : P ++ (F.take (k + 1)).filter (keyAh a b) = L ++ [x].filter (keyAh a b) := by rw [htk, List.filter_append, hL, List.append_assoc]
          rw [← hL] at ho hll
          have q0 := Bel.cell (cell_of_row _ _ 0 _ _ _ hB.key : wr.cell? ⟨w.heap.size + 1, 0, none⟩ = some (.int .u64 a)) (Array.getElem?_eq_some_iff.1 hB.key).1
          have q1 := Bel.cell (cell_of_row _ _ 1 _ _ _ hB.key : wr.cell? ⟨w.heap.size + 1, 1, none⟩ = some (.int .i64 b)) (Array.getElem?_eq_some_iff.1 hB.key).1
          have R1 := Lib.hid (Bel.range hrow hg)
          have HOf := Lib.hid (fun (W' : World) => rOf_any x W')
          obtain ⟨z, hz⟩ : ∃ z, z = keyAh a b x := ⟨_, rfl⟩
          have HLe := Lib.hid (fun (W' : World) => rLess_any a b x.stamp x.frm W')
          rw [← keyAh_lt2, ← hz] at HLe
          have HK := Lib.hid (And.intro ho (And.intro hB (And.intro hk2 (And.intro hL2 (And.intro hg (And.intro hrow (And.intro hz hoF)))))))
          clear ho hB hk2 hL hL2 hkR hg hrow htk hxe hk hz hoF
          go_wp2_with fail
          refine wp_region_bel (by kernel_rfl) (by kernel_rfl) ?_
          repeat (first
            | (refine wpQuiet_load_want (by rfl) 42 (.tmp 28) rfl g (k * 6) rfl (msgA x).toList _ R1.out Tryd.underlying42 rfl (by kernel_rfl) ?_; go_simp)
            | go_big_quiet_step ((first | (go_at_call 39; exact bel_call (HOf.out _)) | (go_at_call 38; exact bel_call (HLe.out _)))))
          refine wpQuiet_nil ?_
          intro x5
          have hb5 := x5.prop
          generalize x5.val = w5 at *
          have ho5 := own_keptS HK.out.1 (Kept.of_below (S := fun _ => False) hb5) (fun _ _ h => h)
          have hoF5 := own_keptS HK.out.2.2.2.2.2.2.2 (Kept.of_below (S := fun _ => False) hb5) (fun _ _ h => h)
          have hB5 := HK.out.2.1.below hb5
          have hrow5 : w5.rangeAt g (k * 6) (msgA x).toList := fun j u hu => (hb5.cell (p := ⟨g, k * 6 + j, none⟩) HK.out.2.2.2.2.1).trans (HK.out.2.2.2.2.2.1 j u hu)
          cases z
          · have hL3 : P ++ (F.take (k + 1)).filter (keyAh a b) = L := by rw [HK.out.2.2.2.1, List.filter_cons, ← HK.out.2.2.2.2.2.2.1]; simp
            have HE := Lib.hid (And.intro (show w5.ownsRow w.heap.size 42 6 u5 (P ++ (F.take (k + 1)).filter (keyAh a b)).length (rowsM (P ++ (F.take (k + 1)).filter (keyAh a b))) from by rw [hL3]; exact ho5) (And.intro hB5 (And.intro hoF5 hne)))
            have HLT := Lib.hid HK.out.2.2.1
            clear ho5 hB5 hrow5 hb5 hL3 hoF5
            go_wp2
            exact ⟨⟨k + 1, HLT.out, by go_num, HE.out⟩, measI HLT.out⟩
          · have hL3 : P ++ (F.take (k + 1)).filter (keyAh a b) = L ++ [x] := by rw [HK.out.2.2.2.1, List.filter_cons, ← HK.out.2.2.2.2.2.2.1]; simp
            have y0 : w5.cell? ⟨g, k * 6, none⟩ = some (.int .i64 x.frm) := hrow5 0 _ rfl
            have y1 : w5.cell? ⟨g, k * 6 + 1, none⟩ = some (.int .u32 (x.seq : Int)) := hrow5 1 _ rfl
            have y2 : w5.cell? ⟨g, k * 6 + 2, none⟩ = some (.int .u64 (x.stamp : Int)) := hrow5 2 _ rfl
            have y3 : w5.cell? ⟨g, k * 6 + 3, none⟩ = some (.int .i64 x.service) := hrow5 3 _ rfl
            have y4 : w5.cell? ⟨g, k * 6 + 4, none⟩ = some (.slice x.da x.ds.length x.dc) := hrow5 4 _ rfl
            have y5 : w5.cell? ⟨g, k * 6 + 5, none⟩ = some (.string x.pay) := hrow5 5 _ rfl
            have H5 := Lib.hid (And.intro ho5 (And.intro hB5 (And.intro hoF5 hL3)))
            have hz5 := hB5.bel.size
            have HLT := Lib.hid HK.out.2.2.1
            clear ho5 hB5 hrow5 hb5 hL3 hoF5
            go_wp2_with (at_builtin; refine wpList_append_any _ rfl (.tmp 32) (.tmp 37) 27 rfl w.heap.size 42 i0 _ 6 72 Tryd.underlying27 hi hz0 hz1 hz2 rfl (by decide) u5 L.length (rowsM L) rfl (H5.out.1.alloc _) (w5.heap.size + 1) (some ⟨w5.heap.size, 0, none⟩) 1 1 (msgA x).toList rfl (reads_new w5 x) (msgA_one x) (by unfold maxLen; omega) (by omega) (by simp; omega) ?_)
            intro v6 w6 ho6 hg6 hu6
            have hoA := H5.out.1.alloc (.cells (msgA x).toList.toArray 42)
            have hC6 : AbCtx w X a b w6 := (H5.out.2.1.below (ba (br w5) _)).grown hoA hg6
            have hoF6 : w6.ownsRow wo.heap.size 42 6 (.slice (some ⟨g, 0, none⟩) F.length c2) F.length (rowsM F) := own_keptS (H5.out.2.2.1.alloc (.cells (msgA x).toList.toArray 42)) (S := fun k => u5.ownBlock = some k) ⟨hg6.os, hg6.tape, hg6.output, hg6.size, fun i hi hs => hg6.block i hi (fun e => hs e.symm)⟩ (fun b h1 h2 => hne.out b h2 h1)
            have hne6 : ∀ b, v6.ownBlock = some b → (Value.slice (some ⟨g, 0, none⟩) F.length c2).ownBlock ≠ some b := fun b h1 h2 => by
              rcases hu6 with e | e
              · exact hne.out b (e ▸ h1) h2
              · rw [e] at h1
                injection h1 with h1
                have := (H5.out.2.2.1.lt b h2).2
                have h3 : (w5.alloc (.cells (msgA x).toList.toArray 42)).heap.size = w5.heap.size + 1 := by simp
                first | omega | (have h4 : (w5.alloc (.cells (msgA x).toList.toArray 42)).heap.size = b := h1; omega)
            have ho6' : w6.ownsRow w.heap.size 42 6 v6 (P ++ (F.take (k + 1)).filter (keyAh a b)).length (rowsM (P ++ (F.take (k + 1)).filter (keyAh a b))) := by
              rw [H5.out.2.2.2, List.length_append, rowsM_snoc]
              exact ho6
            have HE := Lib.hid (And.intro ho6' (And.intro hC6 (And.intro hoF6 hne6)))
            clear ho6 ho6' hg6 hu6 hC6 hoF6 hne6 hoA
            go_wp2
            exact ⟨⟨k + 1, HLT.out, by go_num, HE.out⟩, measI HLT.out⟩
        · have hbool2 : decide (k < n) = false := by simpa using hk2
          have hbool2' : decide ((k : Int) < (n : Int)) = false := by simp; omega
          have e1 : P ++ (F.take k).filter (keyAh a b) = aboveA A lo a b (t + 1) := by
            rw [HSU.out, List.take_of_length_le (by have := H2.out.2.2.2.1; omega)]
          rw [e1] at ho
          have HE := Lib.hid (And.intro ho (And.intro hB HO.out.2.2))
          clear ho hB e1 hoF hne
          go_wp2
          exact ⟨⟨t + 1, HE.out.2.2, by go_num, HE.out.1, HE.out.2.1⟩, measI HE.out.2.2⟩
    · have hbool : decide (t < 64) = false := by simpa using hlt
      have hbool' : decide ((t : Int) < 64) = false := by simp; omega
      obtain rfl : t = 64 := by omega
      have hle := HT.out 64 (Nat.le_refl _)
      have HS2 := Lib.hid (rSort_any u5 _ wr (RowsAt.of_own ho).rowsIn hle)
      have HB2 := Lib.hid hB.bel
      clear ho hB hle
      go_wp2_with fail
      refine HS2.out.mono ?_
      rintro e w3 ⟨⟨v3, rfl, h3⟩, hb3⟩
      have HE := Lib.hid (And.intro (show OwnEnd w (sortM (aboveA A lo a b 64)) (.returned v3) w3 from ⟨v3, rfl, ownMore h3 HB2.out.size⟩) (bt HB2.out hb3))
      clear h3 hb3
      go_wp2
      go_ret
      exact HE.out
end Go.Proofs.YtgjlcjbmcnofiaaDoor
