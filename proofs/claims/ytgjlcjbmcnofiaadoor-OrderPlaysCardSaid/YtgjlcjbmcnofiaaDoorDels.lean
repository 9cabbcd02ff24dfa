/-
  slices.IndexFunc and DeleteFunc at promises and messages. (Printed by tools/gen_del.py.)
  Conditions: those that each theorem names.
-/
import Derived.Test.YtgjlcjbmcnofiaaDoorRowT
import Derived.Test.YtgjlcjbmcnofiaaDoorRowM
import Derived.Lib.SliceRun
namespace Go.Proofs.YtgjlcjbmcnofiaaDoor
set_option linter.unusedVariables false
set_option linter.unusedSimpArgs false
open Go.RowKit
/-- a promise's cells: its stamp, how many were sent -/
def enP (x : Nat × Nat) : Array Value := #[.int .u64 (x.1 : Int), .int .u32 (x.2 : Int)]
theorem enP_size (x : (Nat × Nat)) : (enP x).size = 2 := rfl
theorem enP_one (x : (Nat × Nat)) : ∀ v ∈ (enP x).toList, v.oneCell' = true := by
  intro v hv
  simp [enP] at hv
  rcases hv with rfl | rfl <;> rfl
theorem enP_all (x : (Nat × Nat)) : (enP x).all (·.oneCell') = true := Array.all_eq_true_iff_forall_mem.2 fun v hv => enP_one x v (by simpa using hv)
theorem infoP : (Tryd.prog.info? 111).map (fun i => (i.zero, i.size, i.bytes)) = some (some (.agg #[.int .u64 0, .int .u32 0]), 2, 16) := by kernel_rfl
theorem szP : (Tryd.prog.info? 111).map (·.size) = some 2 := by kernel_rfl
/-- the closure's calls: what they answer, and leave -/
def AsksP (xs : List (Nat × Nat)) (p : (Nat × Nat) → Bool) (I : Nat → World → Prop) (T : Nat → Prop) (own : Nat → Prop) (bx : Nat) (w : World) : Prop :=
  ∀ i (hi : i < xs.length) w1, I i w1 → Kept (fun b => T b ∨ own b) w w1 → Calls Tryd.prog 76 #[.agg (enP xs[i]), .pointer (some ⟨bx, 0, none⟩)] w1 fun e w' => e = .returned (.bool (p xs[i])) ∧ I (i + 1) w' ∧ Kept T w1 w'
def IdxP (xs : List (Nat × Nat)) (p : (Nat × Nat) → Bool) (I : Nat → World → Prop) (e : Ending) (w' : World) : Prop :=
  (e = .returned (.int .i64 (-1)) ∧ (∀ x ∈ xs, p x = false) ∧ I xs.length w') ∨ ∃ j, ∃ hj : j < xs.length, e = .returned (.int .i64 (j : Int)) ∧ p xs[j] = true ∧ (∀ i (hi : i < xs.length), i < j → p xs[i] = false) ∧ I (j + 1) w'
set_option maxRecDepth 100000 in
set_option maxHeartbeats 4000000 in
theorem idxP_any (xs : List (Nat × Nat)) (ad : Option Addr) (cap : Nat) (p : (Nat × Nat) → Bool) (I : Nat → World → Prop) (T own : Nat → Prop) (bx : Nat) (w : World) (hl : xs.length ≤ 1000000)
    (hr : ∀ i (hi : i < xs.length), ∃ g o, ad = some ⟨g, o, none⟩ ∧ g < w.heap.size ∧ ¬ T g ∧ w.rangeAt g (o + i * 2) (enP xs[i]).toList)
    (hI : I 0 w) (hP : AsksP xs p I T own bx w) :
    Calls Tryd.prog 92 #[.slice ad xs.length cap, .func (.func 76) #[] #[.pointer (some ⟨bx, 0, none⟩)]] w fun e w' => IdxP xs p I e w' ∧ Kept T w w' := by
  have HR := Lib.hid hr
  have HP := Lib.hid hP
  have HI := Lib.hid hI
  obtain ⟨n, hn⟩ : ∃ n, n = xs.length := ⟨_, rfl⟩
  rw [← hn] at hl ⊢
  have HN := Lib.hid hn
  clear hr hP hI hn
  go_enter Tryd.func92, Tryd.ntmps92
  go_wp2_with fail
  go_loopw [8] (fun i wr => ∃ j : Nat, j ≤ n ∧ i = .int .i64 (j : Int) ∧ Hid ((∀ i (hi : i < xs.length), i < j → p xs[i] = false) ∧ I j wr ∧ Kept T w wr)) (fun i _ => n - (intOf i).toNat)
  case atStart => exact ⟨0, by omega, rfl, ⟨fun i hi h => absurd h (by omega), HI.out, Kept.refl _ _⟩⟩
  case round =>
    obtain ⟨j, hj, rfl, HW⟩ := hrel
    by_cases hlt : j < n
    · have hd : decide ((j : Int) < (n : Int)) = true := by simpa using hlt
      have hi1 : (j : Int) < (n : Int) := by omega
      have hjl : j < xs.length := by rw [← HN.out]; exact hlt
      obtain ⟨g, o, hga, hg, hnT, hrow⟩ := HR.out j hjl
      have hrow' : wr.rangeAt g (o + j * 2) (enP xs[j]).toList := fun i u hu => (HW.out.2.2.cell (p := ⟨g, o + j * 2 + i, none⟩) hg hnT).trans (hrow i u hu)
      have HR2 := Lib.hid hrow'
      have HC := Lib.hid (HP.out j hjl wr HW.out.2.1 (HW.out.2.2.more fun _ _ h => .inl h))
      have HXJ := Lib.hid (show ∀ i (hi : i < xs.length), i < j + 1 → p xs[j] = false → p xs[i] = false from fun i hi h hp => by
        by_cases e : i = j
        · subst e; exact hp
        · exact HW.out.1 i hi (by omega))
      have HYJ := Lib.hid (show p xs[j] = true → ∀ e w', e = .returned (.int .i64 (j : Int)) → I (j + 1) w' → IdxP xs p I e w' from fun hp e w' he hi => .inr ⟨j, hjl, he, hp, HW.out.1, hi⟩)
      obtain ⟨cx, hcx⟩ : ∃ cx, cx = (enP xs[j]).toList := ⟨_, rfl⟩
      have hcz : cx.length = 2 := by rw [hcx]; rfl
      have hca : cx.toArray = enP xs[j] := by rw [hcx]
      rw [← hcx] at HR2
      rw [← hca] at HC
      have HZ := Lib.hid (show (Tryd.prog.info? 111).map (·.size) = some cx.length from by rw [hcz]; exact szP)
      generalize p xs[j] = B at *
      have HW2 := Lib.hid HW.out.2.2
      clear hrow hrow' hcx hcz hca hjl HW HR
      subst hga
      go_wp2_with (first | (with_reducible refine wpList_load_mid rfl 111 (.tmp 14) rfl g (o + j * 2) rfl cx _ HR2.out Tryd.underlying111 rfl HZ.out ?_) | fail)
      refine HC.out.mono ?_
      rintro e w2 ⟨rfl, hi2, hk2⟩
      have H2 := Lib.hid (And.intro hi2 (HW2.out.trans hk2))
      clear hi2 hk2 HC HW2 HR2 HZ
      cases B
      · have HE := Lib.hid (show Hid ((∀ i (hi : i < xs.length), i < j + 1 → p xs[i] = false) ∧ I (j + 1) w2 ∧ Kept T w w2) from ⟨fun i hi h => HXJ.out i hi h rfl, H2.out⟩)
        clear HXJ HYJ H2
        go_wp2_with fail
        exact ⟨⟨j + 1, by omega, by go_num, HE.out⟩, by simp [intOf]; omega⟩
      · have HE := Lib.hid (And.intro (HYJ.out rfl _ w2 rfl H2.out.1) H2.out.2)
        clear HXJ HYJ H2
        go_wp2_with fail
        go_ret
        exact HE.out
    · have hd : decide ((j : Int) < (n : Int)) = false := by simpa using hlt
      obtain rfl : j = n := by omega
      have HE := Lib.hid (show IdxP xs p I (.returned (.int .i64 (-1))) wr ∧ Kept T w wr from ⟨.inl ⟨rfl, fun x hx => by
        obtain ⟨i, hi, rfl⟩ := List.mem_iff_getElem.1 hx
        exact HW.out.1 i hi (by rw [HN.out]; exact hi), by rw [← HN.out]; exact HW.out.2.1⟩, HW.out.2.2⟩)
      clear HW
      go_wp2_with fail
      go_ret
      exact HE.out
/-- what DeleteFunc leaves -/
def DelP (xs : List (Nat × Nat)) (ad : Option Addr) (cap : Nat) (p : (Nat × Nat) → Bool) (I : Nat → World → Prop) (T : Nat → Prop) (w : World) (e : Ending) (w' : World) : Prop :=
  e = .returned (.slice ad (xs.filter fun x => !p x).length cap) ∧ w'.ownsRow 0 111 2 (.slice ad (xs.filter fun x => !p x).length cap) (xs.filter fun x => !p x).length (enL enP (xs.filter fun x => !p x)) ∧ I xs.length w' ∧
    Kept (fun b => T b ∨ (Value.slice ad xs.length cap).ownBlock = some b) w w'
theorem none_len {v : Option Addr} {n c : Nat} {B : Nat} {t : TypeId} {k : Nat} {xs : List Value} {w : World} (h : w.ownsRow B t k (.slice v n c) n xs) (hn : 0 < n) : ∃ g, v = some ⟨g, 0, none⟩ ∧ g < w.heap.size := by
  obtain ⟨g, cap', hv, _, hg⟩ := h.form hn
  injection hv with h1 _ _
  exact ⟨g, h1, hg⟩
theorem filter_atP {xs : List (Nat × Nat)} {p : (Nat × Nat) → Bool} {j : Nat} (hj : j < xs.length) : (xs.take (j + 1)).filter (fun x => !p x) = if p xs[j] = true then (xs.take j).filter (fun x => !p x) else (xs.take j).filter (fun x => !p x) ++ [xs[j]] := by
  rw [List.take_succ_eq_append_getElem hj, List.filter_append]
  by_cases h : p xs[j] = true
  · simp [h]
  · simp [h]
/-- while elements are moved: the first ones are those that are kept, the last ones as they were -/
def MvP (xs : List (Nat × Nat)) (g cap : Nat) (p : (Nat × Nat) → Bool) (i j : Nat) (w : World) : Prop :=
  ∃ zs : List (Nat × Nat), zs.length = xs.length ∧ w.ownsRow 0 111 2 (.slice (some ⟨g, 0, none⟩) xs.length cap) xs.length (enL enP zs) ∧ zs.take i = (xs.take j).filter (fun x => !p x) ∧ (∀ a, j ≤ a → zs[a]? = xs[a]?) ∧ i < j ∧ j ≤ xs.length
set_option maxRecDepth 100000 in
set_option maxHeartbeats 8000000 in
theorem delP_any (xs : List (Nat × Nat)) (ad : Option Addr) (cap : Nat) (p : (Nat × Nat) → Bool) (I : Nat → World → Prop) (T : Nat → Prop) (bx : Nat) (w : World) (hl : xs.length ≤ 1000000)
    (ho : w.ownsRow 0 111 2 (.slice ad xs.length cap) xs.length (enL enP xs)) (hTo : ∀ b, T b → b < w.heap.size) (hT : ∀ b, (Value.slice ad xs.length cap).ownBlock = some b → ¬ T b)
    (hI : I 0 w) (hg : ∀ i w1 w2, I i w1 → Kept (fun b => (Value.slice ad xs.length cap).ownBlock = some b) w1 w2 → I i w2)
    (hP : AsksP xs p I T (fun b => (Value.slice ad xs.length cap).ownBlock = some b) bx w) :
    Calls Tryd.prog 75 #[.slice ad xs.length cap, .func (.func 76) #[] #[.pointer (some ⟨bx, 0, none⟩)]] w (DelP xs ad cap p I T w) := by
  have HC := Lib.hid (idxP_any xs ad cap p I T (fun b => (Value.slice ad xs.length cap).ownBlock = some b) bx w hl (fun i hi => by
    obtain ⟨g, rfl, hlt⟩ := none_len ho (by omega)
    refine ⟨g, 0, rfl, hlt, hT g rfl, ?_⟩
    rw [Nat.zero_add]
    exact own_at' enP_size ho hi) hI hP)
  have HH := Lib.hid (And.intro ho (And.intro hT (And.intro hg hP)))
  obtain ⟨n, hn⟩ : ∃ n, n = xs.length := ⟨_, rfl⟩
  rw [← hn] at hl HC ⊢
  have HN := Lib.hid hn
  have HTO := Lib.hid hTo
  clear ho hT hI hg hP hn hTo
  go_enter Tryd.func75, Tryd.ntmps75
  go_wp2_with fail
  refine HC.out.mono ?_
  rintro e w2 ⟨hix, hk2⟩
  rcases hix with ⟨rfl, hall, hi2⟩ | ⟨j, hj, rfl, hp, hbef, hi2⟩
  · have hf : xs.filter (fun x => !p x) = xs := List.filter_eq_self.2 fun x hx => by rw [hall x hx]; rfl
    have HE := Lib.hid (show DelP xs ad cap p I T w (.returned (.slice ad n cap)) w2 from by
      unfold DelP
      rw [hf, HN.out]
      exact ⟨rfl, own_keptS HH.out.1 hk2 HH.out.2.1, hi2, hk2.more fun _ _ h => .inl h⟩)
    clear hall hi2 hk2 hf HC
    go_wp2_with fail
    go_ret
    exact HE.out
  obtain ⟨g, hga, hglt⟩ := none_len HH.out.1 (by omega)
  subst hga
  have h1 : (j : Int) < 1000000 := by have := HN.out; omega
  have hm1 : ((j : Int) == -1) = false := by simp
  have HI2 := Lib.hid (show ∃ i j' : Nat, i = j ∧ j' = j + 1 ∧ MvP xs g cap p i j' w2 ∧ I j' w2 ∧ Kept (fun b => T b ∨ b = g) w w2 from by
    refine ⟨j, j + 1, rfl, rfl, ⟨xs, rfl, own_keptS HH.out.1 hk2 HH.out.2.1, ?_, fun _ _ => rfl, by omega, by omega⟩, hi2, hk2.more fun _ _ h => .inl h⟩
    rw [filter_atP hj, if_pos hp]
    exact (List.filter_eq_self.2 fun x hx => by
      obtain ⟨i, hi, rfl⟩ := List.mem_iff_getElem.1 hx
      rw [List.length_take] at hi
      rw [List.getElem_take, hbef i (by omega) (by omega)]
      rfl).symm)
  have HJ := Lib.hid (show j < n from by rw [HN.out]; exact hj)
  clear hp hbef hi2 hk2 HC hj
  go_wp2_with fail
  go_loopw [5, 6] (fun i j wr => ∃ i' j' : Nat, i = .int .i64 (i' : Int) ∧ j = .int .i64 (j' : Int) ∧ Hid (MvP xs g cap p i' j' wr ∧ I j' wr ∧ Kept (fun b => T b ∨ b = g) w wr)) (fun _ j _ => n - (intOf j).toNat)
  case atStart =>
    obtain ⟨i, j', rfl, rfl, h⟩ := HI2.out
    exact ⟨i, i + 1, rfl, by go_num, h⟩
  case round =>
    obtain ⟨i, k, rfl, rfl, HW⟩ := hrel
    obtain ⟨⟨zs, hz, hoz, htk, hdr, hik, hkn⟩, hIk, hkk⟩ := HW.out
    by_cases hlt : k < n
    · have hd : decide ((k : Int) < (n : Int)) = true := by simpa using hlt
      have hk1 : (k : Int) < (n : Int) := by omega
      have hi1 : (i : Int) < (n : Int) := by omega
      have hkl : k < xs.length := by rw [← HN.out]; exact hlt
      have hzk : k < zs.length := by rw [hz]; exact hkl
      have hzx : zs[k] = xs[k] := by
        have := hdr k (Nat.le_refl k)
        rw [List.getElem?_eq_getElem hzk, List.getElem?_eq_getElem hkl] at this
        injection this
      have hrow := own_at' enP_size hoz hzk
      rw [hzx] at hrow
      obtain ⟨cx, hcx⟩ : ∃ cx, cx = (enP xs[k]).toList := ⟨_, rfl⟩
      have hcz : cx.length = 2 := by rw [hcx]; rfl
      have hca : cx.toArray = enP xs[k] := by rw [hcx]
      have HZ := Lib.hid (show (Tryd.prog.info? 111).map (·.size) = some cx.length from by rw [hcz]; exact szP)
      have HZ2 := Lib.hid (show (Tryd.prog.info? 111).map (·.size) = some cx.toArray.size from by rw [show cx.toArray.size = cx.length from rfl, hcz]; exact szP)
      have HZ3 := Lib.hid (show (#[.int .u64 0, .int .u32 0] : Array Value).size = cx.toArray.size from by rw [show cx.toArray.size = cx.length from rfl, hcz]; rfl)
      have HA := Lib.hid (show cx.toArray.all (·.oneCell') = true from by rw [hca]; exact enP_all _)
      -- the variable
      obtain ⟨N, hNN⟩ : ∃ N, N = wr.heap.size := ⟨_, rfl⟩
      have hz0 := heap_alloc_new wr (.cells #[.int .u64 0, .int .u32 0] 111)
      rw [← hNN] at hz0
      obtain ⟨w3, hw3⟩ : ∃ w3, w3 = (wr.alloc (.cells #[.int .u64 0, .int .u32 0] 111)).setRow N cx.toArray := ⟨_, rfl⟩
      have hb3 : Below wr.heap.size wr w3 := by rw [hw3]; exact (kept_setRowT (wr.alloc (.cells #[.int .u64 0, .int .u32 0] 111)) N cx.toArray).out (ba (br wr) _) (ba (br wr) _).size (fun k hk' e => by omega)
      have hc3 : w3.heap[N]? = some (.cells cx.toArray 111 (0, 0)) := by rw [hw3]; exact setRow_heap _ _ _ _ _ _ hz0
      have HV := Lib.hid (And.intro hz0 (And.intro hc3 hNN))
      have HROW := Lib.hid (show wr.rangeAt g (k * 2) cx from by rw [hcx]; exact hrow)
      have hk3 : Kept (fun b => T b ∨ b = g) w w3 := hkk.trans (Kept.of_below hb3)
      have HAS := Lib.hid (HH.out.2.2.2 k hkl w3 (HH.out.2.2.1 k _ _ hIk (Kept.of_below hb3)) (hk3.more fun b _ h => by
        rcases h with h | h
        · exact .inl h
        · exact .inr (by rw [h]; rfl)))
      rw [← hca] at HAS
      have HM := Lib.hid (show w3.ownsRow 0 111 2 (.slice (some ⟨g, 0, none⟩) xs.length cap) xs.length (enL enP zs) from own_keptS (S := fun _ => False) hoz (Kept.of_below hb3) (fun _ _ h => h))
      have HK3 := Lib.hid (And.intro hk3 hb3)
      have HZS := Lib.hid (And.intro hz (And.intro htk (And.intro hdr (And.intro hik (And.intro hkl (And.intro hca hlt))))))
      have HF := Lib.hid (filter_atP (p := p) hkl)
      generalize p xs[k] = B at *
      generalize hxk : xs[k] = X at *
      have HX := Lib.hid hxk
      have HW3 := Lib.hid hw3
      clear hw3 hNN hxk hrow hcx hcz hca hz0 hb3 hc3 hk3 hz htk hdr hik hIk hkk hoz hzx hzk HI2
      go_upto_region 8 with (first
        | (with_reducible refine wpList_load_mid rfl 111 (.tmp 24) rfl g (k * 2) rfl cx _ HROW.out Tryd.underlying111 rfl HZ.out ?_)
        | (refine wpList_store_row rfl 111 (.tmp 7) (.tmp 25) rfl N cx.toArray (by rw [HV.out.2.2]; rfl) rfl 111 _ HV.out.1 HZ2.out HZ3.out HA.out ?_)
        | fail)
      simp only [Act.put]
      rw [← HV.out.2.2, ← HW3.out]
      clear HW3
      go_wp2_with (first
        | (with_reducible refine wpList_load_row rfl 111 (.tmp 7) rfl N rfl 111 cx.toArray (0, 0) _ HV.out.2.1 Tryd.underlying111 rfl HZ2.out ?_)
        | fail)
      refine HAS.out.mono ?_
      rintro e w4 ⟨rfl, hi4, hk4⟩
      have hk4w := HK3.out.1.trans (hk4.more fun b _ h => Or.inl (b := b = g) h)
      have ho4 := own_keptS HM.out hk4 HH.out.2.1
      cases B
      · have hN4 : w4.heap[N]? = some (.cells cx.toArray 111 (0, 0)) := hk4.keep HV.out.2.1 (fun h => by
          have h1 := HTO.out N h
          have h2 := HK3.out.1.size
          have h3 := HW.out.2.2.size
          have h4 := HV.out.2.2
          omega)
        obtain ⟨_, _, _, hcp, _, _, _⟩ := own_open ho4
        have hth : w4.there g (i * 2) cx.toArray.size := by
          rw [← HZ3.out]
          exact own_there ho4 (by
            have := HZS.out.2.2.2.1
            have := HZS.out.2.2.2.2.1
            show i * 2 + 2 ≤ cap * 2
            omega)
        have HN4 := Lib.hid (And.intro hN4 hth)
        obtain ⟨w5, hw5⟩ : ∃ w5, w5 = w4.setCells g (i * 2) cx := ⟨_, rfl⟩
        have hk5 : Kept (fun b => b = g) w4 w5 := by rw [hw5]; exact kept_setCells _ _ _
        have HE := Lib.hid (show MvP xs g cap p (i + 1) (k + 1) w5 ∧ I (k + 1) w5 ∧ Kept (fun b => T b ∨ b = g) w w5 from by
          obtain ⟨z1, z2, z3, z4, z5, z6, z7⟩ := HZS.out
          refine ⟨⟨zs.set i X, by rw [List.length_set, z1], ?_, ?_, fun a ha => ?_, by omega, by omega⟩, HH.out.2.2.1 _ _ _ hi4 (hk5.more fun b _ h => by rw [h]; rfl), hk4w.trans (hk5.more fun b _ h => Or.inr h)⟩
          · have := own_set' enP_size ho4 z1 (show i < xs.length by omega) X
            rw [← z6] at this
            rw [hw5]
            exact this
          · rw [HF.out, if_neg (by decide), ← z2, List.take_succ_eq_append_getElem (by rw [List.length_set]; omega), List.take_set_of_le (Nat.le_refl i), List.getElem_set_self]
          · rw [List.getElem?_set_ne (by omega)]
            exact z3 a (by omega))
        have HK := Lib.hid HZS.out.2.2.2.2.2.2
        have HW5 := Lib.hid hw5
        clear hw5 hk5 hN4 hth hcp hi4 hk4 hk4w ho4 HAS HM HK3 HZS HF HX HROW
        go_wp2_with (first
          | (with_reducible refine wpList_load_row rfl 111 (.tmp 7) rfl N rfl 111 cx.toArray (0, 0) _ HN4.out.1 Tryd.underlying111 rfl HZ2.out ?_)
          | (with_reducible refine wpList_store_mid rfl 111 (.tmp 33) (.tmp 32) rfl g (i * 2) cx.toArray rfl rfl HN4.out.2 HZ2.out HA.out ?_)
          | fail)
        rw [← HW5.out]
        exact ⟨⟨i + 1, k + 1, by go_num, by go_num, HE.out⟩, by have := HK.out; simp [intOf]; omega⟩
      · have HE := Lib.hid (show MvP xs g cap p i (k + 1) w4 ∧ I (k + 1) w4 ∧ Kept (fun b => T b ∨ b = g) w w4 from by
          obtain ⟨z1, z2, z3, z4, z5, z6, z7⟩ := HZS.out
          exact ⟨⟨zs, z1, ho4, by rw [HF.out, if_pos rfl]; exact z2, fun a ha => z3 a (by omega), by omega, by omega⟩, hi4, hk4w⟩)
        have HK := Lib.hid HZS.out.2.2.2.2.2.2
        clear hi4 hk4 hk4w ho4 HAS HM HK3 HZS HF HX HROW
        go_wp2_with fail
        exact ⟨⟨i, k + 1, rfl, by go_num, HE.out⟩, by have := HK.out; simp [intOf]; omega⟩
    · have hd : decide ((k : Int) < (n : Int)) = false := by simpa using hlt
      have hkn' : k = n := by have := HN.out; omega
      have hin : i < n := by omega
      obtain ⟨cur, _, hbk, hcp, hcm, hcs, _⟩ := own_open hoz
      have hcap : n ≤ cap := by rw [HN.out]; exact hcp
      have hcl : ∀ ty, (Builtin.clear_ #[103] ty #[.slice (some ⟨g, i * 2, none⟩) (n - i) (cap - i)]).run Tryd.prog wr = .ok (.tuple #[]) (wr.setCells g (i * 2) (Builtin.zeroCells #[.int .u64 0, .int .u32 0] (n - i)).toList) := fun ty =>
        run_clear_row wr 103 111 ty (.agg #[.int .u64 0, .int .u32 0]) #[.int .u64 0, .int .u32 0] Tryd.underlying103 (fun _ => by kernel_rfl) rfl (by intro v hv; simp at hv; rcases hv with rfl | rfl <;> rfl) (by decide) g (i * 2) (n - i) (cap - i) (by omega) (own_there hoz (by show i * 2 + (n - i) * 2 ≤ cap * 2; omega))
      obtain ⟨w5, hw5⟩ : ∃ w5, w5 = wr.setCells g (i * 2) (Builtin.zeroCells #[.int .u64 0, .int .u32 0] (n - i)).toList := ⟨_, rfl⟩
      have hk5 : Kept (fun b => b = g) wr w5 := by rw [hw5]; exact kept_setCells _ _ _
      have HE := Lib.hid (show DelP xs (some ⟨g, 0, none⟩) cap p I T w (.returned (.slice (some ⟨g, 0, none⟩) i cap)) w5 from by
        have hxt : xs.take k = xs := List.take_of_length_le (by rw [← HN.out]; omega)
        rw [hxt] at htk
        have hlen : (xs.filter fun x => !p x).length = i := by rw [← htk, List.length_take, hz, ← HN.out]; omega
        have hc := own_cut enP_size hoz hz (show i ≤ xs.length by rw [← HN.out]; omega) (Builtin.zeroCells #[.int .u64 0, .int .u32 0] (n - i)).toList (by rw [zeroCells_len]; show i * 2 + (n - i) * 2 ≤ cap * 2; omega)
        rw [← hw5, htk] at hc
        unfold DelP
        rw [hlen]
        refine ⟨rfl, hc, ?_, hkk.trans (hk5.more fun b _ h => Or.inr h) |>.more fun b _ h => ?_⟩
        · have : xs.length = k := by rw [← HN.out]; omega
          rw [this]
          exact HH.out.2.2.1 _ _ _ hIk (hk5.more fun b _ h => by rw [h]; rfl)
        · rcases h with h | h
          · exact .inl h
          · exact .inr (by rw [h]; rfl))
      have hcm' : cap ≤ 9223372036854775807 := by unfold maxLen at hcm; omega
      have HW5 := Lib.hid hw5
      clear hw5 hk5 hz hoz htk hdr hik hkn hIk hkk hbk hcp hcm hcs HW HI2
      go_wp2_with fail
      rw [← HW5.out]
      go_ret
      exact HE.out
end Go.Proofs.YtgjlcjbmcnofiaaDoor
namespace Go.Proofs.YtgjlcjbmcnofiaaDoor
set_option linter.unusedVariables false
set_option linter.unusedSimpArgs false
open Go.RowKit

theorem enM_size (x : Msg) : (msgA x).size = 6 := rfl
theorem enM_one (x : Msg) : ∀ v ∈ (msgA x).toList, v.oneCell' = true := by
  intro v hv
  simp [msgA] at hv
  rcases hv with rfl | rfl | rfl | rfl | rfl | rfl <;> rfl
theorem enM_all (x : Msg) : (msgA x).all (·.oneCell') = true := Array.all_eq_true_iff_forall_mem.2 fun v hv => enM_one x v (by simpa using hv)

theorem szM : (Tryd.prog.info? 42).map (·.size) = some 6 := by kernel_rfl
/-- the closure's calls: what they answer, and leave -/
def AsksM (xs : List Msg) (p : Msg → Bool) (I : Nat → World → Prop) (T : Nat → Prop) (own : Nat → Prop) (bx : Nat) (w : World) : Prop :=
  ∀ i (hi : i < xs.length) w1, I i w1 → Kept (fun b => T b ∨ own b) w w1 → Calls Tryd.prog 54 #[.agg (msgA xs[i]), .pointer (some ⟨bx, 0, none⟩)] w1 fun e w' => e = .returned (.bool (p xs[i])) ∧ I (i + 1) w' ∧ Kept T w1 w'
def IdxM (xs : List Msg) (p : Msg → Bool) (I : Nat → World → Prop) (e : Ending) (w' : World) : Prop :=
  (e = .returned (.int .i64 (-1)) ∧ (∀ x ∈ xs, p x = false) ∧ I xs.length w') ∨ ∃ j, ∃ hj : j < xs.length, e = .returned (.int .i64 (j : Int)) ∧ p xs[j] = true ∧ (∀ i (hi : i < xs.length), i < j → p xs[i] = false) ∧ I (j + 1) w'
set_option maxRecDepth 100000 in
set_option maxHeartbeats 4000000 in
theorem idxM_any (xs : List Msg) (ad : Option Addr) (cap : Nat) (p : Msg → Bool) (I : Nat → World → Prop) (T own : Nat → Prop) (bx : Nat) (w : World) (hl : xs.length ≤ 1000000)
    (hr : ∀ i (hi : i < xs.length), ∃ g o, ad = some ⟨g, o, none⟩ ∧ g < w.heap.size ∧ ¬ T g ∧ w.rangeAt g (o + i * 6) (msgA xs[i]).toList)
    (hI : I 0 w) (hP : AsksM xs p I T own bx w) :
    Calls Tryd.prog 79 #[.slice ad xs.length cap, .func (.func 54) #[] #[.pointer (some ⟨bx, 0, none⟩)]] w fun e w' => IdxM xs p I e w' ∧ Kept T w w' := by
  have HR := Lib.hid hr
  have HP := Lib.hid hP
  have HI := Lib.hid hI
  obtain ⟨n, hn⟩ : ∃ n, n = xs.length := ⟨_, rfl⟩
  rw [← hn] at hl ⊢
  have HN := Lib.hid hn
  clear hr hP hI hn
  go_enter Tryd.func79, Tryd.ntmps79
  go_wp2_with fail
  go_loopw [8] (fun i wr => ∃ j : Nat, j ≤ n ∧ i = .int .i64 (j : Int) ∧ Hid ((∀ i (hi : i < xs.length), i < j → p xs[i] = false) ∧ I j wr ∧ Kept T w wr)) (fun i _ => n - (intOf i).toNat)
  case atStart => exact ⟨0, by omega, rfl, ⟨fun i hi h => absurd h (by omega), HI.out, Kept.refl _ _⟩⟩
  case round =>
    obtain ⟨j, hj, rfl, HW⟩ := hrel
    by_cases hlt : j < n
    · have hd : decide ((j : Int) < (n : Int)) = true := by simpa using hlt
      have hi1 : (j : Int) < (n : Int) := by omega
      have hjl : j < xs.length := by rw [← HN.out]; exact hlt
      obtain ⟨g, o, hga, hg, hnT, hrow⟩ := HR.out j hjl
      have hrow' : wr.rangeAt g (o + j * 6) (msgA xs[j]).toList := fun i u hu => (HW.out.2.2.cell (p := ⟨g, o + j * 6 + i, none⟩) hg hnT).trans (hrow i u hu)
      have HR2 := Lib.hid hrow'
      have HC := Lib.hid (HP.out j hjl wr HW.out.2.1 (HW.out.2.2.more fun _ _ h => .inl h))
      have HXJ := Lib.hid (show ∀ i (hi : i < xs.length), i < j + 1 → p xs[j] = false → p xs[i] = false from fun i hi h hp => by
        by_cases e : i = j
        · subst e; exact hp
        · exact HW.out.1 i hi (by omega))
      have HYJ := Lib.hid (show p xs[j] = true → ∀ e w', e = .returned (.int .i64 (j : Int)) → I (j + 1) w' → IdxM xs p I e w' from fun hp e w' he hi => .inr ⟨j, hjl, he, hp, HW.out.1, hi⟩)
      obtain ⟨cx, hcx⟩ : ∃ cx, cx = (msgA xs[j]).toList := ⟨_, rfl⟩
      have hcz : cx.length = 6 := by rw [hcx]; rfl
      have hca : cx.toArray = msgA xs[j] := by rw [hcx]
      rw [← hcx] at HR2
      rw [← hca] at HC
      have HZ := Lib.hid (show (Tryd.prog.info? 42).map (·.size) = some cx.length from by rw [hcz]; exact szM)
      generalize p xs[j] = B at *
      have HW2 := Lib.hid HW.out.2.2
      clear hrow hrow' hcx hcz hca hjl HW HR
      subst hga
      go_wp2_with (first | (with_reducible refine wpList_load_mid rfl 42 (.tmp 14) rfl g (o + j * 6) rfl cx _ HR2.out Tryd.underlying42 rfl HZ.out ?_) | fail)
      refine HC.out.mono ?_
      rintro e w2 ⟨rfl, hi2, hk2⟩
      have H2 := Lib.hid (And.intro hi2 (HW2.out.trans hk2))
      clear hi2 hk2 HC HW2 HR2 HZ
      cases B
      · have HE := Lib.hid (show Hid ((∀ i (hi : i < xs.length), i < j + 1 → p xs[i] = false) ∧ I (j + 1) w2 ∧ Kept T w w2) from ⟨fun i hi h => HXJ.out i hi h rfl, H2.out⟩)
        clear HXJ HYJ H2
        go_wp2_with fail
        exact ⟨⟨j + 1, by omega, by go_num, HE.out⟩, by simp [intOf]; omega⟩
      · have HE := Lib.hid (And.intro (HYJ.out rfl _ w2 rfl H2.out.1) H2.out.2)
        clear HXJ HYJ H2
        go_wp2_with fail
        go_ret
        exact HE.out
    · have hd : decide ((j : Int) < (n : Int)) = false := by simpa using hlt
      obtain rfl : j = n := by omega
      have HE := Lib.hid (show IdxM xs p I (.returned (.int .i64 (-1))) wr ∧ Kept T w wr from ⟨.inl ⟨rfl, fun x hx => by
        obtain ⟨i, hi, rfl⟩ := List.mem_iff_getElem.1 hx
        exact HW.out.1 i hi (by rw [HN.out]; exact hi), by rw [← HN.out]; exact HW.out.2.1⟩, HW.out.2.2⟩)
      clear HW
      go_wp2_with fail
      go_ret
      exact HE.out
/-- what DeleteFunc leaves -/
def DelM (xs : List Msg) (ad : Option Addr) (cap : Nat) (p : Msg → Bool) (I : Nat → World → Prop) (T : Nat → Prop) (w : World) (e : Ending) (w' : World) : Prop :=
  e = .returned (.slice ad (xs.filter fun x => !p x).length cap) ∧ w'.ownsRow 0 42 6 (.slice ad (xs.filter fun x => !p x).length cap) (xs.filter fun x => !p x).length (enL msgA (xs.filter fun x => !p x)) ∧ I xs.length w' ∧
    Kept (fun b => T b ∨ (Value.slice ad xs.length cap).ownBlock = some b) w w'
theorem filter_atM {xs : List Msg} {p : Msg → Bool} {j : Nat} (hj : j < xs.length) : (xs.take (j + 1)).filter (fun x => !p x) = if p xs[j] = true then (xs.take j).filter (fun x => !p x) else (xs.take j).filter (fun x => !p x) ++ [xs[j]] := by
  rw [List.take_succ_eq_append_getElem hj, List.filter_append]
  by_cases h : p xs[j] = true
  · simp [h]
  · simp [h]
/-- while elements are moved: the first ones are those that are kept, the last ones as they were -/
def MvM (xs : List Msg) (g cap : Nat) (p : Msg → Bool) (i j : Nat) (w : World) : Prop :=
  ∃ zs : List Msg, zs.length = xs.length ∧ w.ownsRow 0 42 6 (.slice (some ⟨g, 0, none⟩) xs.length cap) xs.length (enL msgA zs) ∧ zs.take i = (xs.take j).filter (fun x => !p x) ∧ (∀ a, j ≤ a → zs[a]? = xs[a]?) ∧ i < j ∧ j ≤ xs.length
set_option maxRecDepth 100000 in
set_option maxHeartbeats 8000000 in
theorem delM_any (xs : List Msg) (ad : Option Addr) (cap : Nat) (p : Msg → Bool) (I : Nat → World → Prop) (T : Nat → Prop) (bx : Nat) (w : World) (hl : xs.length ≤ 1000000)
    (ho : w.ownsRow 0 42 6 (.slice ad xs.length cap) xs.length (enL msgA xs)) (hTo : ∀ b, T b → b < w.heap.size) (hT : ∀ b, (Value.slice ad xs.length cap).ownBlock = some b → ¬ T b)
    (hI : I 0 w) (hg : ∀ i w1 w2, I i w1 → Kept (fun b => (Value.slice ad xs.length cap).ownBlock = some b) w1 w2 → I i w2)
    (hP : AsksM xs p I T (fun b => (Value.slice ad xs.length cap).ownBlock = some b) bx w) :
    Calls Tryd.prog 52 #[.slice ad xs.length cap, .func (.func 54) #[] #[.pointer (some ⟨bx, 0, none⟩)]] w (DelM xs ad cap p I T w) := by
  have HC := Lib.hid (idxM_any xs ad cap p I T (fun b => (Value.slice ad xs.length cap).ownBlock = some b) bx w hl (fun i hi => by
    obtain ⟨g, rfl, hlt⟩ := none_len ho (by omega)
    refine ⟨g, 0, rfl, hlt, hT g rfl, ?_⟩
    rw [Nat.zero_add]
    exact own_at' enM_size ho hi) hI hP)
  have HH := Lib.hid (And.intro ho (And.intro hT (And.intro hg hP)))
  obtain ⟨n, hn⟩ : ∃ n, n = xs.length := ⟨_, rfl⟩
  rw [← hn] at hl HC ⊢
  have HN := Lib.hid hn
  have HTO := Lib.hid hTo
  clear ho hT hI hg hP hn hTo
  go_enter Tryd.func52, Tryd.ntmps52
  go_wp2_with fail
  refine HC.out.mono ?_
  rintro e w2 ⟨hix, hk2⟩
  rcases hix with ⟨rfl, hall, hi2⟩ | ⟨j, hj, rfl, hp, hbef, hi2⟩
  · have hf : xs.filter (fun x => !p x) = xs := List.filter_eq_self.2 fun x hx => by rw [hall x hx]; rfl
    have HE := Lib.hid (show DelM xs ad cap p I T w (.returned (.slice ad n cap)) w2 from by
      unfold DelM
      rw [hf, HN.out]
      exact ⟨rfl, own_keptS HH.out.1 hk2 HH.out.2.1, hi2, hk2.more fun _ _ h => .inl h⟩)
    clear hall hi2 hk2 hf HC
    go_wp2_with fail
    go_ret
    exact HE.out
  obtain ⟨g, hga, hglt⟩ := none_len HH.out.1 (by omega)
  subst hga
  have h1 : (j : Int) < 1000000 := by have := HN.out; omega
  have hm1 : ((j : Int) == -1) = false := by simp
  have HI2 := Lib.hid (show ∃ i j' : Nat, i = j ∧ j' = j + 1 ∧ MvM xs g cap p i j' w2 ∧ I j' w2 ∧ Kept (fun b => T b ∨ b = g) w w2 from by
    refine ⟨j, j + 1, rfl, rfl, ⟨xs, rfl, own_keptS HH.out.1 hk2 HH.out.2.1, ?_, fun _ _ => rfl, by omega, by omega⟩, hi2, hk2.more fun _ _ h => .inl h⟩
    rw [filter_atM hj, if_pos hp]
    exact (List.filter_eq_self.2 fun x hx => by
      obtain ⟨i, hi, rfl⟩ := List.mem_iff_getElem.1 hx
      rw [List.length_take] at hi
      rw [List.getElem_take, hbef i (by omega) (by omega)]
      rfl).symm)
  have HJ := Lib.hid (show j < n from by rw [HN.out]; exact hj)
  clear hp hbef hi2 hk2 HC hj
  go_wp2_with fail
  go_loopw [5, 6] (fun i j wr => ∃ i' j' : Nat, i = .int .i64 (i' : Int) ∧ j = .int .i64 (j' : Int) ∧ Hid (MvM xs g cap p i' j' wr ∧ I j' wr ∧ Kept (fun b => T b ∨ b = g) w wr)) (fun _ j _ => n - (intOf j).toNat)
  case atStart =>
    obtain ⟨i, j', rfl, rfl, h⟩ := HI2.out
    exact ⟨i, i + 1, rfl, by go_num, h⟩
  case round =>
    obtain ⟨i, k, rfl, rfl, HW⟩ := hrel
    obtain ⟨⟨zs, hz, hoz, htk, hdr, hik, hkn⟩, hIk, hkk⟩ := HW.out
    by_cases hlt : k < n
    · have hd : decide ((k : Int) < (n : Int)) = true := by simpa using hlt
      have hk1 : (k : Int) < (n : Int) := by omega
      have hi1 : (i : Int) < (n : Int) := by omega
      have hkl : k < xs.length := by rw [← HN.out]; exact hlt
      have hzk : k < zs.length := by rw [hz]; exact hkl
      have hzx : zs[k] = xs[k] := by
        have := hdr k (Nat.le_refl k)
        rw [List.getElem?_eq_getElem hzk, List.getElem?_eq_getElem hkl] at this
        injection this
      have hrow := own_at' enM_size hoz hzk
      rw [hzx] at hrow
      obtain ⟨cx, hcx⟩ : ∃ cx, cx = (msgA xs[k]).toList := ⟨_, rfl⟩
      have hcz : cx.length = 6 := by rw [hcx]; rfl
      have hca : cx.toArray = msgA xs[k] := by rw [hcx]
      have HZ := Lib.hid (show (Tryd.prog.info? 42).map (·.size) = some cx.length from by rw [hcz]; exact szM)
      have HZ2 := Lib.hid (show (Tryd.prog.info? 42).map (·.size) = some cx.toArray.size from by rw [show cx.toArray.size = cx.length from rfl, hcz]; exact szM)
      have HZ3 := Lib.hid (show (#[.int .i64 0, .int .u32 0, .int .u64 0, .int .i64 0, .slice none 0 0, .string ⟨#[]⟩] : Array Value).size = cx.toArray.size from by rw [show cx.toArray.size = cx.length from rfl, hcz]; rfl)
      have HA := Lib.hid (show cx.toArray.all (·.oneCell') = true from by rw [hca]; exact enM_all _)
      -- the variable
      obtain ⟨N, hNN⟩ : ∃ N, N = wr.heap.size := ⟨_, rfl⟩
      have hz0 := heap_alloc_new wr (.cells #[.int .i64 0, .int .u32 0, .int .u64 0, .int .i64 0, .slice none 0 0, .string ⟨#[]⟩] 42)
      rw [← hNN] at hz0
      obtain ⟨w3, hw3⟩ : ∃ w3, w3 = (wr.alloc (.cells #[.int .i64 0, .int .u32 0, .int .u64 0, .int .i64 0, .slice none 0 0, .string ⟨#[]⟩] 42)).setRow N cx.toArray := ⟨_, rfl⟩
      have hb3 : Below wr.heap.size wr w3 := by rw [hw3]; exact (kept_setRowT (wr.alloc (.cells #[.int .i64 0, .int .u32 0, .int .u64 0, .int .i64 0, .slice none 0 0, .string ⟨#[]⟩] 42)) N cx.toArray).out (ba (br wr) _) (ba (br wr) _).size (fun k hk' e => by omega)
      have hc3 : w3.heap[N]? = some (.cells cx.toArray 42 (0, 0)) := by rw [hw3]; exact setRow_heap _ _ _ _ _ _ hz0
      have HV := Lib.hid (And.intro hz0 (And.intro hc3 hNN))
      have HROW := Lib.hid (show wr.rangeAt g (k * 6) cx from by rw [hcx]; exact hrow)
      have hk3 : Kept (fun b => T b ∨ b = g) w w3 := hkk.trans (Kept.of_below hb3)
      have HAS := Lib.hid (HH.out.2.2.2 k hkl w3 (HH.out.2.2.1 k _ _ hIk (Kept.of_below hb3)) (hk3.more fun b _ h => by
        rcases h with h | h
        · exact .inl h
        · exact .inr (by rw [h]; rfl)))
      rw [← hca] at HAS
      have HM := Lib.hid (show w3.ownsRow 0 42 6 (.slice (some ⟨g, 0, none⟩) xs.length cap) xs.length (enL msgA zs) from own_keptS (S := fun _ => False) hoz (Kept.of_below hb3) (fun _ _ h => h))
      have HK3 := Lib.hid (And.intro hk3 hb3)
      have HZS := Lib.hid (And.intro hz (And.intro htk (And.intro hdr (And.intro hik (And.intro hkl (And.intro hca hlt))))))
      have HF := Lib.hid (filter_atM (p := p) hkl)
      generalize p xs[k] = B at *
      generalize hxk : xs[k] = X at *
      have HX := Lib.hid hxk
      have HW3 := Lib.hid hw3
      clear hw3 hNN hxk hrow hcx hcz hca hz0 hb3 hc3 hk3 hz htk hdr hik hIk hkk hoz hzx hzk HI2
      go_upto_region 8 with (first
        | (with_reducible refine wpList_load_mid rfl 42 (.tmp 24) rfl g (k * 6) rfl cx _ HROW.out Tryd.underlying42 rfl HZ.out ?_)
        | (refine wpList_store_row rfl 42 (.tmp 7) (.tmp 25) rfl N cx.toArray (by rw [HV.out.2.2]; rfl) rfl 42 _ HV.out.1 HZ2.out HZ3.out HA.out ?_)
        | fail)
      simp only [Act.put]
      rw [← HV.out.2.2, ← HW3.out]
      clear HW3
      go_wp2_with (first
        | (with_reducible refine wpList_load_row rfl 42 (.tmp 7) rfl N rfl 42 cx.toArray (0, 0) _ HV.out.2.1 Tryd.underlying42 rfl HZ2.out ?_)
        | fail)
      refine HAS.out.mono ?_
      rintro e w4 ⟨rfl, hi4, hk4⟩
      have hk4w := HK3.out.1.trans (hk4.more fun b _ h => Or.inl (b := b = g) h)
      have ho4 := own_keptS HM.out hk4 HH.out.2.1
      cases B
      · have hN4 : w4.heap[N]? = some (.cells cx.toArray 42 (0, 0)) := hk4.keep HV.out.2.1 (fun h => by
          have h1 := HTO.out N h
          have h2 := HK3.out.1.size
          have h3 := HW.out.2.2.size
          have h4 := HV.out.2.2
          omega)
        obtain ⟨_, _, _, hcp, _, _, _⟩ := own_open ho4
        have hth : w4.there g (i * 6) cx.toArray.size := by
          rw [← HZ3.out]
          exact own_there ho4 (by
            have := HZS.out.2.2.2.1
            have := HZS.out.2.2.2.2.1
            show i * 6 + 6 ≤ cap * 6
            omega)
        have HN4 := Lib.hid (And.intro hN4 hth)
        obtain ⟨w5, hw5⟩ : ∃ w5, w5 = w4.setCells g (i * 6) cx := ⟨_, rfl⟩
        have hk5 : Kept (fun b => b = g) w4 w5 := by rw [hw5]; exact kept_setCells _ _ _
        have HE := Lib.hid (show MvM xs g cap p (i + 1) (k + 1) w5 ∧ I (k + 1) w5 ∧ Kept (fun b => T b ∨ b = g) w w5 from by
          obtain ⟨z1, z2, z3, z4, z5, z6, z7⟩ := HZS.out
          refine ⟨⟨zs.set i X, by rw [List.length_set, z1], ?_, ?_, fun a ha => ?_, by omega, by omega⟩, HH.out.2.2.1 _ _ _ hi4 (hk5.more fun b _ h => by rw [h]; rfl), hk4w.trans (hk5.more fun b _ h => Or.inr h)⟩
          · have := own_set' enM_size ho4 z1 (show i < xs.length by omega) X
            rw [← z6] at this
            rw [hw5]
            exact this
          · rw [HF.out, if_neg (by decide), ← z2, List.take_succ_eq_append_getElem (by rw [List.length_set]; omega), List.take_set_of_le (Nat.le_refl i), List.getElem_set_self]
          · rw [List.getElem?_set_ne (by omega)]
            exact z3 a (by omega))
        have HK := Lib.hid HZS.out.2.2.2.2.2.2
        have HW5 := Lib.hid hw5
        clear hw5 hk5 hN4 hth hcp hi4 hk4 hk4w ho4 HAS HM HK3 HZS HF HX HROW
        go_wp2_with (first
          | (with_reducible refine wpList_load_row rfl 42 (.tmp 7) rfl N rfl 42 cx.toArray (0, 0) _ HN4.out.1 Tryd.underlying42 rfl HZ2.out ?_)
          | (with_reducible refine wpList_store_mid rfl 42 (.tmp 33) (.tmp 32) rfl g (i * 6) cx.toArray rfl rfl HN4.out.2 HZ2.out HA.out ?_)
          | fail)
        rw [← HW5.out]
        exact ⟨⟨i + 1, k + 1, by go_num, by go_num, HE.out⟩, by have := HK.out; simp [intOf]; omega⟩
      · have HE := Lib.hid (show MvM xs g cap p i (k + 1) w4 ∧ I (k + 1) w4 ∧ Kept (fun b => T b ∨ b = g) w w4 from by
          obtain ⟨z1, z2, z3, z4, z5, z6, z7⟩ := HZS.out
          exact ⟨⟨zs, z1, ho4, by rw [HF.out, if_pos rfl]; exact z2, fun a ha => z3 a (by omega), by omega, by omega⟩, hi4, hk4w⟩)
        have HK := Lib.hid HZS.out.2.2.2.2.2.2
        clear hi4 hk4 hk4w ho4 HAS HM HK3 HZS HF HX HROW
        go_wp2_with fail
        exact ⟨⟨i, k + 1, rfl, by go_num, HE.out⟩, by have := HK.out; simp [intOf]; omega⟩
    · have hd : decide ((k : Int) < (n : Int)) = false := by simpa using hlt
      have hkn' : k = n := by have := HN.out; omega
      have hin : i < n := by omega
      obtain ⟨cur, _, hbk, hcp, hcm, hcs, _⟩ := own_open hoz
      have hcap : n ≤ cap := by rw [HN.out]; exact hcp
      have hcl : ∀ ty, (Builtin.clear_ #[27] ty #[.slice (some ⟨g, i * 6, none⟩) (n - i) (cap - i)]).run Tryd.prog wr = .ok (.tuple #[]) (wr.setCells g (i * 6) (Builtin.zeroCells #[.int .i64 0, .int .u32 0, .int .u64 0, .int .i64 0, .slice none 0 0, .string ⟨#[]⟩] (n - i)).toList) := fun ty =>
        run_clear_row wr 27 42 ty (.agg #[.int .i64 0, .int .u32 0, .int .u64 0, .int .i64 0, .slice none 0 0, .string ⟨#[]⟩]) #[.int .i64 0, .int .u32 0, .int .u64 0, .int .i64 0, .slice none 0 0, .string ⟨#[]⟩] Tryd.underlying27 (fun _ => by kernel_rfl) rfl (enM_one zeroM) (by decide) g (i * 6) (n - i) (cap - i) (by omega) (own_there hoz (by show i * 6 + (n - i) * 6 ≤ cap * 6; omega))
      obtain ⟨w5, hw5⟩ : ∃ w5, w5 = wr.setCells g (i * 6) (Builtin.zeroCells #[.int .i64 0, .int .u32 0, .int .u64 0, .int .i64 0, .slice none 0 0, .string ⟨#[]⟩] (n - i)).toList := ⟨_, rfl⟩
      have hk5 : Kept (fun b => b = g) wr w5 := by rw [hw5]; exact kept_setCells _ _ _
      have HE := Lib.hid (show DelM xs (some ⟨g, 0, none⟩) cap p I T w (.returned (.slice (some ⟨g, 0, none⟩) i cap)) w5 from by
        have hxt : xs.take k = xs := List.take_of_length_le (by rw [← HN.out]; omega)
        rw [hxt] at htk
        have hlen : (xs.filter fun x => !p x).length = i := by rw [← htk, List.length_take, hz, ← HN.out]; omega
        have hc := own_cut enM_size hoz hz (show i ≤ xs.length by rw [← HN.out]; omega) (Builtin.zeroCells #[.int .i64 0, .int .u32 0, .int .u64 0, .int .i64 0, .slice none 0 0, .string ⟨#[]⟩] (n - i)).toList (by rw [zeroCells_len]; show i * 6 + (n - i) * 6 ≤ cap * 6; omega)
        rw [← hw5, htk] at hc
        unfold DelM
        rw [hlen]
        refine ⟨rfl, hc, ?_, hkk.trans (hk5.more fun b _ h => Or.inr h) |>.more fun b _ h => ?_⟩
        · have : xs.length = k := by rw [← HN.out]; omega
          rw [this]
          exact HH.out.2.2.1 _ _ _ hIk (hk5.more fun b _ h => by rw [h]; rfl)
        · rcases h with h | h
          · exact .inl h
          · exact .inr (by rw [h]; rfl))
      have hcm' : cap ≤ 9223372036854775807 := by unfold maxLen at hcm; omega
      have HW5 := Lib.hid hw5
      clear hw5 hk5 hz hoz htk hdr hik hkn hIk hkk hbk hcp hcm hcs HW HI2
      go_wp2_with fail
      rw [← HW5.out]
      go_ret
      exact HE.out
end Go.Proofs.YtgjlcjbmcnofiaaDoor
