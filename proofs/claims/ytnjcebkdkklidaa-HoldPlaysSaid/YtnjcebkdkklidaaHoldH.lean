/-
  hold's awake.
  Conditions: none.
-/
import Derived.Test.YtnjcebkdkklidaaHoldG
namespace Go.Proofs.Ytnjcebkdkklidaa
set_option linter.unusedVariables false
set_option linter.unusedSimpArgs false
open Go.RowKit
def lo0 : Nat → Nat := fun _ => 0
def R0 : Nat → List Msg := fun _ => []
theorem CopyEnd.len {w w' : World} {l : List Msg} {e : Ending} (h : CopyEnd w l e w') : ∃ v L, e = .returned v ∧ w'.ownsRow w.heap.size 37 6 v l.length (rowsM L) ∧ L.map core = l.map core ∧ L.length = l.length := by
  obtain ⟨v, L, he, ho, hm, _⟩ := h
  have hl : L.length = l.length := by simpa using congrArg List.length hm
  exact ⟨v, L, he, hl ▸ ho, hm, hl⟩
theorem bd0 : HoldBd lo0 R0 := fun p _ => by unfold lo0 R0; simp
theorem HoldAt.not_in {w : World} {D N : Nat} {lo : Nat → Nat} {R : Nat → List Msg} {V : Nat → Value} (h : HoldAt w D lo R V) (hN : w.heap.size ≤ N) : ¬ holdS D V N := by
  rintro (e | ⟨p, hp, e⟩)
  · have := h.lt; omega
  · have := ((h.own p hp).lt N e).2; omega
/-- a hold's own blocks lie from B on -/
def HoldFrom (B D : Nat) (V : Nat → Value) : Prop := ∀ b, holdS D V b → B ≤ b
theorem HoldFrom.new {B D : Nat} {V V' : Nat → Value} {w : World} (h : HoldFrom B D V) (hn : newV w V V') (hB : B ≤ w.heap.size) : HoldFrom B D V' := by
  rintro b (rfl | ⟨p, hp, e⟩)
  · exact h _ (.inl rfl)
  · rcases hn p hp b e with e | e
    · exact h b (.inr ⟨p, hp, e⟩)
    · omega
theorem HoldFrom.below {B D : Nat} {V : Nat → Value} {w0 w w' : World} (h : HoldFrom B D V) (hb : Below B w0 w) (hB : B ≤ w.heap.size) (hk : Kept (holdS D V) w w') : Below B w0 w' :=
  hk.out hb hB (fun q hq hin => by have := h q hin; omega)
def PutEnd2 (w : World) (D : Nat) (lo : Nat → Nat) (R : Nat → List Msg) (V : Nat → Value) (m : Msg) (e : Ending) (w' : World) : Prop :=
  e = .returned (.int .i64 (putK lo R m)) ∧ Kept (holdS D V) w w' ∧ ∃ V', newV w V V' ∧ ((putK lo R m ≠ 0 ∧ HoldAt w' D lo R V') ∨ (putK lo R m = 0 ∧ m.frm.toNat < 64 ∧ m.frm = (m.frm.toNat : Int) ∧ ∃ m', core m' = core m ∧ HoldAt w' D lo (upd R m.frm.toNat (R m.frm.toNat ++ [m'])) V'))
theorem hPut_two (D : Nat) (lo : Nat → Nat) (R : Nat → List Msg) (V : Nat → Value) (m : Msg) (w : World) (h : HoldAt w D lo R V) (hb : HoldBd lo R) (hok : MsgOk w m) (hds : m.ds.length ≤ 1000000) :
    Calls Try.prog 12 #[.pointer (some ⟨D, 0, none⟩), .agg (msgA m)] w fun e w' => PutEnd2 w D lo R V m e w' :=
  (hPut_any D lo R V m w h hb hok hds).mono fun e w' ⟨he, hk, hor⟩ => ⟨he, hk, by
    rcases hor with ⟨h1, h2⟩ | ⟨h1, h2, h3, m', v', h4, h5, h6⟩
    · exact ⟨V, fun q _ b hb => .inl hb, .inl ⟨h1, h2⟩⟩
    · exact ⟨_, newV_upd fun b hb => by
        rcases h6 with e | ⟨b', e, hle⟩
        · rw [e] at hb; exact .inl hb
        · rw [e] at hb; injection hb with hb; exact .inr (hb ▸ hle), .inr ⟨h1, h2, h3, m', h4, h5⟩⟩⟩
theorem bd1 (m : Msg) : HoldBd lo0 (upd R0 2 (R0 2 ++ [m])) := fun p _ => by
  refine ⟨?_, by unfold lo0; omega⟩
  by_cases e : p = 2
  · subst e; rw [upd_same]; simp [R0]
  · rw [upd_ne _ _ e]; simp [R0]
theorem ds1 {m : Msg} (hm : m.ds.length ≤ 1000000) : ∀ p, p < 64 → ∀ x ∈ upd R0 2 (R0 2 ++ [m]) p, x.ds.length ≤ 1000000 := fun p _ x hx => by
  by_cases e : p = 2
  · subst e; rw [upd_same] at hx; simp [R0] at hx; rw [hx]; exact hm
  · rw [upd_ne _ _ e] at hx; simp [R0] at hx
def AllIs (R : Nat → List Msg) (l : List Msg) : Prop := allN R 64 = l
theorem all1 (m : Msg) : AllIs (upd R0 2 (R0 2 ++ [m])) [m] := by rfl
set_option maxRecDepth 100000 in
set_option maxHeartbeats 4000000 in
theorem awake12_any (w : World) : Calls Try.prog 7 #[] w fun e w' => e = .returned (.bool true) ∧ Below w.heap.size w w' := by
  have hzK : ∀ W : World, (Instr.build 37 #[(0, .int .i64 2), (1, .int .u32 3)]).run Try.prog W = .ok (.agg #[.int .i64 2, .int .u32 3, .int .u64 0, .int .i64 0, .slice none 0 0, .string ⟨#[]⟩]) W := fun W => by kernel_rfl
  go_enter Try.func7, Try.ntmps7
  go_wp2_with fail
  refine (hNew_any w).mono ?_
  rintro e w1 ⟨rfl, h1, hb1⟩
  obtain ⟨D, hD⟩ : ∃ D, D = w.heap.size := ⟨_, rfl⟩
  obtain ⟨V1, hV1⟩ : ∃ V1 : Nat → Value, V1 = fun _ => .slice none 0 0 := ⟨_, rfl⟩
  have hf1 : HoldFrom w.heap.size D V1 := by
    rintro b (e | ⟨p, _, e⟩)
    · omega
    · rw [hV1] at e; cases e
  rw [← hV1, ← hD] at h1
  have hbA := ba (br w1) (.cells #[.int .u32 1] 23)
  have hoA := ownOne w1 w1.heap.size 23 #[.int .u32 1] 1 rfl (Nat.le_refl _)
  have hokA : MsgOk (w1.alloc (.cells #[.int .u32 1] 23)) ⟨2, 1, 5, 0, [1], ⟨#[]⟩, some ⟨w1.heap.size, 0, none⟩, 1⟩ :=
    .of_own (B := w1.heap.size) (by simp) (by simp [ByteArray.size]) (by simp) (by simp) hoA
  have HP := Lib.hid (show Calls Try.prog 12 #[.pointer (some ⟨D, 0, none⟩), .agg #[.int .i64 2, .int .u32 1, .int .u64 5, .int .i64 0, .slice (some ⟨w1.heap.size, 0, none⟩) 1 1, .string ⟨#[]⟩]] (w1.alloc (.cells #[.int .u32 1] 23)) fun e w' => PutEnd2 _ D lo0 R0 V1 _ e w' from hPut_two D lo0 R0 V1 ⟨2, 1, 5, 0, [1], ⟨#[]⟩, some ⟨w1.heap.size, 0, none⟩, 1⟩ _ (h1.below hbA) bd0 hokA (by simp))
  have HB1 := Lib.hid (And.intro (bt hb1 hbA) hf1)
  rw [← hD]
  have HD := Lib.hid hD
  clear h1 hb1 hoA hokA hbA hf1 hV1 hD
  go_wp2_with fail
  refine HP.out.mono ?_
  rintro e w2 ⟨rfl, hk2, V2, hn2, hor⟩
  rcases hor with ⟨hne, _⟩ | ⟨z1, z2, z3, m, hcm, h2⟩
  · exact absurd rfl hne
  clear z1 z2 z3
  rw [show putK lo0 R0 ⟨2, 1, 5, 0, [1], ⟨#[]⟩, some ⟨w1.heap.size, 0, none⟩, 1⟩ = 0 from rfl]
  have hb2 := HB1.out.2.below HB1.out.1 HB1.out.1.size hk2
  have hf2 := HB1.out.2.new hn2 HB1.out.1.size
  obtain ⟨hm1, hm2, hm3, hm4, hm5, hm6⟩ := core_iff.1 hcm
  simp only at hm1 hm2 hm3 hm5
  have hm5l : m.ds.length ≤ 1000000 := by rw [hm5]; simp
  obtain ⟨R1, hR1⟩ : ∃ R1, R1 = upd R0 2 (R0 2 ++ [m]) := ⟨_, rfl⟩
  have hbd1 := bd1 m
  have hds1 := ds1 hm5l
  have hall1 := all1 m
  have h2' : HoldAt w2 D lo0 (upd R0 2 (R0 2 ++ [m])) V2 := h2
  rw [← hR1] at hbd1 hds1 hall1 h2'
  have HQ := Lib.hid (show Calls Try.prog 12 #[.pointer (some ⟨D, 0, none⟩), .agg #[.int .i64 2, .int .u32 3, .int .u64 0, .int .i64 0, .slice none 0 0, .string ⟨#[]⟩]] w2 fun e w' => PutEnd2 _ D lo0 R1 V2 _ e w' from hPut_two D lo0 R1 V2 ⟨2, 3, 0, 0, [], ⟨#[]⟩, none, 0⟩ w2 h2' hbd1 ⟨by simp, by simp [ByteArray.size], by simp, by simp, by simp⟩ (by simp))
  have hK3 : putK lo0 R1 ⟨2, 3, 0, 0, [], ⟨#[]⟩, none, 0⟩ = 13 := by rw [hR1]; rfl
  have HM := Lib.hid (And.intro hm1 (And.intro hm2 (And.intro hm3 (And.intro hR1 (And.intro hbd1 (And.intro hds1 hall1))))))
  have HB2 := Lib.hid (And.intro hb2 hf2)
  clear hk2 h2 hcm hm1 hm2 hm3 hm4 hm5 hm6 hR1 hbd1 hds1 hall1 hb2 h2' hm5l hf2 hn2
  go_wp2_with fail
  refine HQ.out.mono ?_
  rintro e w3 ⟨rfl, hk3, V3, hn3, hor⟩
  have h3 : HoldAt w3 D lo0 R1 V3 := hor.elim (fun h => h.2) (fun h => absurd (hK3.symm.trans h.1) (by decide))
  rw [hK3]
  have hb3 := HB2.out.2.below HB2.out.1 HB2.out.1.size hk3
  have hf3 := HB2.out.2.new hn3 HB2.out.1.size
  have HG := Lib.hid (show Calls Try.prog 15 #[.pointer (some ⟨D, 0, none⟩), .int .i64 2, .int .u32 1] w3 fun e w' => GetEnd (getZ lo0 R1 2 1) e w' ∧ Below w3.heap.size w3 w' from hGet_any D lo0 R1 V3 2 1 w3 h3 HM.out.2.2.2.2.1 HM.out.2.2.2.2.2.1)
  have hg1 : getZ lo0 R1 2 1 = some m := by rw [HM.out.2.2.2.1]; rfl
  rw [hg1] at HG
  have HB3 := Lib.hid (And.intro h3 (And.intro hb3 hf3))
  clear h3 hb3 hf3 hk3 hn3 hor hK3 hg1
  go_wp2_with fail
  refine HG.out.mono ?_
  rintro e w4 ⟨⟨m2, rfl, hc2, _⟩, hb4⟩
  have hst : m2.stamp = 5 := (core_iff.1 hc2).2.2.1.trans HM.out.2.2.1
  obtain ⟨x0, x1, x2, x3, x4, x5, x6, x7⟩ := m2
  simp only at hst
  subst hst
  have h4 := HB3.out.1.below hb4
  have HN := Lib.hid (h4.not_in (N := w4.heap.size) (Nat.le_refl _))
  have hbA := ba (br w4) (.cells (msgA ⟨x0, x1, 5, x3, x4, x5, x6, x7⟩) 37)
  have hxA := heap_alloc_new w4 (.cells (msgA ⟨x0, x1, 5, x3, x4, x5, x6, x7⟩) 37)
  have HAb := Lib.hid (show Calls Try.prog 21 #[.pointer (some ⟨D, 0, none⟩), .agg #[.int .u64 4, .int .i64 0]] (w4.alloc (.cells (msgA ⟨x0, x1, 5, x3, x4, x5, x6, x7⟩) 37)) fun e w' => CopyEnd (w4.alloc (.cells (msgA ⟨x0, x1, 5, x3, x4, x5, x6, x7⟩) 37)) (sortM (aboveN R1 4 0 64)) e w' ∧ Below (w4.alloc (.cells (msgA ⟨x0, x1, 5, x3, x4, x5, x6, x7⟩) 37)).heap.size (w4.alloc (.cells (msgA ⟨x0, x1, 5, x3, x4, x5, x6, x7⟩) 37)) w' from hAbove_any D lo0 R1 V3 4 0 _ (h4.below hbA) HM.out.2.2.2.2.1 (by have h := HM.out.2.2.2.2.2.2; unfold AllIs at h; rw [h]; simp) HM.out.2.2.2.2.2.1)
  have HB4 := Lib.hid (And.intro (h4.below hbA) (And.intro (bt (bt HB3.out.2.1 hb4) hbA) (And.intro HB3.out.2.2 hxA)))
  have hmA : msgA ⟨x0, x1, 5, x3, x4, x5, x6, x7⟩ = #[.int .i64 x0, .int .u32 (x1 : Int), .int .u64 5, .int .i64 x3, .slice x6 x4.length x7, .string x5] := rfl
  rw [hmA] at HAb HB4 ⊢
  clear h4 hbA hxA hmA hb4 hc2
  go_wp2_with fail
  generalize w4.alloc (.cells #[.int .i64 x0, .int .u32 (x1 : Int), .int .u64 5, .int .i64 x3, .slice x6 x4.length x7, .string x5] 37) = W5 at *
  refine HAb.out.mono ?_
  rintro e w6 ⟨hce, hb6⟩
  have hlen : (sortM (aboveN R1 4 0 64)).length = 1 := by
    rw [sortM_len]
    have h := HM.out.2.2.2.2.2.2
    unfold AllIs allN at h
    unfold aboveN
    rw [h, List.filter_cons, show keyAh 4 0 m = true by unfold keyAh; rw [HM.out.2.2.1, HM.out.1]; rfl]
    rfl
  obtain ⟨v6, L6, rfl, ho6, _, _⟩ := hce.len
  obtain ⟨a6, c6, rfl⟩ := ownForm ho6
  rw [hlen]
  have h6 := HB4.out.1.below hb6
  have hx6 := (hb6.block _ (Array.getElem?_eq_some_iff.1 HB4.out.2.2.2).1).trans HB4.out.2.2.2
  have hb6w := bt HB4.out.2.1 hb6
  obtain ⟨lo2, hlo2⟩ : ∃ l, l = dropLo lo0 R1 2 1 := ⟨_, rfl⟩
  obtain ⟨R2, hR2⟩ : ∃ r, r = dropR lo0 R1 2 1 := ⟨_, rfl⟩
  have HDr := Lib.hid (show Calls Try.prog 10 #[.pointer (some ⟨D, 0, none⟩), .int .i64 2, .int .u32 1] w6 fun e w' => DropEnd w6 D lo0 R1 V3 2 1 e w' from hDrop_any D lo0 R1 V3 2 1 w6 h6 HM.out.2.2.2.2.1 (by omega))
  have hl2 : lo2 2 = 1 := by rw [hlo2, HM.out.2.2.2.1]; rfl
  have hr2 : (R2 2).length = 0 := by rw [hR2, HM.out.2.2.2.1]; rfl
  have hsub : ∀ p, p < 64 → ∀ x ∈ R2 p, x ∈ R1 p := fun p hp x hx => by
    rw [hR2] at hx
    unfold dropR at hx
    split at hx
    · by_cases e : p = (2 : Int).toNat
      · subst e; rw [upd_same] at hx; exact List.mem_of_mem_drop hx
      · rw [upd_ne _ _ e] at hx; exact hx
    · exact hx
  have hbd2 : HoldBd lo2 R2 := fun p hp => by
    rw [hlo2, hR2]
    unfold dropLo dropR
    have h1 := HM.out.2.2.2.2.1 p hp
    split
    · by_cases e : p = (2 : Int).toNat
      · subst e; rw [upd_same, upd_same]; rw [List.length_drop]; omega
      · rw [upd_ne _ _ e, upd_ne _ _ e]; exact h1
    · exact h1
  have HL2 := Lib.hid (And.intro hl2 (And.intro hr2 (And.intro hsub (And.intro hbd2 (And.intro hlo2 hR2)))))
  have H6 := Lib.hid (And.intro hx6 (And.intro hb6w (h6.not_in (N := w6.heap.size) (Nat.le_refl _))))
  clear h6 hx6 hb6w hl2 hr2 hsub hbd2 hlo2 hR2 ho6 hce hlen hb6
  go_wp2_with fail
  refine HDr.out.mono ?_
  rintro e w7 ⟨rfl, ⟨V4, h7, hn7⟩, hk7⟩
  rw [← HL2.out.2.2.2.2.1, ← HL2.out.2.2.2.2.2] at h7
  have hb7 := HB4.out.2.2.1.below H6.out.2.1 H6.out.2.1.size hk7
  have hx7 := hk7.keep H6.out.1 HN.out
  have HG7 := Lib.hid (show Calls Try.prog 15 #[.pointer (some ⟨D, 0, none⟩), .int .i64 2, .int .u32 1] w7 fun e w' => GetEnd (getZ lo2 R2 2 1) e w' ∧ Below w7.heap.size w7 w' from hGet_any D lo2 R2 V4 2 1 w7 h7 HL2.out.2.2.2.1 (fun p hp x hx => HM.out.2.2.2.2.2.1 p hp x (HL2.out.2.2.1 p hp x hx)))
  have hg7 : getZ lo2 R2 2 1 = none := by
    unfold getZ
    rw [if_neg]
    rintro ⟨_, h1, _⟩
    rw [show (2 : Int).toNat = 2 from rfl, HL2.out.1] at h1
    omega
  rw [hg7] at HG7
  have H7 := Lib.hid (And.intro h7 (And.intro hb7 hx7))
  clear h7 hn7 hk7 hb7 hx7 hg7
  go_wp2_with fail
  refine HG7.out.mono ?_
  rintro e w8 ⟨rfl, hb8⟩
  have hbA8 := ba hb8 (.cells (msgA zeroM) 37)
  have hx8 := (hbA8.block _ (Array.getElem?_eq_some_iff.1 H7.out.2.2).1).trans H7.out.2.2
  have h8 := H7.out.1.below hbA8
  have hb8w := bt H7.out.2.1 hbA8
  have hmz : msgA zeroM = #[.int .i64 0, .int .u32 0, .int .u64 0, .int .i64 0, .slice none 0 0, .string ⟨#[]⟩] := rfl
  rw [hmz] at hbA8 hx8 h8 hb8w ⊢
  have c2 : (w8.alloc (.cells #[.int .i64 0, .int .u32 0, .int .u64 0, .int .i64 0, .slice none 0 0, .string ⟨#[]⟩] 37)).cell? ⟨w4.heap.size, 2, none⟩ = some (.int .u64 5) := cell_of_row _ _ 2 _ _ _ hx8
  obtain ⟨W8, hW8⟩ : ∃ W8, W8 = w8.alloc (.cells #[.int .i64 0, .int .u32 0, .int .u64 0, .int .i64 0, .slice none 0 0, .string ⟨#[]⟩] 37) := ⟨_, rfl⟩
  rw [← hW8] at c2 h8 hb8w
  have HLo := Lib.hid (show Calls Try.prog 26 #[.pointer (some ⟨D, 0, none⟩), .int .i64 2] W8 fun e w' => e = .returned (.int .u32 1) ∧ Below W8.heap.size W8 w' from by
    have := hLow_at D lo2 R2 V4 2 W8 h8
    rw [show procB 2 = true from rfl, if_pos rfl, show (2 : Int).toNat = 2 from rfl, HL2.out.1] at this
    exact this)
  have HCo := Lib.hid (fun (W : World) (hW : Below W8.heap.size W8 W) => show Calls Try.prog 18 #[.pointer (some ⟨D, 0, none⟩), .int .i64 2] W fun e w' => e = .returned (.int .u32 1) ∧ Below W.heap.size W w' from by
    have := hCount_at D lo2 R2 V4 2 W (h8.below hW) HL2.out.2.2.2.1
    rw [show cntZ lo2 R2 2 = 1 from by unfold cntZ; rw [show procB 2 = true from rfl, if_pos rfl, show (2 : Int).toNat = 2 from rfl, HL2.out.1, HL2.out.2.1]] at this
    exact this)
  have HVe := Lib.hid (fun (W : World) (hW : Below W8.heap.size W8 W) => hVector_any D lo2 R2 V4 3 3 W (h8.below hW) HL2.out.2.2.2.1 rfl)
  have HW8 := Lib.hid (And.intro hb8w hW8)
  clear hbA8 hx8 h8 hb8w hmz hb8
  go_upto_region 10 with (fail)
  rw [← hW8]
  clear hW8
  go_wp2_with fail
  refine HLo.out.mono ?_
  rintro e w9 ⟨rfl, hb9⟩
  have HB9 := Lib.hid hb9
  clear hb9
  go_wp2_with fail
  refine (HCo.out _ HB9.out).mono ?_
  rintro e w10 ⟨rfl, hb10⟩
  have HB10 := Lib.hid (bt HB9.out hb10)
  clear hb10
  go_wp2_with fail
  refine (HVe.out _ HB10.out).mono ?_
  rintro e w11 ⟨⟨v11, rfl, ho11⟩, hb11⟩
  obtain ⟨a11, c11, rfl⟩ := ownForm ho11
  have HB11 := Lib.hid (bt HW8.out.1 (bt HB10.out hb11))
  clear ho11 hb11
  go_wp2
  go_ret
  exact ⟨rfl, HB11.out⟩
end Go.Proofs.Ytnjcebkdkklidaa
