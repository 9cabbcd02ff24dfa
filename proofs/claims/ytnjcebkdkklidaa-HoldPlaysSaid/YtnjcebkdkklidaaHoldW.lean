/-
  A hold beside the reference's, in memory: what each of a script's acts leaves.
  Conditions: none.
-/
import Derived.Test.YtnjcebkdkklidaaHoldU
import Derived.Test.YtnjcebkdkklidaaHoldV
namespace Go.Proofs.Ytnjcebkdkklidaa
set_option linter.unusedVariables false
set_option linter.unusedSimpArgs false
open Go.RowKit
theorem RowsIn.kept {w w' : World} {v : Value} {l : List Msg} {S : Nat → Prop} (h : RowsIn w v l) (hk : Kept S w w') (hS : ∀ p n c, v = .slice (some p) n c → 0 < l.length → ¬ S p.block) : RowsIn w' v l := by
  obtain ⟨ad, cap, rfl, hr⟩ := h
  refine ⟨ad, cap, rfl, hr.1, fun hn => ?_⟩
  obtain ⟨p, rfl, hb, hc⟩ := hr.2 hn
  refine ⟨p, rfl, Nat.lt_of_lt_of_le hb hk.size, fun j u hu => ?_⟩
  have hblk : (p.add j).block = p.block := by unfold Addr.add; split <;> rfl
  exact (hk.cell (by rw [hblk]; exact hb) (by rw [hblk]; exact hS p _ _ rfl hn)).trans (hc j u hu)
theorem RowsIn.lt {w : World} {v : Value} {l : List Msg} (h : RowsIn w v l) : ∀ p n c, v = .slice (some p) n c → 0 < l.length → p.block < w.heap.size := by
  rintro p n c rfl hl
  obtain ⟨ad, cap, e, hr⟩ := h
  injection e with e1 e2 e3
  obtain ⟨p', e', hb, _⟩ := hr.2 hl
  rw [← e1] at e'
  injection e' with e'
  rw [e']; exact hb
/-- a hold and the reference's variable beside it -/
structure PlayMid (B : Nat) (w0 w : World) (D M k : Nat) (lo : Nat → Nat) (R : Nat → List Msg) (V : Nat → Value) (A : List Msg) (vA : Value) (lr : Nat → Nat) : Prop where
  hold : HoldK B w0 w D k lo R V
  blk : w.heap[M]? = some (.cells (refX vA lr) 34 (0, 0))
  rows : RowsIn w vA A
  oks : ∀ m ∈ A, MsgOk w m ∧ ∀ ad, m.da = some ad → 0 < m.ds.length → ad.block < B
  len : A.length ≤ k
  far : ∀ p n c, vA = .slice (some p) n c → 0 < A.length → ¬ holdS D V p.block ∧ p.block ≠ M
  base : B ≤ M
theorem PlayMid.not_in {B : Nat} {w0 w : World} {D M k : Nat} {lo lr : Nat → Nat} {R : Nat → List Msg} {V : Nat → Value} {A : List Msg} {vA : Value} (h : PlayMid B w0 w D M k lo R V A vA lr) : ¬ holdS D V M := by
  rintro (rfl | ⟨p, hp, e⟩)
  · have h1 := h.hold.at_.blk
    rw [h.blk] at h1
    injection h1 with h1
    injection h1 with _ h1
    exact absurd h1 (by decide)
  · exact own_blk_ne (h.hold.at_.own p hp) h.blk (by decide) e
theorem PlayMid.dep_ne {B : Nat} {w0 w : World} {D M k : Nat} {lo lr : Nat → Nat} {R : Nat → List Msg} {V : Nat → Value} {A : List Msg} {vA : Value} (h : PlayMid B w0 w D M k lo R V A vA lr) {m : Msg} {B2 : Nat} (hm : FreshM B2 w m) : (Value.slice m.da m.ds.length m.dc).ownBlock ≠ some M :=
  own_blk_ne hm.2 h.blk (by decide)
theorem PlayMid.keptS {B : Nat} {w0 w w' : World} {D M k : Nat} {lo lr lr' : Nat → Nat} {R : Nat → List Msg} {V : Nat → Value} {A : List Msg} {vA : Value} {S : Nat → Prop} (h : PlayMid B w0 w D M k lo R V A vA lr) (hk : Kept S w w')
    (hS : ∀ b, S b → ¬ holdS D V b ∧ B ≤ b ∧ (∀ p n c, vA = .slice (some p) n c → 0 < A.length → p.block ≠ b) ∧ ∀ p, p < 64 → ∀ m ∈ R p, (Value.slice m.da m.ds.length m.dc).ownBlock ≠ some b)
    (hb : w'.heap[M]? = some (.cells (refX vA lr') 34 (0, 0))) : PlayMid B w0 w' D M k lo R V A vA lr' :=
  ⟨⟨h.hold.at_.kept hk (fun b hb hc => (hS b hc).1 hb) (fun p hp m hm b hb hc => (hS b hc).2.2.2 p hp m hm hb), h.hold.inv, h.hold.frm, hk.out h.hold.bel h.hold.sz (fun b hb hc => by have := (hS b hc).2.1; omega), Nat.le_trans h.hold.sz hk.size⟩,
   hb, h.rows.kept hk (fun p n c e hl hc => (hS _ hc).2.2.1 p n c e hl rfl), fun m hm => ⟨(h.oks m hm).1.kept hk (fun ad e hn hc => by have := (hS _ hc).2.1; have := (h.oks m hm).2 ad e hn; omega), (h.oks m hm).2⟩, h.len, h.far, h.base⟩
theorem PlayMid.below {B : Nat} {w0 w w' : World} {D M k : Nat} {lo lr : Nat → Nat} {R : Nat → List Msg} {V : Nat → Value} {A : List Msg} {vA : Value} (h : PlayMid B w0 w D M k lo R V A vA lr) (hb : Below w.heap.size w w') : PlayMid B w0 w' D M k lo R V A vA lr :=
  h.keptS (S := fun _ => False) (.of_below hb) (fun _ hc => hc.elim) ((hb.block _ (Array.getElem?_eq_some_iff.1 h.blk).1).trans h.blk)
/-- what lies from here on is written over -/
theorem PlayMid.keptFrom {B : Nat} {w0 w w' : World} {D M k : Nat} {lo lr : Nat → Nat} {R : Nat → List Msg} {V : Nat → Value} {A : List Msg} {vA : Value} {N : Nat} (h : PlayMid B w0 w D M k lo R V A vA lr) (hb : Below w.heap.size w w') : PlayMid B w0 w' D M k lo R V A vA lr := h.below hb
/-- behind an act of the hold -/
theorem PlayMid.acted {B : Nat} {w0 w w' : World} {D M k k' : Nat} {lo lo' lr : Nat → Nat} {R R' : Nat → List Msg} {V V' : Nat → Value} {A : List Msg} {vA : Value} (h : PlayMid B w0 w D M k lo R V A vA lr) (hk : Kept (holdS D V) w w') (hK : HoldK B w0 w' D k' lo' R' V') (hkk : k ≤ k') (hn : newV w V V') : PlayMid B w0 w' D M k' lo' R' V' A vA lr := by
  refine ⟨hK, hk.keep h.blk h.not_in, h.rows.kept hk (fun p n c e hl => (h.far p n c e hl).1), fun m hm => ⟨(h.oks m hm).1.kept hk (fun ad e hn hc => by have := h.hold.frm _ hc; have := (h.oks m hm).2 ad e hn; omega), (h.oks m hm).2⟩, Nat.le_trans h.len hkk, fun p n c e hl => ⟨?_, (h.far p n c e hl).2⟩, h.base⟩
  have hlt := h.rows.lt p n c e hl
  have hf := (h.far p n c e hl).1
  rintro (hd | ⟨q, hq, e2⟩)
  · exact hf (.inl hd)
  · rcases hn q hq _ e2 with e3 | e3
    · exact hf (.inr ⟨q, hq, e3⟩)
    · omega
/-- behind an act of the reference -/
theorem PlayMid.setRef {B : Nat} {w0 w : World} {D M k : Nat} {lo lr lr' : Nat → Nat} {R : Nat → List Msg} {V : Nat → Value} {A A' : List Msg} {vA u : Value} (h : PlayMid B w0 w D M k lo R V A vA lr) (hu : RowsIn w u A')
    (hfar : ∀ p n c, u = .slice (some p) n c → 0 < A'.length → ¬ holdS D V p.block ∧ p.block ≠ M) (hoks : ∀ m ∈ A', MsgOk w m ∧ ∀ ad, m.da = some ad → 0 < m.ds.length → ad.block < B) (hlen : A'.length ≤ k) :
    PlayMid B w0 (w.setRow M (refX u lr')) D M k lo R V A' u lr' := by
  have hk : Kept (fun b => b = M) w (w.setRow M (refX u lr')) := ⟨rfl, rfl, rfl, by rw [size_setRow]; exact Nat.le_refl _, fun i _ hs => setRow_other _ _ _ _ hs⟩
  have h0 : PlayMid B w0 w D M k lo R V A' u lr → PlayMid B w0 (w.setRow M (refX u lr')) D M k lo R V A' u lr' := fun h' =>
    h'.keptS hk (fun b e => by subst e; exact ⟨h.not_in, h.base, fun p n c e hl => (hfar p n c e hl).2, fun p hp m hm => h.dep_ne (h.hold.at_.ok p hp m hm)⟩) (setRow_heap _ _ _ _ _ _ h.blk)
  refine ⟨⟨?_, h.hold.inv, h.hold.frm, ?_, ?_⟩, setRow_heap _ _ _ _ _ _ h.blk, ?_, ?_, hlen, hfar, h.base⟩
  · exact h.hold.at_.kept hk (fun b hb e => by subst e; exact h.not_in hb) (fun p hp m hm b hb e => by subst e; exact h.dep_ne (h.hold.at_.ok p hp m hm) hb)
  · exact hk.out h.hold.bel h.hold.sz (fun b hb e => by have := h.base; omega)
  · rw [size_setRow]; exact h.hold.sz
  · exact hu.kept hk (fun p n c e hl => (hfar p n c e hl).2)
  · exact fun m hm => ⟨(hoks m hm).1.kept hk (fun ad e hn hc => by have := (hoks m hm).2 ad e hn; have := h.base; omega), (hoks m hm).2⟩
def PutEnd3 (w : World) (D : Nat) (lo : Nat → Nat) (R : Nat → List Msg) (V : Nat → Value) (m : Msg) (e : Ending) (w' : World) : Prop :=
  e = .returned (.int .i64 (putK lo R m)) ∧ Kept (holdS D V) w w' ∧ ∃ V', newV w V V' ∧ ((putK lo R m ≠ 0 ∧ HoldAt w' D lo R V') ∨ (putK lo R m = 0 ∧ m.frm.toNat < 64 ∧ m.frm = (m.frm.toNat : Int) ∧ ∃ m', core m' = core m ∧ newD w.heap.size m' ∧ HoldAt w' D lo (upd R m.frm.toNat (R m.frm.toNat ++ [m'])) V'))
theorem hPut_three (D : Nat) (lo : Nat → Nat) (R : Nat → List Msg) (V : Nat → Value) (m : Msg) (w : World) (h : HoldAt w D lo R V) (hb : HoldBd lo R) (hok : MsgOk w m) (hds : m.ds.length ≤ 1000000) :
    Calls Try.prog 12 #[.pointer (some ⟨D, 0, none⟩), .agg (msgA m)] w fun e w' => PutEnd3 w D lo R V m e w' := by
  unfold PutEnd3
  by_cases hp : procB m.frm = false
  · have hk : putK lo R m = 1 := by unfold putK; rw [if_pos hp]
    rw [hk]
    exact (hPut_range D m w hp).mono fun e w' ⟨he, hb'⟩ => ⟨he, .of_below hb', V, fun q _ b hb => .inl hb, .inl ⟨by decide, h.below hb'⟩⟩
  · have hpp : 0 ≤ m.frm ∧ m.frm < 64 := by simpa [procB] using hp
    obtain ⟨p, hpe⟩ : ∃ p : Nat, m.frm = (p : Int) := ⟨m.frm.toNat, by omega⟩
    have hpt : m.frm.toNat = p := by omega
    rw [hpt]
    by_cases hs : m.seq = lo p + (R p).length + 1
    · have hk : putK lo R m = 0 := by unfold putK; rw [if_neg hp, hpt, if_pos hs]
      rw [hk]
      exact (hPut_in3 D lo R V p m w h hb (by omega) hpe hok hds hs).mono fun e w' ⟨he, ⟨m', v', h1, h1b, h2, h6⟩, h4⟩ => ⟨he, h4, _, newV_upd fun b hb => by
        rcases h6 with e | ⟨b', e, hle⟩
        · rw [e] at hb; exact .inl hb
        · rw [e] at hb; injection hb with hb; exact .inr (hb ▸ hle), .inr ⟨rfl, by omega, hpe, m', h1, h1b, h2⟩⟩
    · have hk : putK lo R m = 13 := by unfold putK; rw [if_neg hp, hpt, if_neg hs]
      rw [hk]
      exact (hPut_order D lo R V p m w h hb (by omega) hpe hok.2.2.1 hs).mono fun e w' ⟨he, hb'⟩ => ⟨he, .of_below hb', V, fun q _ b hb => .inl hb, .inl ⟨by decide, h.below hb'⟩⟩
/-- behind a Put of the hold -/
def PlayPut (B : Nat) (w0 w : World) (D M k : Nat) (lo : Nat → Nat) (R : Nat → List Msg) (V : Nat → Value) (A : List Msg) (vA : Value) (lr : Nat → Nat) (m : Msg) (w' : World) : Prop :=
  Kept (holdS D V) w w' ∧ ∃ R' V', PlayMid B w0 w' D M (k + 1) lo R' V' A vA lr ∧ ((putK lo R m ≠ 0 ∧ R' = R) ∨ (putK lo R m = 0 ∧ ∃ m', core m' = core m ∧ newD w.heap.size m' ∧ R' = upd R m.frm.toNat (R m.frm.toNat ++ [m'])))
theorem playPut_any {B : Nat} {w0 w : World} {D M k : Nat} {lo lr : Nat → Nat} {R : Nat → List Msg} {V : Nat → Value} {A : List Msg} {vA : Value} (h : PlayMid B w0 w D M k lo R V A vA lr) (hk : k ≤ 400) (m : Msg) (hok : MsgOk w m) (hd : m.ds.length ≤ 20000) :
    Calls Try.prog 12 #[.pointer (some ⟨D, 0, none⟩), .agg (msgA m)] w fun e w' => e = .returned (.int .i64 (putK lo R m)) ∧ PlayPut B w0 w D M k lo R V A vA lr m w' := by
  refine (hPut_three D lo R V m w h.hold.at_ (h.hold.inv.bd (by omega)) hok (by omega)).mono ?_
  rintro e w' ⟨he, h3, V', h2, hor⟩
  refine ⟨he, h3, ?_⟩
  rcases hor with ⟨hne, h1⟩ | ⟨hz, h64, hfr, m', hc, hnd, h1⟩
  · exact ⟨R, V', h.acted h3 ⟨h1, h.hold.inv.more, h.hold.frm.new h2 h.hold.sz, h.hold.frm.below h.hold.bel h.hold.sz h3, Nat.le_trans h.hold.sz h3.size⟩ (by omega) h2, .inl ⟨hne, rfl⟩⟩
  · refine ⟨_, V', h.acted h3 ⟨h1, h.hold.inv.put h64 hfr ?_ hd hc, h.hold.frm.new h2 h.hold.sz, h.hold.frm.below h.hold.bel h.hold.sz h3, Nat.le_trans h.hold.sz h3.size⟩ (by omega) h2, .inr ⟨hz, m', hc, hnd, rfl⟩⟩
    unfold putK at hz
    split at hz
    · cases hz
    · split at hz
      · rename_i hs; exact hs
      · cases hz
theorem playDrop_any {B : Nat} {w0 w : World} {D M k : Nat} {lo lr : Nat → Nat} {R : Nat → List Msg} {V : Nat → Value} {A : List Msg} {vA : Value} (h : PlayMid B w0 w D M k lo R V A vA lr) (hk : k ≤ 400) (p : Int) (u : Nat) (hu : u < 4294967296) :
    Calls Try.prog 10 #[.pointer (some ⟨D, 0, none⟩), .int .i64 p, .int .u32 (u : Int)] w fun e w' => e = .returned (.tuple #[]) ∧ Kept (holdS D V) w w' ∧ ∃ V', PlayMid B w0 w' D M (k + 1) (dropLo lo R p u) (dropR lo R p u) V' A vA lr := by
  refine (hDrop_any D lo R V p u w h.hold.at_ (h.hold.inv.bd (by omega)) hu).mono ?_
  rintro e w' ⟨he, ⟨V', h1, h2⟩, h3⟩
  exact ⟨he, h3, V', h.acted h3 ⟨h1, h.hold.inv.drop p u, h.hold.frm.new h2 h.hold.sz, h.hold.frm.below h.hold.bel h.hold.sz h3, Nat.le_trans h.hold.sz h3.size⟩ (by omega) h2⟩
/-- both hold the same -/
structure PlayAt (B : Nat) (w0 w : World) (D M k : Nat) (lo : Nat → Nat) (R : Nat → List Msg) (V : Nat → Value) (A : List Msg) (vA : Value) : Prop where
  mid : PlayMid B w0 w D M k lo R V A vA lo
  ref : RefH A lo R
theorem PlayAt.below {B : Nat} {w0 w w' : World} {D M k : Nat} {lo : Nat → Nat} {R : Nat → List Msg} {V : Nat → Value} {A : List Msg} {vA : Value} (h : PlayAt B w0 w D M k lo R V A vA) (hb : Below w.heap.size w w') : PlayAt B w0 w' D M k lo R V A vA := ⟨h.mid.below hb, h.ref⟩
def SomePlay (B : Nat) (w0 w : World) (D M k : Nat) : Prop := ∃ lo R V A vA, PlayAt B w0 w D M k lo R V A vA
theorem HoldAt.typ_not {w : World} {D : Nat} {lo : Nat → Nat} {R : Nat → List Msg} {V : Nat → Value} (h : HoldAt w D lo R V) {N : Nat} {cs : Array Value} {t : TypeId} (hb : w.heap[N]? = some (.cells cs t (0, 0))) (h1 : t ≠ 69) (h2 : t ≠ 37) : ¬ holdS D V N := by
  rintro (rfl | ⟨p, hp, e⟩)
  · have h3 := h.blk
    rw [hb] at h3
    injection h3 with h3
    injection h3 with _ h3
    exact h1 h3
  · exact own_blk_ne (h.own p hp) hb (Ne.symm h2) e
theorem setRow_kept (w : World) (M : Nat) (cs : Array Value) : Kept (fun b => b = M) w (w.setRow M cs) := ⟨rfl, rfl, rfl, by rw [size_setRow]; exact Nat.le_refl _, fun i _ hs => setRow_other _ _ _ _ hs⟩
theorem blk_ne {w : World} {a b : Nat} {cs ds : Array Value} {s t : TypeId} (ha : w.heap[a]? = some (.cells cs s (0, 0))) (hb : w.heap[b]? = some (.cells ds t (0, 0))) (h : s ≠ t) : a ≠ b := by
  rintro rfl
  rw [ha] at hb
  injection hb with hb
  injection hb with _ hb
  exact h hb
/-- the act's end where it drops -/
theorem playDrop_end {B : Nat} {w0 w w5 w6 : World} {D M k N : Nat} {lo : Nat → Nat} {R : Nat → List Msg} {V V' : Nat → Value} {A : List Msg} {vA : Value} {p : Int} {u : Nat} {cs : Array Value} (h : PlayAt B w0 w D M k lo R V A vA) (hN : w.heap[N]? = some (.cells cs 39 (0, 0)))
    (h5 : PlayMid B w0 w5 D M (k + 1) (dropLo lo R p u) (dropR lo R p u) V' A vA lo) (hk : Kept (holdS D V) w w5) (hb6 : Below w5.heap.size w5 w6) :
    w6.heap[M]? = some (.cells (refX vA lo) 34 (0, 0)) ∧ PlayAt B w0 (w6.setRow M (refX vA (dropLo lo R p u))) D M (k + 1) (dropLo lo R p u) (dropR lo R p u) V' A vA ∧ (w6.setRow M (refX vA (dropLo lo R p u))).heap[N]? = some (.cells cs 39 (0, 0)) := by
  have h6 := h5.below hb6
  have e5 := hk.keep hN (h.mid.hold.at_.typ_not hN (by decide) (by decide))
  have e6 := (hb6.block _ (Array.getElem?_eq_some_iff.1 e5).1).trans e5
  exact ⟨h6.blk, ⟨h6.setRef h6.rows h6.far h6.oks h6.len, h.ref.drop p u⟩, (setRow_kept w6 M _).keep e6 (blk_ne e6 h6.blk (by decide))⟩
/-- behind both Puts -/
theorem playPut_mid {B : Nat} {w0 w4 w7 w8 w9 w10 : World} {D M k N : Nat} {lo : Nat → Nat} {R : Nat → List Msg} {V : Nat → Value} {A : List Msg} {vA u : Value} {m x : Msg} {cs : Array Value} (h : PlayAt B w0 w4 D M k lo R V A vA) (hN : w4.heap[N]? = some (.cells cs 39 (0, 0)))
    (hb7 : Below w4.heap.size w4 w7) (hfr : FreshM w4.heap.size w7 m) (hc : core m = core x) (hx : MsgOk w4 x) (hxb : ∀ ad, x.da = some ad → 0 < x.ds.length → ad.block < B) (h8 : PlayPut B w0 w7 D M k lo R V A vA lo m w8) (hb9 : Below w8.heap.size w8 w9)
    (hu : RowsIn w9 u (if putA A x = 0 then A ++ [x] else A)) (hor : (putA A x ≠ 0 ∧ u = vA) ∨ ∀ p n c, u = .slice (some p) n c → w8.heap.size ≤ p.block) (hb10 : Below w9.heap.size w9 w10) :
    w10.heap[M]? = some (.cells (refX vA lo) 34 (0, 0)) ∧ (∃ R' V' A', PlayAt B w0 (w10.setRow M (refX u lo)) D M (k + 1) lo R' V' A' u ∧ FreshM w4.heap.size (w10.setRow M (refX u lo)) m ∧ (w10.setRow M (refX u lo)).heap[N]? = some (.cells cs 39 (0, 0)) ∧
      (∀ b, (Value.slice m.da m.ds.length m.dc).ownBlock = some b → ¬ holdS D V' b ∧ B ≤ b ∧ (∀ p n c, u = .slice (some p) n c → 0 < A'.length → p.block ≠ b) ∧ (∀ p, p < 64 → ∀ y ∈ R' p, (Value.slice y.da y.ds.length y.dc).ownBlock ≠ some b) ∧ b ≠ M ∧ b ≠ N)) ∧ putK lo R m = putA A x := by
  obtain ⟨hk8, R', V', m8, hR⟩ := h8
  have hpk : putK lo R m = putA A x := by
    rw [h.ref.putA]
    obtain ⟨c1, c2, _⟩ := core_iff.1 hc
    unfold putK
    rw [c1, c2]
  have h7 := h.mid.below hb7
  have hlt : w8.heap.size ≤ w10.heap.size := Nat.le_trans hb9.size hb10.size
  have hb810 := bt hb9 hb10
  have m10 := m8.below hb810
  have hf8 := hfr.kept hk8 (h7.hold.at_.deps_not hfr)
  have hf10 := hf8.below hb810
  have hf11 := hf10.kept (setRow_kept w10 M (refX u lo)) (fun b hb e => by subst e; exact m10.dep_ne hf10 hb)
  have hx7 := hx.below hb7
  have hx10 := (hx7.kept hk8 (fun ad e hn hc => by have := h.mid.hold.frm _ hc; have := hxb ad e hn; omega)).below hb810
  have e7 := (hb7.block _ (Array.getElem?_eq_some_iff.1 hN).1).trans hN
  have e8 := hk8.keep e7 (h7.hold.at_.typ_not e7 (by decide) (by decide))
  have e10 := (hb810.block _ (Array.getElem?_eq_some_iff.1 e8).1).trans e8
  have e11 := (setRow_kept w10 M (refX u lo)).keep e10 (blk_ne e10 m10.blk (by decide))
  obtain ⟨A', hA'⟩ : ∃ A', A' = if putA A x = 0 then A ++ [x] else A := ⟨_, rfl⟩
  rw [← hA'] at hu
  have hu10 := hu.below hb10
  have hfar : ∀ p n c, u = .slice (some p) n c → 0 < A'.length → ¬ holdS D V' p.block ∧ p.block ≠ M := by
    intro p n c e hl
    rcases hor with ⟨hne, rfl⟩ | hor
    · rw [if_neg hne] at hA'
      subst hA'
      exact m10.far p n c e hl
    · have h1 := hor p n c e
      exact ⟨fun hin => by have := m8.hold.at_.in_ hin; omega, fun e2 => by have := (Array.getElem?_eq_some_iff.1 m8.blk).1; omega⟩
  have hoks : ∀ y ∈ A', MsgOk w10 y ∧ ∀ ad, y.da = some ad → 0 < y.ds.length → ad.block < B := by
    intro y hy
    rw [hA'] at hy
    split at hy
    · rcases List.mem_append.1 hy with h1 | h1
      · exact m10.oks y h1
      · simp at h1; rw [h1]; exact ⟨hx10, hxb⟩
    · exact m10.oks y hy
  have hlen : A'.length ≤ k + 1 := by
    have := h.mid.len
    rw [hA']
    split
    · simp; omega
    · omega
  have hmid := m10.setRef (lr' := lo) hu10 hfar hoks hlen
  have href : RefH A' lo R' := by
    rw [hA']
    rcases hR with ⟨hne, rfl⟩ | ⟨hz, m', hc', _, rfl⟩
    · rw [if_neg (by rw [← hpk]; exact hne)]; exact h.ref
    · rw [if_pos (by rw [← hpk]; exact hz)]
      have h1 : putK lo R x = 0 := by rw [← h.ref.putA, ← hpk]; exact hz
      have h2 := h.ref.put h1 (hc'.trans hc)
      obtain ⟨c1, _⟩ := core_iff.1 hc
      rw [c1]
      exact h2
  refine ⟨m10.blk, ⟨R', V', A', ⟨hmid, href⟩, hf11, e11, fun b hb => ?_⟩, hpk⟩
  have hb0 := (hfr.2.lt b hb).1
  have hb1 := (hf8.2.lt b hb).2
  refine ⟨hmid.hold.at_.deps_not hf11 b hb, Nat.le_trans h.mid.hold.sz hb0, fun p n c e hl hbe => ?_, fun p hp y hy e => ?_, fun e => ?_, fun e => ?_⟩
  · rcases hor with ⟨hne, rfl⟩ | hor
    · rw [if_neg hne] at hA'
      subst hA'
      have := h.mid.rows.lt p n c e hl
      omega
    · have := hor p n c e
      omega
  · rcases hR with ⟨_, rfl⟩ | ⟨_, m', _, hnd, rfl⟩
    · have := ((h.mid.hold.at_.ok p hp y hy).2.lt b e).2
      omega
    · by_cases hpm : p = m.frm.toNat
      · subst hpm
        rw [upd_same] at hy
        rcases List.mem_append.1 hy with h1 | h1
        · have := ((h.mid.hold.at_.ok _ hp y h1).2.lt b e).2
          omega
        · simp at h1
          subst h1
          have h2 := hnd b e
          have h3 := (hfr.2.lt b hb).2
          omega
      · rw [upd_ne _ _ hpm] at hy
        have := ((h.mid.hold.at_.ok p hp y hy).2.lt b e).2
        omega
  · have := (Array.getElem?_eq_some_iff.1 h.mid.blk).1
    omega
  · have := (Array.getElem?_eq_some_iff.1 hN).1
    omega
/-- behind the spoil of the message that was put -/
theorem playSpoil_end {B : Nat} {w0 w11 w12 w13 : World} {D M k N : Nat} {lo : Nat → Nat} {R : Nat → List Msg} {V : Nat → Value} {A : List Msg} {vA : Value} {m : Msg} {cs : Array Value} (h : PlayAt B w0 w11 D M k lo R V A vA) (hN : w11.heap[N]? = some (.cells cs 39 (0, 0)))
    (hm : ∀ b, (Value.slice m.da m.ds.length m.dc).ownBlock = some b → ¬ holdS D V b ∧ B ≤ b ∧ (∀ p n c, vA = .slice (some p) n c → 0 < A.length → p.block ≠ b) ∧ (∀ p, p < 64 → ∀ y ∈ R p, (Value.slice y.da y.ds.length y.dc).ownBlock ≠ some b) ∧ b ≠ M ∧ b ≠ N)
    (hb : Below w11.heap.size w11 w12) (hk : Kept (SpS (some ⟨w11.heap.size, 0, none⟩) [m]) w12 w13) : PlayAt B w0 w13 D M k lo R V A vA ∧ w13.heap[N]? = some (.cells cs 39 (0, 0)) := by
  have hS : ∀ b, SpS (some ⟨w11.heap.size, 0, none⟩) [m] b → ¬ holdS D V b ∧ B ≤ b ∧ (∀ p n c, vA = .slice (some p) n c → 0 < A.length → p.block ≠ b) ∧ (∀ p, p < 64 → ∀ y ∈ R p, (Value.slice y.da y.ds.length y.dc).ownBlock ≠ some b) ∧ b ≠ M ∧ b ≠ N := by
    rintro b (⟨o, e⟩ | ⟨y, hy, hl, o, e⟩)
    · injection e with e
      injection e with e
      subst e
      refine ⟨fun hin => by have := h.mid.hold.at_.in_ hin; omega, h.mid.hold.sz, fun p n c e hl => ?_, fun p hp y hy e => ?_, ?_, ?_⟩
      · have := h.mid.rows.lt p n c e hl; omega
      · have := ((h.mid.hold.at_.ok p hp y hy).2.lt _ e).2; omega
      · have := (Array.getElem?_eq_some_iff.1 h.mid.blk).1; omega
      · have := (Array.getElem?_eq_some_iff.1 hN).1; omega
    · simp at hy
      subst hy
      exact hm b (by rw [e]; rfl)
  have h12 := h.below hb
  have e12 := (hb.block _ (Array.getElem?_eq_some_iff.1 hN).1).trans hN
  exact ⟨⟨h12.mid.keptS hk (fun b hb => ⟨(hS b hb).1, (hS b hb).2.1, (hS b hb).2.2.1, (hS b hb).2.2.2.1⟩) (hk.keep h12.mid.blk (fun hb => (hS _ hb).2.2.2.2.1 rfl)), h.ref⟩, hk.keep e12 (fun hb => (hS _ hb).2.2.2.2.2 rfl)⟩
end Go.Proofs.Ytnjcebkdkklidaa
