/-
  The law OrderTrims.
  Conditions: the table of math/bits.
-/
import Derived.Test.YtgjlcjbmcnofiaaDoorOrdL
namespace Go.Proofs.YtgjlcjbmcnofiaaDoor
set_option linter.unusedVariables false
set_option linter.unusedSimpArgs false
open Go.RowKit
def nilS : Value := .slice none 0 0
/-- what lies apart from the orders within a round -/
def KF (YB AB LB : Nat) (v0 v1 : Value) (b : Nat) : Prop := b = YB ∨ b = AB ∨ b = LB ∨ v0.ownBlock = some b ∨ v1.ownBlock = some b
/-- within a round: behind the act upon k of both orders -/
structure KSt (w : World) (B1 D1 Z1 B2 D2 Z2 YB AB LB : Nat) (O T : PO) (a : ActO) (k : Nat) (wr : World) : Prop where
  ex : ∃ O' T' v0 v1 L0 L1, Two w wr B1 D1 Z1 O' B2 D2 Z2 T' (KF YB AB LB v0 v1) ∧
    (k = 0 → O' = O ∧ v0 = nilS ∧ L0 = []) ∧ (1 ≤ k → ActTo a O O' L0) ∧ (k ≤ 1 → T' = T ∧ v1 = nilS ∧ L1 = []) ∧ (2 ≤ k → ActTo a T T' L1) ∧
    RowO w.heap.size wr v0 L0 ∧ RowO w.heap.size wr v1 L1 ∧
    wr.heap[YB]? = some (.cells #[.pointer (some ⟨B1, 0, none⟩), .pointer (some ⟨B2, 0, none⟩)] 49 (0, 0)) ∧
    wr.heap[AB]? = some (.cells (actL a).toArray 51 (0, 0)) ∧ wr.heap[LB]? = some (.cells #[v0, v1] 52 (0, 0)) ∧ w.heap.size ≤ LB
theorem calm_at {w : World} {b t : Nat} {cs : Array Value} {fr : Nat × Nat} (h : w.heap[b]? = some (.cells cs t fr)) (ht : t ≠ 33) : Calm w (fun k => k = b) := fun k hk cs' fr' hc => by
  subst hk
  rw [h] at hc
  injection hc with hc
  injection hc with _ hc _
  exact absurd hc ht
theorem kind_ne {w : World} {b c t u : Nat} {cs ds : Array Value} {fr fs : Nat × Nat} (h : w.heap[b]? = some (.cells cs t fr)) (k : w.heap[c]? = some (.cells ds u fs)) (ht : t ≠ u) : b ≠ c := fun e => by
  subst e
  rw [h] at k
  injection k with k
  injection k with _ k _
  exact ht k
/-- which order's turn it is, and what its act leaves -/
theorem KSt.role {w : World} {B1 D1 Z1 B2 D2 Z2 YB AB LB : Nat} {O T : PO} {a : ActO} {k : Nat} {wr : World} (h : KSt w B1 D1 Z1 B2 D2 Z2 YB AB LB O T a k wr) (hk : k < 2) :
    ∃ B D Z Oc B' D' Z' Oo F, wr.cell? ⟨YB, k, none⟩ = some (.pointer (some ⟨B, 0, none⟩)) ∧ Two w wr B D Z Oc B' D' Z' Oo F ∧ (Oc = O ∨ Oc = T) ∧ F YB ∧ F AB ∧ F LB ∧
      wr.heap[YB]? = some (.cells #[.pointer (some ⟨B1, 0, none⟩), .pointer (some ⟨B2, 0, none⟩)] 49 (0, 0)) ∧
      wr.heap[AB]? = some (.cells (actL a).toArray 51 (0, 0)) ∧ (∃ u0 u1, wr.heap[LB]? = some (.cells #[u0, u1] 52 (0, 0))) ∧
      (∀ w' Oc', ActTo a Oc Oc' [] → Two w w' B D Z Oc' B' D' Z' Oo F → Keep F wr w' → KSt w B1 D1 Z1 B2 D2 Z2 YB AB LB O T a (k + 1) w') ∧
      (∀ w' Oc' L v, ActTo a Oc Oc' L → Two w w' B D Z Oc' B' D' Z' Oo (fun b => F b ∨ v.ownBlock = some b) → Keep F wr w' → RowO w.heap.size w' v L → KSt w B1 D1 Z1 B2 D2 Z2 YB AB LB O T a (k + 1) (w'.setCell ⟨LB, k, none⟩ v)) := by
  obtain ⟨O', T', v0, v1, L0, L1, h1, h2, h3, h4, h5, h6, h7, h8, h9, h10, h11⟩ := h
  rcases (by omega : k = 0 ∨ k = 1) with rfl | rfl
  · obtain ⟨rfl, rfl, rfl⟩ := h2 rfl
    obtain ⟨rfl, rfl, rfl⟩ := h4 (by decide)
    refine ⟨B1, D1, Z1, O', B2, D2, Z2, T', KF YB AB LB nilS nilS, cell_of_row _ _ 0 _ _ _ h8, h1, .inl rfl, .inl rfl, .inr (.inl rfl), .inr (.inr (.inl rfl)), h8, h9, ⟨_, _, h10⟩, fun w' Oc' ha ht hk => ?_, fun w' Oc' L v ha ht hk hr => ?_⟩
    · exact ⟨Oc', T', nilS, nilS, [], [], ht, fun e => (by cases e), fun _ => ha, fun _ => ⟨rfl, rfl, rfl⟩, fun e => absurd e (by decide), RowO.nil _ _, RowO.nil _ _, hk.keep (.inl rfl) h8, hk.keep (.inr (.inl rfl)) h9, hk.keep (.inr (.inr (.inl rfl))) h10, h11⟩
    · have a10 := hk.keep (.inr (.inr (.inl rfl))) h10
      have hs := kept_set w' LB 0 v
      have hkp : Keep (fun b => b ≠ LB) w' (w'.setCell ⟨LB, 0, none⟩ v) := ⟨_, hs, calm_at a10 (by decide), fun b hb e => hb e⟩
      refine ⟨Oc', T', v, nilS, L, [], (ht.aside hs (calm_at a10 (by decide)) (fun b e => by subst e; exact ⟨.inl (.inr (.inr (.inl rfl))), h11⟩)).mono (fun b hb => ?_), fun e => (by cases e), fun _ => ha, fun _ => ⟨rfl, rfl, rfl⟩, fun e => absurd e (by decide), hr.keep hkp (fun b hb => ?_), RowO.nil _ _, ?_, ?_, ?_, h11⟩
      · rcases hb with e | e | e | e | e
        · exact .inl (.inl e)
        · exact .inl (.inr (.inl e))
        · exact .inl (.inr (.inr (.inl e)))
        · exact .inr e
        · cases e
      · obtain ⟨c, fz, hc⟩ := hr.kind b hb
        exact kind_ne hc a10 (by decide)
      · exact hkp.keep (kind_ne (hk.keep (.inl rfl) h8) a10 (by decide)) (hk.keep (.inl rfl) h8)
      · exact hkp.keep (kind_ne (hk.keep (.inr (.inl rfl)) h9) a10 (by decide)) (hk.keep (.inr (.inl rfl)) h9)
      · exact setCell_block a10 0 v
  · obtain ⟨rfl, rfl, rfl⟩ := h4 (by decide)
    refine ⟨B2, D2, Z2, T', B1, D1, Z1, O', KF YB AB LB v0 nilS, cell_of_row _ _ 1 _ _ _ h8, h1.symm, .inr rfl, .inl rfl, .inr (.inl rfl), .inr (.inr (.inl rfl)), h8, h9, ⟨_, _, h10⟩, fun w' Oc' ha ht hk => ?_, fun w' Oc' L v ha ht hk hr => ?_⟩
    · exact ⟨O', Oc', v0, nilS, L0, [], ht.symm, fun e => (by cases e), fun _ => h3 (by decide), fun e => absurd e (by decide), fun _ => ha, h6.keep hk (fun b hb => .inr (.inr (.inr (.inl hb)))), RowO.nil _ _, hk.keep (.inl rfl) h8, hk.keep (.inr (.inl rfl)) h9, hk.keep (.inr (.inr (.inl rfl))) h10, h11⟩
    · have a10 := hk.keep (.inr (.inr (.inl rfl))) h10
      have hs := kept_set w' LB 1 v
      have hkp : Keep (fun b => b ≠ LB) w' (w'.setCell ⟨LB, 1, none⟩ v) := ⟨_, hs, calm_at a10 (by decide), fun b hb e => hb e⟩
      have a6 := h6.keep hk (fun b hb => .inr (.inr (.inr (.inl hb))))
      refine ⟨O', Oc', v0, v, L0, L, ((ht.aside hs (calm_at a10 (by decide)) (fun b e => by subst e; exact ⟨.inl (.inr (.inr (.inl rfl))), h11⟩)).mono (fun b hb => ?_)).symm, fun e => (by cases e), fun _ => h3 (by decide), fun e => absurd e (by decide), fun _ => ha, a6.keep hkp (fun b hb => ?_), hr.keep hkp (fun b hb => ?_), ?_, ?_, ?_, h11⟩
      · rcases hb with e | e | e | e | e
        · exact .inl (.inl e)
        · exact .inl (.inr (.inl e))
        · exact .inl (.inr (.inr (.inl e)))
        · exact .inl (.inr (.inr (.inr (.inl e))))
        · exact .inr e
      · obtain ⟨c, fz, hc⟩ := a6.kind b hb
        exact kind_ne hc a10 (by decide)
      · obtain ⟨c, fz, hc⟩ := hr.kind b hb
        exact kind_ne hc a10 (by decide)
      · exact hkp.keep (kind_ne (hk.keep (.inl rfl) h8) a10 (by decide)) (hk.keep (.inl rfl) h8)
      · exact hkp.keep (kind_ne (hk.keep (.inr (.inl rfl)) h9) a10 (by decide)) (hk.keep (.inr (.inl rfl)) h9)
      · exact setCell_block a10 1 v
theorem Keep.trans {F : Nat → Prop} {w1 w2 w3 : World} (h : Keep F w1 w2) (k : Keep F w2 w3) : Keep F w1 w3 := by
  obtain ⟨S, h1, h2, h3⟩ := h
  obtain ⟨S', k1, k2, k3⟩ := k
  refine ⟨fun b => S b ∨ S' b, (h1.more fun _ _ e => .inl e).trans (k1.more fun _ _ e => .inr e), fun b hb cs fr hc => ?_, fun b hb e => e.elim (h3 b hb) (k3 b hb)⟩
  by_cases e : S b
  · exact h2 b e cs fr hc
  · exact k2 b (hb.resolve_left e) cs fr (h1.keep hc e)
/-- what the acts' calls leave, whichever order's turn it is -/
def Acts4 (w : World) (a : ActO) (B Z LB j : Nat) (wr : World) (P : World → Prop) : Prop := ∀ w3, Below wr.heap.size wr w3 →
  (a.kind = 0 → Calls Tryd.prog 17 #[.pointer (some ⟨B, 0, none⟩), .agg (msgA a.m)] w3 fun e w' => (∃ z, e = .returned z) ∧ P w') ∧
  (a.kind = 1 → Calls Tryd.prog 18 #[.pointer (some ⟨Z, 0, none⟩), .int .i64 a.p, .int .u64 (a.stamp : Int), .int .u32 (a.seq : Int)] w3 fun e w' => e = .returned (.tuple #[]) ∧ P w') ∧
  (a.kind = 2 → Calls Tryd.prog 19 #[.pointer (some ⟨Z, 0, none⟩), .int .i64 a.p, .int .u64 (a.stamp : Int)] w3 fun e w' => e = .returned (.tuple #[]) ∧ P w') ∧
  (a.kind ≠ 0 → a.kind ≠ 1 → a.kind ≠ 2 → Calls Tryd.prog 20 #[.pointer (some ⟨B, 0, none⟩)] w3 fun e w' => ∃ ad n c, e = .returned (.slice ad n c) ∧ (∃ u, w'.cell? ⟨LB, j, none⟩ = some u) ∧ w'.frozen? ⟨LB, j, none⟩ = false ∧ P (w'.setCell ⟨LB, j, none⟩ (.slice ad n c)))
theorem acts4_of {w : World} {a : ActO} {B D Z B' D' Z' LB j k : Nat} {Oc Oo : PO} {F : Nat → Prop} {wr : World} {P : World → Prop} (hT : Tab w) (h : Two w wr B D Z Oc B' D' Z' Oo F) (hi : InvO k Oc) (hk : k ≤ 60)
    (hm : ∀ W, Below w.heap.size w W → MsgOk W a.m) (hd : a.m.ds.length ≤ 20000) (hL : F LB) (hj : j < 2) (hl : ∃ u0 u1, wr.heap[LB]? = some (.cells #[u0, u1] 52 (0, 0)))
    (h1 : ∀ w' Oc', ActTo a Oc Oc' [] → Two w w' B D Z Oc' B' D' Z' Oo F → Keep F wr w' → P w')
    (h2 : ∀ w' Oc' L v, ActTo a Oc Oc' L → Two w w' B D Z Oc' B' D' Z' Oo (fun b => F b ∨ v.ownBlock = some b) → Keep F wr w' → RowO w.heap.size w' v L → P (w'.setCell ⟨LB, j, none⟩ v)) : Acts4 w a B Z LB j wr P := by
  intro w3 hb3
  have ht := h.below hb3
  have hkp : Keep F wr w3 := Keep.of_below hb3
  have hok := hi.ok (by omega)
  refine ⟨fun hk0 => ?_, fun hk1 => ?_, fun hk2 => ?_, fun k0 k1 k2 => ?_⟩
  · refine (ht.call1 (Q := fun e O' => (∃ z, e = .returned z) ∧ ActTo a Oc O' []) fun V U hh => (orhTake hh hok a.m (hm _ hh.bel) (by omega)).mono ?_).mono ?_
    · rintro e w' ⟨rfl, ⟨hz, hg⟩ | ⟨hz, m', hc, hg⟩⟩
      · exact ⟨Oc, ⟨⟨_, rfl⟩, by unfold ActTo; rw [if_pos hk0]; exact ⟨rfl, .inl ⟨hz, rfl⟩⟩⟩, hg⟩
      · exact ⟨_, ⟨⟨_, rfl⟩, by unfold ActTo; rw [if_pos hk0]; exact ⟨rfl, .inr ⟨hz, m', hc, rfl⟩⟩⟩, hg⟩
    · rintro e w' ⟨O', ⟨hz, hact⟩, ht', hk'⟩
      exact ⟨hz, h1 w' O' hact ht' (hkp.trans hk')⟩
  · refine (ht.call1 (Q := fun e O' => e = .returned (.tuple #[]) ∧ ActTo a Oc O' []) fun V U hh => ?_).mono ?_
    · have hz : Calls Tryd.prog 18 #[.pointer (some ⟨Z, 0, none⟩), .int .i64 a.p, .int .u64 (a.stamp : Int), .int .u32 (a.seq : Int)] w3 _ := orhPromise hh hok a.p a.stamp a.seq
      refine hz.mono ?_
      rintro e w' ⟨rfl, hg⟩
      exact ⟨_, ⟨rfl, by unfold ActTo; rw [if_neg (by omega), if_pos hk1]; exact ⟨rfl, rfl⟩⟩, hg⟩
    · rintro e w' ⟨O', ⟨hz, hact⟩, ht', hk'⟩
      exact ⟨hz, h1 w' O' hact ht' (hkp.trans hk')⟩
  · refine (ht.call1 (Q := fun e O' => e = .returned (.tuple #[]) ∧ ActTo a Oc O' []) fun V U hh => ?_).mono ?_
    · refine (orhReached hh hok a.p a.stamp).mono ?_
      rintro e w' ⟨rfl, hg⟩
      exact ⟨_, ⟨rfl, by unfold ActTo; rw [if_neg (by omega), if_neg (by omega), if_pos hk2]; exact ⟨rfl, rfl⟩⟩, hg⟩
    · rintro e w' ⟨O', ⟨hz, hact⟩, ht', hk'⟩
      exact ⟨hz, h1 w' O' hact ht' (hkp.trans hk')⟩
  · refine (ht.drain1 hok hT).mono ?_
    rintro e w' ⟨L, O', v, d1, d2, rfl, hr, ht', hk'⟩
    obtain ⟨u0, u1, hl⟩ := hl
    have hl' := (hkp.trans hk').keep hL hl
    have hP := h2 w' O' L v (by unfold ActTo; rw [if_neg k0, if_neg k1, if_neg k2]; exact ⟨d1, d2⟩) ht' (hkp.trans hk') hr
    obtain ⟨L', hro, _⟩ := hr
    obtain ⟨ad, c, rfl⟩ := ownForm hro
    refine ⟨ad, _, c, rfl, ?_, frozen_of_row _ _ _ _ _ hl', hP⟩
    rcases (by omega : j = 0 ∨ j = 1) with rfl | rfl
    · exact ⟨u0, cell_of_row _ _ 0 _ _ _ hl'⟩
    · exact ⟨u1, cell_of_row _ _ 1 _ _ _ hl'⟩
/-- at the head of the acts' loop -/
structure OutSt (w : World) (B1 D1 Z1 B2 D2 Z2 YB k : Nat) (wr : World) : Prop where
  ex : ∃ O T, Two w wr B1 D1 Z1 O B2 D2 Z2 T (fun b => b = YB) ∧ InvO k O ∧ InvO k T ∧ PRel O T ∧ wr.heap[YB]? = some (.cells #[.pointer (some ⟨B1, 0, none⟩), .pointer (some ⟨B2, 0, none⟩)] 49 (0, 0))
/-- while T is trimmed -/
structure PSt (w : World) (B1 D1 Z1 B2 D2 Z2 YB AB LB : Nat) (O : PO) (v0 v1 : Value) (L0 L1 : List Msg) (k : Nat) (wr : World) : Prop where
  ex : ∃ T, Two w wr B1 D1 Z1 O B2 D2 Z2 T (KF YB AB LB v0 v1) ∧ InvO k T ∧ PRel O T ∧ RowO w.heap.size wr v0 L0 ∧ RowO w.heap.size wr v1 L1 ∧
    wr.heap[YB]? = some (.cells #[.pointer (some ⟨B1, 0, none⟩), .pointer (some ⟨B2, 0, none⟩)] 49 (0, 0)) ∧ wr.heap[LB]? = some (.cells #[v0, v1] 52 (0, 0))
theorem PSt.trim {w : World} {B1 D1 Z1 B2 D2 Z2 YB AB LB : Nat} {O : PO} {v0 v1 : Value} {L0 L1 : List Msg} {k : Nat} {wr : World} (h : PSt w B1 D1 Z1 B2 D2 Z2 YB AB LB O v0 v1 L0 L1 k wr) (hk : k ≤ 1000) (q : Nat) :
    Calls Tryd.prog 21 #[.pointer (some ⟨B2, 0, none⟩), .int .i64 (q : Int), .int .u32 4294967295] wr fun e w' => e = .returned (.tuple #[]) ∧ PSt w B1 D1 Z1 B2 D2 Z2 YB AB LB O v0 v1 L0 L1 k w' := by
  obtain ⟨T, t1, t2, t3, t4, t5, t6, t7⟩ := h
  refine (t1.symm.call1 (Q := fun e T' => e = .returned (.tuple #[]) ∧ T' = T.trim q 4294967295) fun V U hh => (orhTrim hh (t2.ok hk) q 4294967295 (by decide)).mono ?_).mono ?_
  · rintro e w' ⟨rfl, hg⟩
    exact ⟨_, ⟨rfl, rfl⟩, hg⟩
  · rintro e w' ⟨T', ⟨rfl, rfl⟩, ht, hkp⟩
    exact ⟨rfl, T.trim q 4294967295, ht.symm, t2.trim0 _ _, t3.trimT _ _, t4.keep hkp (fun b hb => .inr (.inr (.inr (.inl hb)))), t5.keep hkp (fun b hb => .inr (.inr (.inr (.inr hb)))), hkp.keep (.inl rfl) t6, hkp.keep (.inr (.inr (.inl rfl))) t7⟩
theorem own_len {w : World} {b : Nat} {e : TypeId} {size n : Nat} {v : Value} {xs : List Value} (h : w.ownsRow b e size v n xs) : n ≤ 9223372036854775807 := by
  rcases h.2 with ⟨_, rfl⟩ | ⟨g, cap, cur, _, _, _, h1, h2, _⟩
  · omega
  · unfold maxLen at h2
    omega
/-- the calls at a round's end -/
theorem PSt.final {w : World} {B1 D1 Z1 B2 D2 Z2 YB AB LB : Nat} {O : PO} {v0 v1 : Value} {L0 L1 : List Msg} {k : Nat} {wr : World} (h : PSt w B1 D1 Z1 B2 D2 Z2 YB AB LB O v0 v1 L0 L1 k wr) (hi : InvO k O) (hc : L1.map core = L0.map core) (hk : k ≤ 1000) :
    ∃ n0 a0 c0 n1 a1 c1, v0 = .slice a0 n0 c0 ∧ v1 = .slice a1 n1 c1 ∧ wr.cell? ⟨LB, 0, none⟩ = some v0 ∧ wr.cell? ⟨LB, 1, none⟩ = some v1 ∧
      Calls Tryd.prog 11 #[v0, v1] wr (fun e w' => e = .returned (.bool true) ∧ Below wr.heap.size wr w') ∧
      (∃ ls : Nat, ∃ lf : Int, ∀ W, Below wr.heap.size wr W → Calls Tryd.prog 22 #[.pointer (some ⟨B1, 0, none⟩)] W (fun e w' => e = .returned (.agg #[.int .u64 (ls : Int), .int .i64 lf]) ∧ Below W.heap.size W w') ∧
        Calls Tryd.prog 22 #[.pointer (some ⟨B2, 0, none⟩)] W (fun e w' => e = .returned (.agg #[.int .u64 (ls : Int), .int .i64 lf]) ∧ Below W.heap.size W w')) ∧
      (∀ W, Below wr.heap.size wr W → Calls Tryd.prog 23 #[.pointer (some ⟨B1, 0, none⟩)] W (fun e w' => ∃ u, e = .returned u ∧ RowO W.heap.size w' u O.rest ∧ Below W.heap.size W w') ∧
        Calls Tryd.prog 23 #[.pointer (some ⟨B2, 0, none⟩)] W (fun e w' => ∃ u, e = .returned u ∧ RowO W.heap.size w' u O.rest ∧ Below W.heap.size W w')) ∧
      (∀ W, Below wr.heap.size wr W → OutSt w B1 D1 Z1 B2 D2 Z2 YB k W) := by
  obtain ⟨T, t1, t2, t3, t4, t5, t6, t7⟩ := h
  obtain ⟨M0, m1, m2, m3⟩ := id t4
  obtain ⟨M1, q1, q2, q3⟩ := id t5
  obtain ⟨a0, c0, rfl⟩ := ownForm m1
  obtain ⟨a1, c1, rfl⟩ := ownForm q1
  have hm0 : MsgsAt wr (.slice a0 M0.length c0) M0 := (RowsAt.of_own m1).rowsIn.msgsAt (own_len m1) (fun m hm => (m3 m hm).1)
  have hm1 : MsgsAt wr (.slice a1 M1.length c1) M1 := (RowsAt.of_own q1).rowsIn.msgsAt (own_len q1) (fun m hm => (q3 m hm).1)
  refine ⟨_, a0, c0, _, a1, c1, rfl, rfl, cell_of_row _ _ 0 _ _ _ t7, cell_of_row _ _ 1 _ _ _ t7, ?_, ⟨O.ls, O.lf, fun W hW => ⟨(t1.below hW).last1, ?_⟩⟩, fun W hW => ⟨(t1.below hW).rest1 (hi.ok hk), ?_⟩, fun W hW => ⟨O, T, (t1.below hW).mono (fun b e => .inl e), hi, t2, t3, (hW.block _ (Array.getElem?_eq_some_iff.1 t6).1).trans t6⟩⟩
  · have := All_any _ _ M0 M1 wr hm0 hm1
    rw [allM_core (by rw [m2, q2, hc])] at this
    exact this
  · have := (t1.below hW).symm.last1
    rw [t3.ls, t3.lf] at this
    exact this
  · refine ((t1.below hW).symm.rest1 (t2.ok hk)).mono ?_
    rintro e w' ⟨u, rfl, ⟨X, x1, x2, x3⟩, hb⟩
    exact ⟨u, rfl, ⟨X, x1, by rw [x2, t3.rest hi], x3⟩, hb⟩
set_option maxRecDepth 100000 in
set_option maxHeartbeats 16000000 in
theorem law_orderTrims (ms : Nat) (v : Value) (l : List ActO) (w : World) (hm : ms < 18446744073709551616) (hT : Tab w) (h : ActsO w v l) :
    Calls Tryd.prog 5 #[.int .u64 (ms : Int), v] w fun e w' => e = .returned (.bool true) ∧ Below w.heap.size w w' := by
  have HT := Lib.hid hT
  have HL := Lib.hid h
  have HAW := Lib.hid (awake14_any w hT)
  have HFE := Lib.hid (fun (W : World) (hb : Below w.heap.size w W) => FewO_any v l W (h.below hb))
  have HM := Lib.hid hm
  obtain ⟨ad, cap, rfl, hl9, _⟩ := h
  clear hT hm
  go_enter Tryd.func5, Tryd.ntmps5
  go_wp2_with fail
  refine HAW.out.mono ?_
  rintro e w1 ⟨rfl, hb1⟩
  have HB1 := Lib.hid hb1
  clear hb1 HAW
  go_wp2_with fail
  refine (HFE.out _ HB1.out).mono ?_
  rintro e w2 ⟨⟨b, rfl, hfew⟩, hb2⟩
  have HB2 := Lib.hid (bt HB1.out hb2)
  clear hb2 HFE HB1
  cases b
  · clear hfew
    go_wp2_with fail
    go_ret
    exact ⟨rfl, HB2.out⟩
  have HF := Lib.hid (hfew rfl)
  clear hfew
  go_wp2_with fail
  refine (orNew_any 0 ms w2 HM.out).mono ?_
  rintro e w3 hn
  obtain ⟨B1, D1, Z1, rfl, h3, hf3, hb3⟩ := orh_new HB2.out hn
  have H3 := Lib.hid (And.intro h3 (And.intro hf3 hb3))
  clear hn h3 hf3 hb3
  go_wp2_with fail
  refine (orNew_any 0 ms w3 HM.out).mono ?_
  rintro e w4 hn
  obtain ⟨B2, D2, Z2, rfl, h4, hf4, hb4⟩ := orh_new H3.out.1.bel hn
  obtain ⟨h3, hf3, hb3⟩ := H3.out
  have ht4 : Two w w4 B1 D1 Z1 (po0 0 ms) B2 D2 Z2 (po0 0 ms) (fun _ => False) := ⟨nilV, nilV, nilV, nilV, h3.below hb4, h4, fun b hb e => by
    have := h3.at_.sz hb
    have := hf4 b e
    omega, fun b hb => hb.elim⟩
  obtain ⟨w5, hw5⟩ : ∃ w5, w5 = w4.alloc (.cells #[.pointer (some ⟨B1, 0, none⟩), .pointer (some ⟨B2, 0, none⟩)] 49) := ⟨_, rfl⟩
  obtain ⟨YB, hYB⟩ : ∃ x, x = w4.heap.size := ⟨_, rfl⟩
  have hy5 : w5.heap[YB]? = some (.cells #[.pointer (some ⟨B1, 0, none⟩), .pointer (some ⟨B2, 0, none⟩)] 49 (0, 0)) := by rw [hw5, hYB]; exact heap_alloc_new w4 _
  have hb5 : Below w4.heap.size w4 w5 := by rw [hw5]; exact ba (br w4) _
  have HO := Lib.hid (show OutSt w B1 D1 Z1 B2 D2 Z2 YB 0 w5 from ⟨po0 0 ms, po0 0 ms, ht4.add hb5 (fun b e => .inr (by subst e; exact ⟨by omega, (Array.getElem?_eq_some_iff.1 hy5).1⟩)), InvO.new 0 ms HM.out, InvO.new 0 ms HM.out, PRel.new 0 ms, hy5⟩)
  have HW5 := Lib.hid (And.intro hw5 hYB)
  clear hn h4 hf4 hb4 h3 hf3 hb3 ht4 hw5 hYB hy5 hb5 H3 HB2
  go_upto_region 7 with (fail)
  rw [← HW5.out.2, ← HW5.out.1]
  clear HW5
  go_wp2_with fail
  go_loopw [8] (fun i wr => ∃ k : Nat, k ≤ l.length ∧ i = .int .i64 (k : Int) ∧ Hid (OutSt w B1 D1 Z1 B2 D2 Z2 YB k wr)) (fun i _ => l.length - (intOf i).toNat)
  case atStart => exact ⟨0, by omega, rfl, HO⟩
  case round =>
    obtain ⟨k, hk, rfl, HS⟩ := hrel
    by_cases hlt : k < l.length
    · have hbool : decide ((k : Int) < (l.length : Int)) = true := by simpa using hlt
      have hi0 : (k : Int) < (l.length : Int) := by omega
      obtain ⟨O, T, h1, h2, h3, h4, h5⟩ := HS.out.ex
      obtain ⟨ad', cap', e0, _, hm⟩ := HL.out.below h1.bel
      injection e0 with e0 e1 e2
      subst e0
      subst e2
      clear e1
      obtain ⟨g, o, rfl, hg, hrow, hok, hup⟩ := hm k hlt
      have hds : (l[k]).m.ds.length ≤ 20000 := (HF.out.2 l[k] (List.getElem_mem hlt)).2
      have hk60 : k ≤ 60 := by have := HF.out.1; omega
      obtain ⟨a, ha⟩ : ∃ a, a = l[k] := ⟨_, rfl⟩
      rw [← ha] at hrow hok hup hds
      have y0 : wr.cell? ⟨g, o + k * 10, none⟩ = some (.int .i64 a.kind) := hrow 0 _ rfl
      have y1 : wr.cell? ⟨g, o + k * 10 + 1, none⟩ = some (.int .i64 a.p) := hrow 1 _ rfl
      have y2 : wr.cell? ⟨g, o + k * 10 + 2, none⟩ = some (.int .i64 a.m.frm) := hrow 2 _ rfl
      have y3 : wr.cell? ⟨g, o + k * 10 + 3, none⟩ = some (.int .u32 (a.m.seq : Int)) := hrow 3 _ rfl
      have y4 : wr.cell? ⟨g, o + k * 10 + 4, none⟩ = some (.int .u64 (a.m.stamp : Int)) := hrow 4 _ rfl
      have y5 : wr.cell? ⟨g, o + k * 10 + 5, none⟩ = some (.int .i64 a.m.service) := hrow 5 _ rfl
      have y6 : wr.cell? ⟨g, o + k * 10 + 6, none⟩ = some (.slice a.m.da a.m.ds.length a.m.dc) := hrow 6 _ rfl
      have y7 : wr.cell? ⟨g, o + k * 10 + 7, none⟩ = some (.string a.m.pay) := hrow 7 _ rfl
      have y8 : wr.cell? ⟨g, o + k * 10 + 8, none⟩ = some (.int .u32 (a.seq : Int)) := hrow 8 _ rfl
      have y9 : wr.cell? ⟨g, o + k * 10 + 9, none⟩ = some (.int .u64 (a.stamp : Int)) := hrow 9 _ rfl
      obtain ⟨AB, hAB⟩ : ∃ x, x = wr.heap.size := ⟨_, rfl⟩
      obtain ⟨w7, hw7⟩ : ∃ w7, w7 = wr.alloc (.cells (actL a).toArray 51) := ⟨_, rfl⟩
      obtain ⟨LB, hLB⟩ : ∃ x, x = w7.heap.size := ⟨_, rfl⟩
      obtain ⟨w8, hw8⟩ : ∃ w8, w8 = w7.alloc (.cells #[nilS, nilS] 52) := ⟨_, rfl⟩
      have ha7 : w7.heap[AB]? = some (.cells (actL a).toArray 51 (0, 0)) := by rw [hw7, hAB]; exact heap_alloc_new wr _
      have hb7 : Below wr.heap.size wr w7 := by rw [hw7]; exact ba (br wr) _
      have hl8 : w8.heap[LB]? = some (.cells #[nilS, nilS] 52 (0, 0)) := by rw [hw8, hLB]; exact heap_alloc_new w7 _
      have hb8 : Below w7.heap.size w7 w8 := by rw [hw8]; exact ba (br w7) _
      have ha8 := (hb8.block _ (Array.getElem?_eq_some_iff.1 ha7).1).trans ha7
      have hb78 := bt hb7 hb8
      have hy8 := (hb78.block _ (Array.getElem?_eq_some_iff.1 h5).1).trans h5
      have hLw : w.heap.size ≤ LB := by
        have := h1.bel.size
        have := hb7.size
        omega
      have HK := Lib.hid (show KSt w B1 D1 Z1 B2 D2 Z2 YB AB LB O T a 0 w8 from by
        refine ⟨O, T, nilS, nilS, [], [], h1.add hb78 (fun b hb => ?_), fun _ => ⟨rfl, rfl, rfl⟩, fun e => absurd e (by decide), fun _ => ⟨rfl, rfl, rfl⟩, fun e => absurd e (by decide), RowO.nil _ _, RowO.nil _ _, hy8, ha8, hl8, hLw⟩
        rcases hb with e | e | e | e | e
        · exact .inl e
        · exact .inr ⟨by omega, by rw [e]; exact (Array.getElem?_eq_some_iff.1 ha8).1⟩
        · exact .inr ⟨by have := hb7.size; omega, by rw [e]; exact (Array.getElem?_eq_some_iff.1 hl8).1⟩
        · cases e
        · cases e)
      have HI := Lib.hid (And.intro h2 (And.intro h3 h4))
      have HA := Lib.hid (show (∀ W, Below w.heap.size w W → MsgOk W a.m) ∧ a.m.ds.length ≤ 20000 from ⟨fun W hW => by
        obtain ⟨_, _, _, _, q⟩ := HL.out.below hW
        obtain ⟨_, _, _, _, _, q2, _⟩ := q k hlt
        rw [ha]
        exact q2, hds⟩)
      have HW := Lib.hid (And.intro hAB (And.intro hw7 (And.intro hLB hw8)))
      have HLT := Lib.hid (And.intro hlt hk60)
      have hw7' : wr.alloc (.cells #[.int .i64 a.kind, .int .i64 a.p, .int .i64 a.m.frm, .int .u32 (a.m.seq : Int), .int .u64 (a.m.stamp : Int), .int .i64 a.m.service, .slice a.m.da a.m.ds.length a.m.dc, .string a.m.pay, .int .u32 (a.seq : Int), .int .u64 (a.stamp : Int)] 51) = w7 := hw7.symm
      have HW7 := Lib.hid hw7'
      clear hm hup hg hrow hok ha hds hk60 h1 h2 h3 h4 h5 hAB hw7 hLB hw8 ha7 hb7 hl8 hb8 ha8 hb78 hy8 hLw hw7' hk hlt HS HO
      go_upto_region 11 with (fail)
      rw [HW7.out, ← HW.out.1]
      clear HW7 y0 y1 y2 y3 y4 y5 y6 y7 y8 y9
      have HW8 := Lib.hid (show w7.alloc (.cells #[.slice none 0 0, .slice none 0 0] 52) = w8 from HW.out.2.2.2.symm)
      go_upto_region 12 with (fail)
      rw [HW8.out, ← HW.out.2.2.1]
      clear HW8 HW
      go_wp2_with fail
      go_loopw [11] (fun i wr' => ∃ j : Nat, j ≤ 2 ∧ i = .int .i64 (j : Int) ∧ Hid (KSt w B1 D1 Z1 B2 D2 Z2 YB AB LB O T a j wr')) (fun i _ => 2 - (intOf i).toNat)
      case atStart => exact ⟨0, by omega, rfl, HK⟩
      case round =>
        obtain ⟨j, hj, rfl, HKj⟩ := hrel
        by_cases hj2 : j < 2
        · have hbj : decide ((j : Int) < 2) = true := by simp; omega
          have hj3 : (j : Int) < 2 := by omega
          obtain ⟨B, D, Z, Oc, B', D', Z', Oo, F, hcB, htw, hor, hFY, hFA, hFL, hhY, hhA, hhL, hE1, hE2⟩ := HKj.out.role hj2
          have hiC : InvO k Oc := hor.elim (fun e => e ▸ HI.out.1) (fun e => e ▸ HI.out.2.1)
          have HC := Lib.hid (acts4_of HT.out htw hiC HLT.out.2 HA.out.1 HA.out.2 hFL hj2 hhL hE1 hE2)
          obtain ⟨kd, hkd⟩ : ∃ kd, kd = a.kind := ⟨_, rfl⟩
          have c0 : wr.cell? ⟨AB, 0, none⟩ = some (.int .i64 kd) := by rw [hkd]; exact cell_of_row _ _ 0 _ _ _ hhA
          have HKD := Lib.hid hkd
          have lA := (Array.getElem?_eq_some_iff.1 hhA).1
          have lY := (Array.getElem?_eq_some_iff.1 hhY).1
          have z1 : ∀ y : Bel wr, y.val.cell? ⟨AB, 1, none⟩ = some (.int .i64 a.p) := Bel.cell (cell_of_row _ _ 1 _ _ _ hhA) lA
          have z2 : ∀ y : Bel wr, y.val.cell? ⟨AB, 2, none⟩ = some (.int .i64 a.m.frm) := Bel.cell (cell_of_row _ _ 2 _ _ _ hhA) lA
          have z3 : ∀ y : Bel wr, y.val.cell? ⟨AB, 3, none⟩ = some (.int .u32 (a.m.seq : Int)) := Bel.cell (cell_of_row _ _ 3 _ _ _ hhA) lA
          have z4 : ∀ y : Bel wr, y.val.cell? ⟨AB, 4, none⟩ = some (.int .u64 (a.m.stamp : Int)) := Bel.cell (cell_of_row _ _ 4 _ _ _ hhA) lA
          have z5 : ∀ y : Bel wr, y.val.cell? ⟨AB, 5, none⟩ = some (.int .i64 a.m.service) := Bel.cell (cell_of_row _ _ 5 _ _ _ hhA) lA
          have z6 : ∀ y : Bel wr, y.val.cell? ⟨AB, 6, none⟩ = some (.slice a.m.da a.m.ds.length a.m.dc) := Bel.cell (cell_of_row _ _ 6 _ _ _ hhA) lA
          have z7 : ∀ y : Bel wr, y.val.cell? ⟨AB, 7, none⟩ = some (.string a.m.pay) := Bel.cell (cell_of_row _ _ 7 _ _ _ hhA) lA
          have z8 : ∀ y : Bel wr, y.val.cell? ⟨AB, 8, none⟩ = some (.int .u32 (a.seq : Int)) := Bel.cell (cell_of_row _ _ 8 _ _ _ hhA) lA
          have z9 : ∀ y : Bel wr, y.val.cell? ⟨AB, 9, none⟩ = some (.int .u64 (a.stamp : Int)) := Bel.cell (cell_of_row _ _ 9 _ _ _ hhA) lA
          have zB : ∀ y : Bel wr, y.val.cell? ⟨YB, j, none⟩ = some (.pointer (some ⟨B, 0, none⟩)) := Bel.cell hcB lY
          have zZ : ∀ y : Bel wr, y.val.cell? ⟨B, 1, none⟩ = some (.pointer (some ⟨Z, 0, none⟩)) := Bel.cell htw.cZ htw.lt
          clear hkd hor hFY hFA hFL hhY hhA hhL hE1 hE2 hiC lA lY htw HKj HK
          by_cases k0 : kd = 0
          · have d0 : (kd == 0) = true := by simpa using k0
            go_upto_region 18 with (fail)
            refine wp_region_bel_tail 5 (by kernel_rfl) (by kernel_rfl) ?_
            simp only [List.take_succ_cons, List.take_zero, List.drop_succ_cons, List.drop_zero]
            repeat (go_big_quiet_step ((fail)))
            refine wpQuiet_nil ?_
            intro w3 hw3
            have HC3 := Lib.hid ((HC.out w3 (bel_out hw3)).1 (by rw [← HKD.out]; exact k0))
            clear hw3 z1 z2 z3 z4 z5 z6 z7 z8 z9 zB zZ c0 HC
            go_wp2_with fail
            refine HC3.out.mono ?_
            rintro e w4 ⟨⟨z, rfl⟩, hP⟩
            have HE := Lib.hid hP
            clear hP HC3
            go_wp2_with fail
            exact ⟨⟨j + 1, by omega, by go_num, HE⟩, by simp [intOf]; omega⟩
          · have d0 : (kd == 0) = false := by simpa using k0
            by_cases k1 : kd = 1
            · have d1 : (kd == 1) = true := by simpa using k1
              go_upto_region 20 with (fail)
              refine wp_region_bel_tail 12 (by kernel_rfl) (by kernel_rfl) ?_
              simp only [List.take_succ_cons, List.take_zero, List.drop_succ_cons, List.drop_zero]
              repeat (go_big_quiet_step ((fail)))
              refine wpQuiet_nil ?_
              intro w3 hw3
              have HC3 := Lib.hid ((HC.out w3 (bel_out hw3)).2.1 (by rw [← HKD.out]; exact k1))
              clear hw3 z1 z2 z3 z4 z5 z6 z7 z8 z9 zB zZ c0 HC
              go_wp2_with fail
              refine HC3.out.mono ?_
              rintro e w4 ⟨rfl, hP⟩
              have HE := Lib.hid hP
              clear hP HC3
              go_wp2_with fail
              exact ⟨⟨j + 1, by omega, by go_num, HE⟩, by simp [intOf]; omega⟩
            · have d1 : (kd == 1) = false := by simpa using k1
              by_cases k2 : kd = 2
              · have d2 : (kd == 2) = true := by simpa using k2
                go_upto_region 22 with (fail)
                refine wp_region_bel_tail 10 (by kernel_rfl) (by kernel_rfl) ?_
                simp only [List.take_succ_cons, List.take_zero, List.drop_succ_cons, List.drop_zero]
                repeat (go_big_quiet_step ((fail)))
                refine wpQuiet_nil ?_
                intro w3 hw3
                have HC3 := Lib.hid ((HC.out w3 (bel_out hw3)).2.2.1 (by rw [← HKD.out]; exact k2))
                clear hw3 z1 z2 z3 z4 z5 z6 z7 z8 z9 zB zZ c0 HC
                go_wp2_with fail
                refine HC3.out.mono ?_
                rintro e w4 ⟨rfl, hP⟩
                have HE := Lib.hid hP
                clear hP HC3
                go_wp2_with fail
                exact ⟨⟨j + 1, by omega, by go_num, HE⟩, by simp [intOf]; omega⟩
              · have d2 : (kd == 2) = false := by simpa using k2
                have HC3 := Lib.hid ((HC.out wr (br _)).2.2.2 (by rw [← HKD.out]; exact k0) (by rw [← HKD.out]; exact k1) (by rw [← HKD.out]; exact k2))
                clear z1 z2 z3 z4 z5 z6 z7 z8 z9 zB zZ HC
                go_wp2_with fail
                refine HC3.out.mono ?_
                rintro e w4 ⟨ad4, n4, c4, rfl, ⟨u, cu⟩, fu, hP⟩
                have HE := Lib.hid hP
                clear hP HC3 c0 hcB
                go_wp2_with fail
                exact ⟨⟨j + 1, by omega, by go_num, HE⟩, by simp [intOf]; omega⟩
        · have hbj : decide ((j : Int) < 2) = false := by simp; omega
          obtain ⟨O', T', v0, v1, L0, L1, t1, _, t3, _, t5, t6, t7, t8, t9, t10, t11⟩ := HKj.out.ex
          obtain ⟨hrel2, hcor2⟩ := (t3 (by omega)).rel HI.out.2.2 (t5 (by omega))
          have hiO : InvO (k + 1) O' := (t3 (by omega)).inv HI.out.1 HA.out.2
          have hiT : InvO (k + 1) T' := (t5 (by omega)).inv HI.out.2.1 HA.out.2
          have HP := Lib.hid (show PSt w B1 D1 Z1 B2 D2 Z2 YB AB LB O' v0 v1 L0 L1 (k + 1) wr from ⟨T', t1, hiT, hrel2, t6, t7, t8, t10⟩)
          have HQ := Lib.hid (And.intro hiO hcor2)
          clear t1 t3 t5 t6 t7 t8 t9 t10 t11 hrel2 hcor2 hiO hiT HKj HK HI HA
          clear hj hj2
          go_wp2_with fail
          go_loopw [12] (fun i wr' => ∃ q : Nat, q ≤ 64 ∧ i = .int .i64 (q : Int) ∧ Hid (PSt w B1 D1 Z1 B2 D2 Z2 YB AB LB O' v0 v1 L0 L1 (k + 1) wr')) (fun i _ => 64 - (intOf i).toNat)
          case atStart => exact ⟨0, by omega, rfl, HP⟩
          case round =>
            obtain ⟨q, hq, rfl, HPq⟩ := hrel
            by_cases hq2 : q < 64
            · have hbq : decide ((q : Int) < 64) = true := by simp; omega
              have HC := Lib.hid (HPq.out.trim (by have := HLT.out.2; omega) q)
              clear HPq HP
              go_wp2_with fail
              refine HC.out.mono ?_
              rintro e w6 ⟨rfl, hp⟩
              have HE := Lib.hid hp
              clear hp HC
              go_wp2_with fail
              exact ⟨⟨q + 1, by omega, by go_num, HE⟩, by simp [intOf]; omega⟩
            · have hbq : decide ((q : Int) < 64) = false := by simp; omega
              have HFI := Lib.hid (HPq.out.final HQ.out.1 HQ.out.2 (by have := HLT.out.2; omega))
              clear HPq HP HQ
              obtain ⟨n0, a0, c0, n1, a1, c1, rfl, rfl, y0, y1, hall, ⟨ls, lf, hlast⟩, hrest, hout⟩ := HFI.out
              have HAll := Lib.hid hall
              have HLast := Lib.hid hlast
              have HRest := Lib.hid hrest
              have HOut := Lib.hid hout
              clear hall hlast hrest hout HFI
              go_wp2_with fail
              refine HAll.out.mono ?_
              rintro e w6 ⟨rfl, hb6⟩
              have HB6 := Lib.hid hb6
              clear hb6 HAll y0 y1
              go_wp2_with fail
              refine (HLast.out _ HB6.out).1.mono ?_
              rintro e w7 ⟨rfl, hb7⟩
              have HB7 := Lib.hid (bt HB6.out hb7)
              clear hb7 HB6
              go_wp2_with fail
              refine (HLast.out _ HB7.out).2.mono ?_
              rintro e w8 ⟨rfl, hb8⟩
              have HB8 := Lib.hid (bt HB7.out hb8)
              clear hb8 HB7 HLast
              go_wp2_with fail
              refine (HRest.out _ HB8.out).1.mono ?_
              rintro e w9 ⟨u9, rfl, hr9, hb9⟩
              obtain ⟨M9, m9, p9, o9⟩ := hr9
              obtain ⟨a9, c9, rfl⟩ := ownForm m9
              have HM9 := Lib.hid (And.intro (show MsgsAt w9 (.slice a9 M9.length c9) M9 from (RowsAt.of_own m9).rowsIn.msgsAt (own_len m9) (fun m hm => (o9 m hm).1)) p9)
              have HB9 := Lib.hid (bt HB8.out hb9)
              clear m9 p9 o9 hb9 HB8
              go_wp2_with fail
              refine (HRest.out _ HB9.out).2.mono ?_
              rintro e w10 ⟨u10, rfl, hr10, hb10⟩
              obtain ⟨M10, m10, p10, o10⟩ := hr10
              obtain ⟨a10, c10, rfl⟩ := ownForm m10
              have hall2 := All_any _ _ M9 M10 w10 (HM9.out.1.below hb10) ((RowsAt.of_own m10).rowsIn.msgsAt (own_len m10) (fun m hm => (o10 m hm).1))
              rw [allM_core (by rw [HM9.out.2, p10])] at hall2
              have HAll2 := Lib.hid hall2
              have HB10 := Lib.hid (bt HB9.out hb10)
              clear m10 p10 o10 hb10 HB9 hall2 HM9 HRest
              go_wp2_with fail
              refine HAll2.out.mono ?_
              rintro e w11 ⟨rfl, hb11⟩
              have HE := Lib.hid (HOut.out _ (bt HB10.out hb11))
              clear hb11 HB10 HAll2 HOut
              go_wp2_with fail
              exact ⟨⟨k + 1, by have := HLT.out.1; omega, by go_num, HE⟩, by have := HLT.out.1; simp [intOf]; omega⟩
    · have hbool : decide ((k : Int) < (l.length : Int)) = false := by simpa using hlt
      have hbel : Below w.heap.size w wr := by
        obtain ⟨O, T, h1, _⟩ := HS.out.ex
        exact h1.bel
      have HE := Lib.hid hbel
      clear hbel HS HO
      go_wp2_with fail
      go_ret
      exact ⟨rfl, HE.out⟩
end Go.Proofs.YtgjlcjbmcnofiaaDoor
