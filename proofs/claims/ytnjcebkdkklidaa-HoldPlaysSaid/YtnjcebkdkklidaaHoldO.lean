/-
  A script's effect on a hold, told in plain lists; two holds side by side.
  Conditions: none.
-/
import Derived.Test.YtnjcebkdkklidaaHoldK
import Derived.Test.YtnjcebkdkklidaaHoldN
namespace Go.Proofs.Ytnjcebkdkklidaa
set_option linter.unusedVariables false
set_option linter.unusedSimpArgs false
open Go.RowKit
/-- an act's effect -/
def stepS (s : (Nat → Nat) × (Nat → List Msg)) (a : ActH) : (Nat → Nat) × (Nat → List Msg) :=
  if a.drop = true then (dropLo s.1 s.2 a.p a.upto, dropR s.1 s.2 a.p a.upto)
  else if putK s.1 s.2 a.m = 0 then (s.1, upd s.2 a.m.frm.toNat (s.2 a.m.frm.toNat ++ [a.m])) else s
/-- the state behind the first acts -/
def stH (l : List ActH) (k : Nat) : (Nat → Nat) × (Nat → List Msg) := (l.take k).foldl stepS (lo0, R0)
theorem stH_succ (l : List ActH) (k : Nat) (h : k < l.length) : stH l (k + 1) = stepS (stH l k) l[k] := by
  unfold stH
  rw [List.take_succ_eq_append_getElem h, List.foldl_append]
  rfl
/-- rows that read alike -/
def Like (R S : Nat → List Msg) : Prop := ∀ p, (R p).map core = (S p).map core
theorem Like.len {R S : Nat → List Msg} (h : Like R S) (p : Nat) : (R p).length = (S p).length := by simpa using congrArg List.length (h p)
theorem Like.putK {R S : Nat → List Msg} (h : Like R S) (lo : Nat → Nat) (m : Msg) : putK lo R m = putK lo S m := by
  unfold Go.Proofs.Ytnjcebkdkklidaa.putK
  rw [h.len]
theorem Like.dropC {R S : Nat → List Msg} (h : Like R S) (lo : Nat → Nat) (p : Int) (u : Nat) : dropC lo R p u = dropC lo S p u := by
  unfold Go.Proofs.Ytnjcebkdkklidaa.dropC
  rw [h.len]
theorem Like.dropLo {R S : Nat → List Msg} (h : Like R S) (lo : Nat → Nat) (p : Int) (u : Nat) : dropLo lo R p u = dropLo lo S p u := by
  unfold Go.Proofs.Ytnjcebkdkklidaa.dropLo
  rw [h.dropC, h.len]
theorem Like.upd {R S : Nat → List Msg} (h : Like R S) (p : Nat) {L K : List Msg} (e : L.map core = K.map core) : Like (upd R p L) (upd S p K) := fun q => by
  by_cases eq : q = p
  · subst eq; rw [upd_same, upd_same]; exact e
  · rw [upd_ne _ _ eq, upd_ne _ _ eq]; exact h q
theorem Like.dropR {R S : Nat → List Msg} (h : Like R S) (lo : Nat → Nat) (p : Int) (u : Nat) : Like (dropR lo R p u) (dropR lo S p u) := by
  unfold Go.Proofs.Ytnjcebkdkklidaa.dropR
  rw [h.dropC, h.len]
  split
  · exact h.upd _ (by rw [List.map_drop, List.map_drop, h])
  · exact h
theorem Like.put {R S : Nat → List Msg} (h : Like R S) {m m' : Msg} (hc : core m' = core m) : Like (Go.Proofs.Ytnjcebkdkklidaa.upd R m.frm.toNat (R m.frm.toNat ++ [m'])) (Go.Proofs.Ytnjcebkdkklidaa.upd S m.frm.toNat (S m.frm.toNat ++ [m])) :=
  h.upd _ (by rw [List.map_append, List.map_append, h, List.map_singleton, List.map_singleton, hc])
theorem Like.trans {R S T : Nat → List Msg} (h : Like R S) (k : Like S T) : Like R T := fun p => (h p).trans (k p)
theorem Like.symm {R S : Nat → List Msg} (h : Like R S) : Like S R := fun p => (h p).symm
/-- the same order of what reads alike -/
def insC (x : Msg) : List Msg → List Msg → Prop := fun a b => (insM x a).map core = (insM x b).map core
theorem keyM_core {a b : Msg} (h : core a = core b) : keyM a = keyM b := by
  obtain ⟨p1, _, p3, _⟩ := core_iff.1 h
  unfold keyM; rw [p1, p3]
theorem ltM_core {a b c d : Msg} (h : core a = core b) (k : core c = core d) : ltM a c = ltM b d := by
  rw [Bool.eq_iff_iff, ltM_iff, ltM_iff, keyM_core h, keyM_core k]
theorem insM_core {x y : Msg} (h : core x = core y) : ∀ {a b : List Msg}, a.map core = b.map core → (insM x a).map core = (insM y b).map core
  | [], [], _ => by simp [insM, h]
  | u :: a, v :: b, e => by
    simp only [List.map_cons, List.cons.injEq] at e
    have ih := insM_core h e.2
    unfold insM
    rw [ltM_core h e.1]
    split <;> simp [h, e.1, e.2, ih]
  | [], v :: b, e => by simp at e
  | u :: a, [], e => by simp at e
theorem sortM_go_core : ∀ {a b : List Msg} {o p : List Msg}, a.map core = b.map core → o.map core = p.map core → (a.foldl (fun o x => insM x o) o).map core = (b.foldl (fun o x => insM x o) p).map core
  | [], [], _, _, _, e => e
  | u :: a, v :: b, o, p, h, e => by
    simp only [List.map_cons, List.cons.injEq] at h
    rw [List.foldl_cons, List.foldl_cons]
    exact sortM_go_core h.2 (insM_core h.1 e)
  | [], v :: b, _, _, h, _ => by simp at h
  | u :: a, [], _, _, h, _ => by simp at h
theorem sortM_core {a b : List Msg} (h : a.map core = b.map core) : (sortM a).map core = (sortM b).map core := sortM_go_core h rfl
theorem keyAh_core' {a b : Int} {x y : Msg} (h : core x = core y) : keyAh a b x = keyAh a b y := by
  obtain ⟨h1, _, h3, _⟩ := core_iff.1 h
  unfold keyAh
  rw [h1, h3]
theorem filter_core' {a b : Int} : ∀ {L K : List Msg}, L.map core = K.map core → (L.filter (keyAh a b)).map core = (K.filter (keyAh a b)).map core
  | [], [], _ => rfl
  | x :: L, y :: K, h => by
    simp only [List.map_cons, List.cons.injEq] at h
    have := filter_core' (a := a) (b := b) h.2
    rw [List.filter_cons, List.filter_cons, keyAh_core' h.1]
    split <;> simp [this, h.1]
  | [], y :: K, h => by simp at h
  | x :: L, [], h => by simp at h
theorem Like.above {R S : Nat → List Msg} (h : Like R S) (a b : Int) : ∀ t, (aboveN R a b t).map core = (aboveN S a b t).map core
  | 0 => rfl
  | t + 1 => by rw [aboveN_succ, aboveN_succ, List.map_append, List.map_append, h.above a b t, filter_core' (h t)]
theorem Like.sorted {R S : Nat → List Msg} (h : Like R S) (a b : Int) : (sortM (aboveN R a b 64)).map core = (sortM (aboveN S a b 64)).map core := sortM_core (h.above a b 64)
/-- a hold behind the first k acts of a script -/
def HoldS (B : Nat) (w0 w : World) (D : Nat) (l : List ActH) (k : Nat) (R : Nat → List Msg) (V : Nat → Value) : Prop := HoldK B w0 w D k (stH l k).1 R V ∧ Like R (stH l k).2
theorem HoldS.below {B : Nat} {w0 w w' : World} {D k : Nat} {l : List ActH} {R : Nat → List Msg} {V : Nat → Value} (h : HoldS B w0 w D l k R V) (hb : Below w.heap.size w w') : HoldS B w0 w' D l k R V := ⟨h.1.below hb, h.2⟩
/-- no block is of both holds -/
def Apart (D : Nat) (V : Nat → Value) (E : Nat) (U : Nat → Value) : Prop := ∀ b, holdS D V b → ¬ holdS E U b
theorem Apart.symm {D E : Nat} {V U : Nat → Value} (h : Apart D V E U) : Apart E U D V := fun b hb hc => h b hc hb
theorem HoldAt.in_ {w : World} {D : Nat} {lo : Nat → Nat} {R : Nat → List Msg} {V : Nat → Value} (h : HoldAt w D lo R V) {b : Nat} (hb : holdS D V b) : b < w.heap.size := by
  rcases hb with rfl | ⟨p, hp, e⟩
  · exact h.lt
  · exact ((h.own p hp).lt b e).2
theorem Apart.new {w : World} {D E : Nat} {V V' U : Nat → Value} {lo : Nat → Nat} {R : Nat → List Msg} (h : Apart D V E U) (hE : HoldAt w E lo R U) (hn : newV w V V') : Apart D V' E U := by
  rintro b (rfl | ⟨p, hp, e⟩) hc
  · exact h _ (.inl rfl) hc
  · rcases hn p hp b e with e | e
    · exact h b (.inr ⟨p, hp, e⟩) hc
    · have := hE.in_ hc; omega
theorem HoldAt.deps_not {w : World} {D : Nat} {lo : Nat → Nat} {R : Nat → List Msg} {V : Nat → Value} (h : HoldAt w D lo R V) {m : Msg} {B : Nat} (hm : FreshM B w m) : ∀ b, (Value.slice m.da m.ds.length m.dc).ownBlock = some b → ¬ holdS D V b := by
  rintro b hb (rfl | ⟨p, hp, e⟩)
  · exact own_blk_ne hm.2 h.blk (by decide) hb
  · exact own_ne hm.2 (h.own p hp) (by decide) b hb e
theorem HoldK.other {B : Nat} {w0 w w' : World} {D E k j : Nat} {lo lo2 : Nat → Nat} {R R2 : Nat → List Msg} {V U : Nat → Value} (hE : HoldK B w0 w E j lo2 R2 U) (hD : HoldK B w0 w D k lo R V) (hk : Kept (holdS D V) w w') (ha : Apart D V E U) : HoldK B w0 w' E j lo2 R2 U :=
  ⟨hE.at_.kept hk (fun b hb hc => ha b hc hb) (fun p hp m hm b hb => hD.at_.deps_not (hE.at_.ok p hp m hm) b hb), hE.inv, hE.frm, hD.frm.below hD.bel hD.sz hk, Nat.le_trans hE.sz hk.size⟩
/-- behind one more act of a script -/
def NextS (B : Nat) (w0 w : World) (D : Nat) (l : List ActH) (k : Nat) (V : Nat → Value) (w' : World) : Prop := ∃ R' V', HoldS B w0 w' D l (k + 1) R' V' ∧ newV w V V' ∧ Kept (holdS D V) w w'
theorem stepDrop_two {B : Nat} {w0 w : World} {D k : Nat} {l : List ActH} {R : Nat → List Msg} {V : Nat → Value} (h : HoldS B w0 w D l k R V) (hk : k ≤ 1000) (hl : k < l.length) {p : Int} {u : Nat} (e1 : l[k].drop = true) (e2 : l[k].p = p) (e3 : l[k].upto = u) (hu : u < 4294967296) :
    Calls Try.prog 10 #[.pointer (some ⟨D, 0, none⟩), .int .i64 p, .int .u32 (u : Int)] w fun e w' => e = .returned (.tuple #[]) ∧ NextS B w0 w D l k V w' := by
  obtain ⟨hK, hL⟩ := h
  refine (hDrop_any D _ R V p u w hK.at_ (hK.inv.bd hk) hu).mono ?_
  rintro e w' ⟨he, ⟨V', h1, h2⟩, h3⟩
  refine ⟨he, dropR (stH l k).1 R p u, V', ?_, h2, h3⟩
  have hs := stH_succ l k hl
  unfold stepS at hs
  rw [if_pos e1, e2, e3] at hs
  refine ⟨?_, ?_⟩
  · rw [hs]
    simp only
    rw [← hL.dropLo]
    exact ⟨h1, hK.inv.drop p u, hK.frm.new h2 hK.sz, hK.frm.below hK.bel hK.sz h3, Nat.le_trans hK.sz h3.size⟩
  · rw [hs]
    exact hL.dropR _ _ _
theorem stepPut_two {B : Nat} {w0 w : World} {D k : Nat} {l : List ActH} {R : Nat → List Msg} {V : Nat → Value} (h : HoldS B w0 w D l k R V) (hk : k ≤ 1000) (hl : k < l.length) {m : Msg} (e1 : l[k].drop = false) (e2 : l[k].m = m) (hok : MsgOk w m) (hd : m.ds.length ≤ 20000) :
    Calls Try.prog 12 #[.pointer (some ⟨D, 0, none⟩), .agg (msgA m)] w fun e w' => e = .returned (.int .i64 (putK (stH l k).1 (stH l k).2 m)) ∧ NextS B w0 w D l k V w' := by
  obtain ⟨hK, hL⟩ := h
  refine (hPut_two D _ R V m w hK.at_ (hK.inv.bd hk) hok (by omega)).mono ?_
  rintro e w' ⟨he, h3, V', h2, hor⟩
  have hs := stH_succ l k hl
  unfold stepS at hs
  rw [if_neg (by rw [e1]; decide), e2] at hs
  rw [hL.putK] at he hor
  refine ⟨he, ?_⟩
  rcases hor with ⟨hne, h1⟩ | ⟨hz, h64, hfr, m', hc, h1⟩
  · rw [if_neg hne] at hs
    refine ⟨R, V', ⟨?_, ?_⟩, h2, h3⟩
    · rw [hs]
      exact ⟨h1, hK.inv.more, hK.frm.new h2 hK.sz, hK.frm.below hK.bel hK.sz h3, Nat.le_trans hK.sz h3.size⟩
    · rw [hs]; exact hL
  · rw [if_pos hz] at hs
    refine ⟨upd R m.frm.toNat (R m.frm.toNat ++ [m']), V', ⟨?_, ?_⟩, h2, h3⟩
    · rw [hs]
      refine ⟨h1, hK.inv.put h64 hfr ?_ hd hc, hK.frm.new h2 hK.sz, hK.frm.below hK.bel hK.sz h3, Nat.le_trans hK.sz h3.size⟩
      unfold putK at hz
      split at hz
      · cases hz
      · split at hz
        · rename_i hs; rw [hL.len]; exact hs
        · cases hz
    · rw [hs]; exact hL.put hc
end Go.Proofs.Ytnjcebkdkklidaa
