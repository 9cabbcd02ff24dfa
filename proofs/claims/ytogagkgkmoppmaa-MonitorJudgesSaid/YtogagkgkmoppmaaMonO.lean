/-
  A stay of an owned monitor changes; what is owed, in plain; reading the row of stays.
  Conditions: those that each theorem names.
-/
import Derived.Test.YtogagkgkmoppmaaMonLN
namespace Go.Proofs.Ytogagkgkmoppmaa
set_option linter.unusedVariables false
set_option linter.unusedSimpArgs false
open Go.RowKit GM
def MM.bz (M : MM) (z : Int) : MM := { M with c := { M.c with broken := z } }
def MM.setS (M : MM) (k : Nat) (x : SX) : MM := { M with stays := M.stays.set k x }
theorem bz_ok {M : MM} (h : MOk M) (z : Int) : MOk (M.bz z) := ⟨h.n, h.now⟩
theorem setS_ok {M : MM} (h : MOk M) (k : Nat) (x : SX) : MOk (M.setS k x) := ⟨by simp [MM.setS]; exact h.n, by simp [MM.setS]; exact fun a b hab => h.now (a, b) hab⟩
theorem proj_setS (M : MM) (k : Nat) (x : SX) : proj (M.setS k x) = { proj M with stays := (proj M).stays.set k (projS x) } := by simp [proj, MM.setS, List.map_set]
theorem perm_set (M : MM) (B k : Nat) (hk : k < M.stays.length) (x : SX) (hb : x.b = M.stays[k].b) (R : List Pc) :
    ∃ R', (parts B M ++ R).Perm (stP M.stays[k] ++ R') ∧ (stP x ++ R').Perm (parts B (M.setS k x) ++ R) := by
  have hm : (M.stays.set k x).map (fun x => x.b) = M.stays.map (fun x => x.b) := by
    rw [List.map_set, hb]
    apply List.ext_getElem
    · simp
    · intro i h1 h2
      rw [List.getElem_set]
      split
      · subst_vars; simp
      · rfl
  have hm2 : (M.stays.set k x).map (fun x => ptrV x.b) = M.stays.map (fun x => ptrV x.b) := by
    have h1 : ∀ l : List SX, l.map (fun x => ptrV x.b) = (l.map (fun x => x.b)).map ptrV := fun l => by simp
    rw [h1, h1, hm]
  have hnth : nthV (M.stays.set k x) = nthV M.stays := by
    funext j
    unfold nthV
    rw [hm]
  have hs : ∀ y : SX, M.stays.set k y = M.stays.take k ++ y :: M.stays.drop (k + 1) := fun y => by
    rw [List.set_eq_take_append_cons_drop, if_pos hk]
  have h0 : M.stays = M.stays.take k ++ M.stays[k] :: M.stays.drop (k + 1) := by
    have := hs M.stays[k]
    rwa [List.set_getElem_self] at this
  have key : ∀ y : SX, (monPc B M.c :: sendsPc M :: seenPc M :: memsPc M :: livePc M :: nowPc M :: rowP M :: ((M.stays.take k ++ y :: M.stays.drop (k + 1)).flatMap stP ++ M.sends.map fun p => rowPc p.2) ++ R).Perm
      (stP y ++ (monPc B M.c :: sendsPc M :: seenPc M :: memsPc M :: livePc M :: nowPc M :: rowP M :: (M.stays.take k).flatMap stP ++ ((M.stays.drop (k + 1)).flatMap stP ++ ((M.sends.map fun p => rowPc p.2) ++ R)))) := by
    intro y
    rw [List.flatMap_append, List.flatMap_cons]
    have e1 : (monPc B M.c :: sendsPc M :: seenPc M :: memsPc M :: livePc M :: nowPc M :: rowP M :: ((List.flatMap stP (List.take k M.stays) ++ (stP y ++ List.flatMap stP (List.drop (k + 1) M.stays))) ++ M.sends.map fun p => rowPc p.2) ++ R)
      = (monPc B M.c :: sendsPc M :: seenPc M :: memsPc M :: livePc M :: nowPc M :: rowP M :: List.flatMap stP (List.take k M.stays)) ++ (stP y ++ (List.flatMap stP (List.drop (k + 1) M.stays) ++ ((M.sends.map fun p => rowPc p.2) ++ R))) := by simp
    rw [e1]
    refine (List.perm_append_comm_assoc _ _ _).trans ?_
    exact List.Perm.refl _
  refine ⟨monPc B M.c :: sendsPc M :: seenPc M :: memsPc M :: livePc M :: nowPc M :: rowP M :: (M.stays.take k).flatMap stP ++ ((M.stays.drop (k + 1)).flatMap stP ++ ((M.sends.map fun p => rowPc p.2) ++ R)), ?_, ?_⟩
  rotate_left
  · have e2 : parts B (M.setS k x) ++ R = (monPc B M.c :: sendsPc M :: seenPc M :: memsPc M :: livePc M :: nowPc M :: rowP M :: ((M.stays.take k ++ x :: M.stays.drop (k + 1)).flatMap stP ++ M.sends.map fun p => rowPc p.2) ++ R) := by
      rw [← hs x]
      unfold parts MM.setS sendsPc seenPc memsPc livePc nowPc rowP
      simp only [hnth, hm2]
    rw [e2]
    exact (key x).symm
  · have e3 : parts B M ++ R = (monPc B M.c :: sendsPc M :: seenPc M :: memsPc M :: livePc M :: nowPc M :: rowP M :: ((M.stays.take k ++ M.stays[k] :: M.stays.drop (k + 1)).flatMap stP ++ M.sends.map fun p => rowPc p.2) ++ R) := by
      rw [← h0]
      rfl
    rw [e3]
    exact key M.stays[k]
theorem own_set {w w' : World} {B b0 k : Nat} {M : MM} {R : List Pc} (h : Own w b0 (parts B M ++ R)) (hb0 : b0 ≤ w.heap.size) (hk : k < M.stays.length) {x : SX} (hb : x.b = M.stays[k].b)
    (hK : Kept (Reach w (stP M.stays[k])) w w') (hL : Own w' 0 (stP x)) (hB : ∀ p ∈ stP x, ∀ b, p.blk = some b → Reach w (stP M.stays[k]) b) :
    Own w' b0 (parts B (M.setS k x) ++ R) ∧ Kept (fun k => b0 ≤ k) w w' := by
  obtain ⟨R', h1, h2⟩ := perm_set M B k hk x hb R
  have h' := h.perm h1
  exact ⟨(h'.step hb0 hK hL hB).perm h2, h'.left.low hb0 hK⟩
/-- a stay's own cells change, but for its maps and rows -/
theorem own_cell {w w' : World} {B b0 k : Nat} {M : MM} {R : List Pc} (h : Own w b0 (parts B M ++ R)) (hb0 : b0 ≤ w.heap.size) (hk : k < M.stays.length) {x : SX} (hb : x.b = M.stays[k].b)
    (hcb : x.s.cb = M.stays[k].s.cb) (hcnt : x.cnt = M.stays[k].cnt) (h0 : r0 x = r0 M.stays[k]) (h1 : r1 x = r1 M.stays[k])
    (hK : Kept (fun b => b = x.b) w w') (hS : StAt w' x.b x.s) (htr : ∀ b', x.s.tr = some b' → EvAt w' b' x.ev) :
    Own w' b0 (parts B (M.setS k x) ++ R) ∧ Kept (fun k => b0 ≤ k) w w' := by
  obtain ⟨R', h1', h2'⟩ := perm_set M B k hk x hb R
  have hk' : Kept (Reach w [stayPc M.stays[k].b M.stays[k].s M.stays[k].ev]) w w' := hK.more fun b _ e => .inl ⟨_, List.mem_singleton.2 rfl, by rw [e, hb]; rfl⟩
  have h' : Own w b0 ([stayPc M.stays[k].b M.stays[k].s M.stays[k].ev] ++ ([mapPc intV M.stays[k].s.cb (vals intV M.stays[k].cnt), rowPc (r0 M.stays[k]), rowPc (r1 M.stays[k])] ++ R')) := h.perm h1'
  have := h'.step hb0 hk' (L' := [stayPc x.b x.s x.ev]) ⟨fun p hp => by rw [List.mem_singleton.1 hp]; exact ⟨hS, htr⟩, fun _ _ _ _ => Nat.zero_le _, List.pairwise_singleton _ _⟩ (fun p hp b e => by rw [List.mem_singleton.1 hp] at e; exact .inl ⟨_, List.mem_singleton.2 rfl, by rw [← e]; exact congrArg some hb.symm⟩)
  refine ⟨Own.perm (l := [stayPc x.b x.s x.ev] ++ ([mapPc intV M.stays[k].s.cb (vals intV M.stays[k].cnt), rowPc (r0 M.stays[k]), rowPc (r1 M.stays[k])] ++ R')) this ?_, Own.low (L := [stayPc M.stays[k].b M.stays[k].s M.stays[k].ev]) h'.left hb0 hk'⟩
  rw [← hcb, ← hcnt, ← h0, ← h1]
  exact h2'
/-- what is owed, of the rule that is broken -/
def oweZ (p : Int) (all : List Msg) (mem : Nat) (l : List Msg) (z : Int) : Int := l.foldl (fun z x => if x.service = 2 ∧ hasB mem p = true then brk 6 z (!all.any (sameM x)) else z) z
theorem owesC_eq (s : ST) (mem : Nat) (l : List Msg) : ∀ c : MC, owesC s mem l c = { c with broken := oweZ s.proc (s.p0 ++ s.p1) mem l c.broken } := by
  induction l with
  | nil => intro c; rfl
  | cons x l ih =>
    intro c
    show owesC s mem l (owe s mem c x) = _
    rw [ih]
    unfold owe oweZ
    simp only [List.foldl_cons]
    split
    · rfl
    · rfl
theorem any_bare (x : Msg) (l : List Msg) : (l.map bare).any (sameM (bare x)) = l.any (sameM x) := by
  induction l with
  | nil => rfl
  | cons y l ih => rw [List.map_cons, List.any_cons, List.any_cons, ih, sameM_bare]
theorem oweZ_bare (p : Int) (all : List Msg) (mem : Nat) (l : List Msg) (z : Int) : oweZ p (all.map bare) mem (l.map bare) z = oweZ p all mem l z := by
  unfold oweZ
  rw [List.foldl_map]
  congr 1
  funext z x
  rw [any_bare]
  rfl
theorem sameL_bare : ∀ a b : List Msg, sameL (a.map bare) (b.map bare) = sameL a b
  | [], [] => rfl
  | [], _ :: _ => rfl
  | _ :: _, [] => rfl
  | x :: a, y :: b => by
    show (sameM (bare x) (bare y) && sameL (a.map bare) (b.map bare)) = (sameM x y && sameL a b)
    rw [sameL_bare a b, sameM_bare]
theorem owes_own (w : World) (B b0 : Nat) (M : MM) (R : List Pc) (h : Own w b0 (parts B M ++ R)) (hb0 : b0 ≤ w.heap.size) (x : SX) (hx : x ∈ M.stays) (hl0 : x.s.p0.length ≤ 10000) (hl1 : x.s.p1.length ≤ 10000)
    (o : Value) (ad : Option Addr) (cap : Nat) (l : List Msg) (hl : RowT w ad l) (mem : Nat) :
    Calls Try.prog 38 #[.pointer (some ⟨B, 0, none⟩), .pointer (some ⟨x.b, 0, none⟩), o, .slice ad l.length cap, .int .u64 (mem : Int)] w fun e w' =>
      e = .returned (.tuple #[]) ∧ Own w' b0 (parts B (M.bz (oweZ x.s.proc (x.s.p0 ++ x.s.p1) mem l M.c.broken)) ++ R) ∧ Kept (fun k => b0 ≤ k) w w' :=
  (owes_any w B x.b M.c x.s (own_mon h) (own_stay h hx) ((own_r0 h hx).row (Nat.le_trans hl0 (by decide))) ((own_r1 h hx).row (Nat.le_trans hl1 (by decide))) hl0 hl1 o ad cap l hl mem).mono fun e w' ⟨h1, h2, h3⟩ => by
    rw [owesC_eq] at h2
    exact ⟨h1, own_nums h hb0 h3 h2⟩
/-- a stay's pointer in the row -/
theorem own_ptr {w : World} {B b0 k : Nat} {M : MM} {R : List Pc} (h : Own w b0 (parts B M ++ R)) (hM : MOk M) (hk : k < M.stays.length) :
    ∃ g, M.c.sa = some ⟨g, 0, none⟩ ∧ g < w.heap.size ∧ w.cell? ⟨g, k, none⟩ = some (ptrV M.stays[k].b) := by
  have hp := own_ptrs h
  have hn : 0 < M.c.n := by rw [hM.n]; omega
  obtain ⟨g, c, hv, hg0, hg1⟩ := hp.form hn
  injection hv with e1 e2 e3
  refine ⟨g, e1, hg1, ?_⟩
  have := hp.cells (g := g) (by rw [e1]; rfl) k (ptrV M.stays[k].b) (by simp [hk])
  rw [show (⟨g, 0, none⟩ : Addr).add k = ⟨g, k, none⟩ from by unfold Addr.add; split <;> simp_all] at this
  exact this
end Go.Proofs.Ytogagkgkmoppmaa
