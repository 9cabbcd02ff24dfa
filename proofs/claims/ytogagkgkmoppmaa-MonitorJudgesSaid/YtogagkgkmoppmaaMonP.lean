/-
  Parts of a monitor in memory that change one by one, or come anew; events, messages and locals as parts.
  Conditions: those that each theorem names.
-/
import Derived.Test.YtogagkgkmoppmaaMonO
namespace Go.Proofs.Ytogagkgkmoppmaa
set_option linter.unusedVariables false
set_option linter.unusedSimpArgs false
open Go.RowKit GM
theorem set_perm : ∀ {l : List Pc} {i : Nat} (hi : i < l.length) (q : Pc), (l.set i q).Perm (q :: l.eraseIdx i)
  | a :: l, 0, _, q => List.Perm.refl _
  | a :: l, i + 1, hi, q => by
    have hi' : i < l.length := by simpa using hi
    have ih := set_perm hi' q
    show (a :: l.set i q).Perm (q :: a :: l.eraseIdx i)
    exact (List.Perm.cons a ih).trans (List.Perm.swap q a _)
theorem get_perm : ∀ {l : List Pc} {i : Nat} (hi : i < l.length), l.Perm (l[i] :: l.eraseIdx i)
  | a :: l, 0, _ => List.Perm.refl _
  | a :: l, i + 1, hi => by
    have hi' : i < l.length := by simpa using hi
    have ih := get_perm hi'
    show (a :: l).Perm (l[i] :: a :: l.eraseIdx i)
    exact (List.Perm.cons a ih).trans (List.Perm.swap l[i] a _)
/-- one part changes -/
theorem own_at {w w' : World} {b0 : Nat} {l : List Pc} (i : Nat) {p : Pc} (q : Pc) (h : Own w b0 l) (hb0 : b0 ≤ w.heap.size) (hp : l[i]? = some p) (hk : Kept (fun k => p.blk = some k) w w') (hq : q.ok w') (hB : ∀ b, q.blk = some b → p.blk = some b ∨ w.heap.size ≤ b) :
    Own w' b0 (l.set i q) ∧ Kept (fun k => b0 ≤ k) w w' := by
  obtain ⟨hi, rfl⟩ := List.getElem?_eq_some_iff.1 hp
  have h' : Own w b0 ([l[i]] ++ l.eraseIdx i) := h.perm (get_perm hi)
  have hk' : Kept (Reach w [l[i]]) w w' := hk.more fun k _ e => .inl ⟨_, List.mem_singleton.2 rfl, e⟩
  refine ⟨(Own.step h' hb0 hk' (L' := [q]) ⟨fun x hx => by rw [List.mem_singleton.1 hx]; exact hq, fun _ _ _ _ => Nat.zero_le _, List.pairwise_singleton _ _⟩ ?_).perm (set_perm hi q).symm, Own.low h'.left hb0 hk'⟩
  intro x hx b hb
  rw [List.mem_singleton.1 hx] at hb
  rcases hB b hb with hB | hB
  · exact .inl ⟨_, List.mem_singleton.2 rfl, hB⟩
  · exact .inr hB
/-- a part comes anew -/
theorem own_new {w w' : World} {b0 : Nat} {l : List Pc} (q : Pc) (h : Own w b0 l) (hb0 : b0 ≤ w.heap.size) (hb : Below w.heap.size w w') (hq : q.ok w') (hB : ∀ b, q.blk = some b → w.heap.size ≤ b) : Own w' b0 (q :: l) := by
  refine Own.step (L := []) (L' := [q]) h hb0 (Kept.of_below hb) ⟨fun x hx => by rw [List.mem_singleton.1 hx]; exact hq, fun _ _ _ _ => Nat.zero_le _, List.pairwise_singleton _ _⟩ ?_
  intro x hx b hbb
  rw [List.mem_singleton.1 hx] at hbb
  exact .inr (hB b hbb)
theorem Own.sub {w : World} {b0 : Nat} {l l' : List Pc} (h : Own w b0 l) (hs : l'.Sublist l) : Own w b0 l' :=
  ⟨fun p hp => h.ok p (hs.subset hp), fun p hp => h.base p (hs.subset hp), h.ap.sublist hs⟩
theorem Own.drop {w : World} {b0 : Nat} {A Q R : List Pc} (h : Own w b0 (A ++ (Q ++ R))) : Own w b0 (A ++ R) :=
  h.sub ((List.Sublist.refl A).append (List.sublist_append_right Q R))
theorem Own.mid {w : World} {b0 : Nat} {A Q R : List Pc} (h : Own w b0 (Q ++ (A ++ R))) : Own w b0 (A ++ (Q ++ R)) := h.perm (List.perm_append_comm_assoc _ _ _)
theorem Own.mid1 {w : World} {b0 : Nat} {A R : List Pc} {q : Pc} (h : Own w b0 (q :: (A ++ R))) : Own w b0 (A ++ (q :: R)) := h.perm List.perm_middle.symm
/-- an event -/
def evPc (X : Nat) (x : Ev) : Pc where
  blk := none
  ok := fun w => EvAt w X x
  lt := fun w b h e => by cases e
  keep := fun w w' S h hk hs hq => hk.keep h (fun hS => (hq X hS _ _ _ h).2 rfl)
/-- a message -/
def msgPc (m : Msg) : Pc where
  blk := none
  ok := fun w => MsgT w m
  lt := fun w b h e => by cases e
  keep := fun w w' S h hk hs hq => h.quiet hk hq
/-- a variable -/
def varPc (b : Nat) (cs : Array Value) (t : TypeId) (h1 : t ≠ 31) (h2 : t ≠ 39) : Pc where
  blk := some b
  ok := fun w => w.heap[b]? = some (.cells cs t (0, 0))
  lt := fun w b' h e => by injection e with e; subst e; exact lt_of_cells h h1 h2
  keep := fun w w' S h hk hs hq => hk.keep h (hs _ rfl)
section
variable {w : World} {B b0 : Nat} {M : MM} {R : List Pc}
theorem own_r (h : Own w b0 (parts B M ++ R)) {p : Pc} (hp : p ∈ R) : p.ok w := h.ok p (List.mem_append_right _ hp)
/-- one of the monitor's own cells -/
theorem mcell (h : Own w b0 (parts B M ++ R)) (i : Nat) {v : Value} (hv : (monC M.c)[i]? = some v) : ∀ y : Bel w, y.val.cell? ⟨B, i, none⟩ = some v :=
  Bel.cell ((cell_of_row _ _ i _ _ _ (own_mon h)).trans hv) (own_mon h).lt
end
theorem bz_bz (M : MM) (a b : Int) : (M.bz a).bz b = M.bz b := rfl
theorem br_z (M : MM) (z r : Int) (c : Bool) : (M.bz z).br r c = M.bz (brk r z c) := rfl
theorem bz_self (M : MM) : M.bz M.c.broken = M := rfl
theorem breaks_z {w : World} {B b0 : Nat} {M : MM} {z : Int} {R : List Pc} (h : Own w b0 (parts B (M.bz z) ++ R)) (hb0 : b0 ≤ w.heap.size) (r : Int) (b : Bool) :
    Calls Try.prog 20 #[.pointer (some ⟨B, 0, none⟩), .int .i64 r, .bool b] w fun e w' => e = .returned (.tuple #[]) ∧ Own w' b0 (parts B (M.bz (brk r z b)) ++ R) ∧ Kept (fun k => b0 ≤ k) w w' :=
  breaks_own h hb0 r b
/-- what has become of a monitor -/
structure Now (w0 : World) (B b0 : Nat) (M : MM) (R : List Pc) (w : World) : Prop where
  own : Own w b0 (parts B M ++ R)
  kept : Kept (fun k => b0 ≤ k) w0 w
  low : b0 ≤ w.heap.size
theorem Now.below {w0 w w' : World} {B b0 : Nat} {M : MM} {R : List Pc} (h : Now w0 B b0 M R w) (hb : Below w.heap.size w w') : Now w0 B b0 M R w' :=
  ⟨h.own.below hb, h.kept.trans (Kept.of_below hb), Nat.le_trans h.low hb.size⟩
theorem Now.next {w0 w w' : World} {B b0 : Nat} {M M' : MM} {R R' : List Pc} (h : Now w0 B b0 M R w) (h' : Own w' b0 (parts B M' ++ R')) (hk : Kept (fun k => b0 ≤ k) w w') : Now w0 B b0 M' R' w' :=
  ⟨h', h.kept.trans hk, Nat.le_trans h.low hk.size⟩
theorem Now.breaks {w0 w : World} {B b0 : Nat} {M : MM} {z : Int} {R : List Pc} (h : Now w0 B b0 (M.bz z) R w) (r : Int) :
    ∀ w1, Below w.heap.size w w1 → ∀ b : Bool, Calls Try.prog 20 #[.pointer (some ⟨B, 0, none⟩), .int .i64 r, .bool b] w1 fun e w' => e = .returned (.tuple #[]) ∧ Now w0 B b0 (M.bz (brk r z b)) R w' := fun w1 hb b =>
  (breaks_z (h.below hb).own (h.below hb).low r b).mono fun e w' ⟨h1, h2, h3⟩ => ⟨h1, (h.below hb).next h2 h3⟩
end Go.Proofs.Ytogagkgkmoppmaa
