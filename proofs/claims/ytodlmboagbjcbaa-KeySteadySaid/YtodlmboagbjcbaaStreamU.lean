/-
  Two rows of messages that the law itself has built, beside a stream.
  Conditions: none.
-/
import Derived.Test.YtodlmboagbjcbaaStreamB
import Derived.Test.YtodlmboagbjcbaaWords
namespace Go.Proofs.Ytodlmboagbjcbaa
set_option linter.unusedVariables false
open Go.RowKit
theorem own_keptS {S : Nat → Prop} {w w' : World} {base : Nat} {e : TypeId} {size : Nat} {v : Value} {n : Nat} {xs : List Value} (h : w.ownsRow base e size v n xs) (hk : Kept S w w') (hs : ∀ b, v.ownBlock = some b → ¬ S b) : w'.ownsRow base e size v n xs := by
  refine ⟨h.1, ?_⟩
  rcases h.2 with hn | ⟨g, cap, cur, rfl, hb, hgg, rest⟩
  · exact .inl hn
  · exact .inr ⟨g, cap, cur, rfl, hb, hk.keep hgg (hs g rfl), rest⟩
theorem rowsM_append (A B : List Msg) : rowsM (A ++ B) = rowsM A ++ rowsM B := by unfold rowsM; simp
structure OW (B D M : Nat) (F A : List Msg) (u v : Value) (w : World) : Prop where
  f : w.ownsRow B 37 6 u F.length (rowsM F)
  a : w.ownsRow B 37 6 v A.length (rowsM A)
  fd : ∀ b, u.ownBlock = some b → ¬ Two D M b
  ad : ∀ b, v.ownBlock = some b → ¬ Two D M b
  ne : ∀ b, u.ownBlock = some b → v.ownBlock ≠ some b
theorem OW.zero (B D M : Nat) (w : World) : OW B D M [] [] (.slice none 0 0) (.slice none 0 0) w := ⟨⟨rfl, .inl ⟨rfl, rfl⟩⟩, ⟨rfl, .inl ⟨rfl, rfl⟩⟩, (by intro b h; cases h), (by intro b h; cases h), (by intro b h; cases h)⟩
variable {B D M : Nat} {F A : List Msg} {u v : Value} {w w' : World}
theorem OW.two (h : OW B D M F A u v w) (hk : Kept (Two D M) w w') : OW B D M F A u v w' := ⟨own_keptS h.f hk h.fd, own_keptS h.a hk h.ad, h.fd, h.ad, h.ne⟩
theorem OW.below (h : OW B D M F A u v w) (hb : Below w.heap.size w w') : OW B D M F A u v w' := h.two (.of_below hb)
theorem OW.addF (h : OW B D M F A u v w) {G : List Msg} {u' : Value} (hg : w.grownBy w' u.ownBlock) (ho : w'.ownsRow B 37 6 u' G.length (rowsM G)) (hu : u'.ownBlock = u.ownBlock ∨ u'.ownBlock = some w.heap.size) (hD : D < w.heap.size) (hM : M < w.heap.size) : OW B D M G A u' v w' := by
  refine ⟨ho, own_keptS h.a (Kept.of_grown' hg) ?_, ?_, h.ad, ?_⟩
  · intro b hb ⟨c, hc, e⟩
    subst e
    exact h.ne b hc hb
  · intro b hb
    rcases hu with e | e
    · exact h.fd b (e ▸ hb)
    · rw [e] at hb
      injection hb with hb
      unfold Two
      omega
  · intro b hb hv
    rcases hu with e | e
    · exact h.ne b (e ▸ hb) hv
    · rw [e] at hb
      injection hb with hb
      have := (h.a.lt b hv).2
      omega
theorem OW.addA (h : OW B D M F A u v w) {G : List Msg} {v' : Value} (hg : w.grownBy w' v.ownBlock) (ho : w'.ownsRow B 37 6 v' G.length (rowsM G)) (hu : v'.ownBlock = v.ownBlock ∨ v'.ownBlock = some w.heap.size) (hD : D < w.heap.size) (hM : M < w.heap.size) : OW B D M F G u v' w' := by
  refine ⟨own_keptS h.f (Kept.of_grown' hg) ?_, ho, h.fd, ?_, ?_⟩
  · intro b hb ⟨c, hc, e⟩
    subst e
    exact h.ne b hb hc
  · intro b hb
    rcases hu with e | e
    · exact h.ad b (e ▸ hb)
    · rw [e] at hb
      injection hb with hb
      unfold Two
      omega
  · intro b hb hv
    rcases hu with e | e
    · exact h.ne b hb (e ▸ hv)
    · rw [e] at hv
      injection hv with hv
      have := (h.f.lt b hb).2
      omega
theorem grown_below {n : Nat} {w0 : World} {row : Option Nat} (hb : Below n w0 w) (hn : n ≤ w.heap.size) (hg : w.grownBy w' row) (hr : ∀ b, row = some b → n ≤ b) : Below n w0 w' :=
  (Kept.of_grown' hg).out hb hn (by rintro k hk ⟨b, hb, e⟩; have := hr b hb; omega)
theorem OW.pushF {w0 : World} {z : Int} {c : Nat} {H : Hel} (h : OW B D M F A u v w) (hS : StrAt w D M z c H) (hb : Below B w0 w) (hB : B ≤ w.heap.size) {m : Msg} {u' : Value} (hg : w.grownBy w' u.ownBlock)
    (ho : w'.ownsRow B 37 6 u' (F.length + 1) (rowsM F ++ (msgA m).toList)) (hu : u'.ownBlock = u.ownBlock ∨ u'.ownBlock = some w.heap.size) :
    OW B D M (F ++ [m]) A u' v w' ∧ StrAt w' D M z c H ∧ Below B w0 w' := by
  rw [← rowsM_snoc] at ho
  refine ⟨h.addF hg (by simpa using ho) hu hS.lt.1 hS.lt.2, hS.kept (Kept.of_grown' hg) ?_ ?_, grown_below hb hB hg fun b hb => (h.f.lt b hb).1⟩
  · rintro ⟨b, hb, e⟩; exact h.fd b hb (.inl e.symm)
  · rintro ⟨b, hb, e⟩; exact h.fd b hb (.inr e.symm)
theorem OW.pushA {w0 : World} {z : Int} {c : Nat} {H : Hel} (h : OW B D M F A u v w) (hS : StrAt w D M z c H) (hb : Below B w0 w) (hB : B ≤ w.heap.size) {O : List Msg} {v' : Value} (hg : w.grownBy w' v.ownBlock)
    (ho : w'.ownsRow B 37 6 v' (A.length + O.length) (rowsM A ++ rowsM O)) (hu : v'.ownBlock = v.ownBlock ∨ v'.ownBlock = some w.heap.size) :
    OW B D M F (A ++ O) u v' w' ∧ StrAt w' D M z c H ∧ Below B w0 w' := by
  rw [← rowsM_append] at ho
  refine ⟨h.addA hg (by simpa using ho) hu hS.lt.1 hS.lt.2, hS.kept (Kept.of_grown' hg) ?_ ?_, grown_below hb hB hg fun b hb => (h.a.lt b hb).1⟩
  · rintro ⟨b, hb, e⟩; exact h.ad b hb (.inl e.symm)
  · rintro ⟨b, hb, e⟩; exact h.ad b hb (.inr e.symm)
theorem own_apart {e : TypeId} {x : Value} {n : Nat} {xs : List Value} (h : OW B D M F A u v w) (ho : w'.ownsRow w.heap.size e 6 x n xs) : ∀ g, x.ownBlock = some g → u.ownBlock ≠ some g := by
  intro g hg hu
  have := (ho.lt g hg).1
  have := (h.f.lt g hu).2
  omega
theorem reads_new (w : World) (m : Msg) : Reads (w.alloc (.cells (msgA m).toList.toArray 37)) (w.heap.size + 1) 6 (some ⟨w.heap.size, 0, none⟩) 1 (msgA m).toList :=
  ⟨rfl, fun _ => ⟨_, rfl, by show w.heap.size < _; omega, fun j u hu => new_cells w (msgA m).toList 37 j u hu⟩⟩
theorem rowsM_one (A : List Msg) : ∀ u ∈ rowsM A, u.oneCell' = true := by
  intro u hu
  unfold rowsM at hu
  obtain ⟨m, _, hm⟩ := List.mem_flatMap.1 hu
  exact msgA_one m u hm
theorem rowsM_at : ∀ (A : List Msg) (j : Nat) (hj : j < A.length) (i : Nat) (u : Value), (msgA A[j]).toList[i]? = some u → (rowsM A)[j * 6 + i]? = some u
  | [], j, hj, _, _, _ => absurd hj (by simp)
  | m :: A, 0, _, i, u, h => by
    have hi : i < 6 := (List.getElem?_eq_some_iff.1 h).1
    have e : rowsM (m :: A) = (msgA m).toList ++ rowsM A := rfl
    rw [e, show 0 * 6 + i = i from by omega, List.getElem?_append_left (by exact hi)]
    exact h
  | m :: A, j + 1, hj, i, u, h => by
    have e : rowsM (m :: A) = (msgA m).toList ++ rowsM A := rfl
    have hl : (msgA m).toList.length = 6 := rfl
    rw [e, List.getElem?_append_right (by omega), hl, show (j + 1) * 6 + i - 6 = j * 6 + i from by omega]
    exact rowsM_at A j (by simpa using hj) i u (by simpa using h)
theorem own_msg {A : List Msg} {ad : Option Addr} {cap : Nat} (ho : w.ownsRow B 37 6 (.slice ad A.length cap) A.length (rowsM A)) {j : Nat} (hj : j < A.length) : ∃ g, ad = some ⟨g, 0, none⟩ ∧ g < w.heap.size ∧ w.rangeAt g (j * 6) (msgA A[j]).toList := by
  obtain ⟨g, cap', hv, hg0, hg1⟩ := ho.form (by omega)
  injection hv with h1 h2 h3
  subst h1
  refine ⟨g, rfl, hg1, fun i u hu => ?_⟩
  have := ho.cells (g := g) rfl (j * 6 + i) u (rowsM_at A j hj i u hu)
  rw [← this]
  congr 1
  unfold Addr.add
  split <;> simp_all
theorem wpQuiet_load_want {P : Program} {ops : Array Oper} {C : World → Prop} {Q : Act → Prop} {rest : List Oper} {o : Oper} {a : Act} (hw : Region.wanted o (yielded ops a.tmps) = true) (ty : TypeId) (x : Operand) (ho : o.op = .load ty x)
    (b off : Nat) (hx : a.eval x = .pointer (some ⟨b, off, none⟩)) (cs : List Value) (d : TypeDesc) (hc : ∀ w, C w → w.rangeAt b off cs)
    (hu : P.underlying ty = some d) (hd : d.isRow = true) (hi : (P.info? ty).map (·.size) = some cs.length) (h : wpQuiet P ops C Q rest (a.put o.dst (.agg cs.toArray))) : wpQuiet P ops C Q (o :: rest) a := by
  show (if Region.wanted o (yielded ops a.tmps) = true then _ else _)
  rw [if_pos hw]
  refine ⟨_, fun w hC => ?_, h⟩
  unfold Oper.quietAt execOp
  simp only [ho, hx, Instr.loadAt, Instr.sureAddr, Sem.run_bind, Sem.run_pure, Result.andThen_ok, run_loadVar_mid w b off ty cs d (hc w hC) hu hd hi]
  exact ⟨rfl, rfl⟩
end Go.Proofs.Ytodlmboagbjcbaa
