/-
  A map with keys of any kind as a list of its entries, in the order in which they came: lookup, len, update, an entry's store, delete.
  Conditions: the keys' law (KLaw); no program is named.
-/
import Derived.Below
import Derived.WalkKit
import Derived.Laws.Entries
import Derived.MapKept
import Derived.OwnWalk
import Derived.Deep.Draws
namespace Go.Proofs.YtogagkgkmoppmaaGreatDoor
set_option linter.unusedVariables false
set_option linter.unusedSimpArgs false
set_option linter.unusedSectionVars false
open Go Go.RowKit
open Go.MapKept (IsKey findNow_spec Stamped stamped_empty stamped_push stamped_modify stamped_erase)
namespace GM
/-- what a kind of keys must keep to -/
structure KLaw {α : Type} (P : Program) (k : TypeId) (f : α → Value) : Prop where
  inj : ∀ a b, f a = f b → a = b
  check : ∀ (w : World) (em : Bool) (a : α), (Instr.checkKey em 10000 k (f a)).run P w = .ok () w
  find : ∀ (w : World) (a : α) (es : List MapEntry), (∀ e ∈ es, ∃ b, e.key = f b) → ((Instr.findKey k (f a) es).run P w = .ok none w ∧ ∀ e ∈ es, e.key ≠ f a) ∨ ∃ j e, (Instr.findKey k (f a) es).run P w = .ok (some (j, e.val)) w ∧ es[j]? = some e ∧ e.key = f a
  stays : ∀ (w : World) (a : α), (Instr.keyThatStays (f a) (f a)).run P w = .ok (f a) w
/-- integer keys -/
theorem KLaw.int {P : Program} {k : TypeId} {kd : IntKind} (hk : P.underlying k = some (.int kd)) : KLaw P k (fun i : Int => Value.int kd i) where
  inj := fun a b h => by injection h
  check := fun w em a => MapKept.run_checkKey (P := P) (w := w) hk (k := .int kd a) (by simp [IsKey]) em 9999
  find := fun w a es hes => by
    have hkeys : ∀ x ∈ es, IsKey (.int kd) x.key := fun x hx => by
      obtain ⟨b, hb⟩ := hes x hx
      rw [hb]
      simp [IsKey]
    rcases findNow_spec (d := .int kd) (k := .int kd a) (by simp [IsKey]) es 0 hkeys with ⟨h1, h2⟩ | ⟨j, e, h1, h2, h3⟩
    · exact .inl ⟨MapKept.run_findKey hk h1, h2⟩
    · exact .inr ⟨j, e, by simpa using MapKept.run_findKey (P := P) (w := w) hk h1, h2, h3⟩
  stays := fun w a => by simp [Instr.keyThatStays, Instr.sameBits]
/-- keys whose comparison is Op.equal's -/
theorem KLaw.asking {α : Type} [DecidableEq α] {P : Program} {k : TypeId} {f : α → Value} {fs : Array Field} (hk : P.underlying k = some (.struct fs)) (inj : ∀ a b, f a = f b → a = b) (agg : ∀ a, ∃ cs, f a = .agg cs)
    (check : ∀ (w : World) (em : Bool) (a : α), (Instr.checkKey em 10000 k (f a)).run P w = .ok () w) (eq : ∀ (w : World) (a b : α), (Op.equal k (f a) (f b)).run P w = .ok (decide (a = b)) w) (bits : ∀ a, Instr.sameBits 10000 (f a) (f a) = true) : KLaw P k f where
  inj := inj
  check := check
  find := fun w a es hes => by
    have key : ∀ (es : List MapEntry) (i : Nat), (∀ e ∈ es, ∃ b, e.key = f b) → ((Instr.findAsking k (f a) es i).run P w = .ok none w ∧ ∀ e ∈ es, e.key ≠ f a) ∨ ∃ j e, (Instr.findAsking k (f a) es i).run P w = .ok (some (i + j, e.val)) w ∧ es[j]? = some e ∧ e.key = f a := by
      intro es
      induction es with
      | nil => intro i _; exact .inl ⟨by simp [Instr.findAsking], by simp⟩
      | cons e es ih =>
        intro i h
        obtain ⟨b, hb⟩ := h e (by simp)
        have he := eq w a b
        by_cases hab : a = b
        · subst hab
          refine .inr ⟨0, e, ?_, rfl, hb⟩
          simp [Instr.findAsking, hb, he]
        · rcases ih (i + 1) (fun x hx => h x (by simp [hx])) with ⟨h1, h2⟩ | ⟨j, e', h1, h2, h3⟩
          · refine .inl ⟨?_, fun x hx => ?_⟩
            · simp [Instr.findAsking, hb, he, hab, h1]
            · rcases List.mem_cons.1 hx with rfl | hx
              · rw [hb]; exact fun q => hab (inj _ _ q).symm
              · exact h2 x hx
          · refine .inr ⟨j + 1, e', ?_, by simpa using h2, h3⟩
            simp [Instr.findAsking, hb, he, hab, h1, Nat.add_assoc, Nat.add_comm 1 j]
    have hfk : (Instr.findKey k (f a) es).run P w = (Instr.findAsking k (f a) es 0).run P w := by
      unfold Instr.findKey
      cases es with
      | nil => simp [run_underlying hk, Result.andThen, Instr.findNow, Instr.findAsking]
      | cons e es =>
        have hn : Instr.findNow (.struct fs) (f a) (e :: es) 0 = none := by
          obtain ⟨cs, hcs⟩ := agg a
          simp [Instr.findNow, Instr.sameNow]
        simp [run_underlying hk, Result.andThen, hn]
    rw [hfk]
    simpa using key es 0 hes
  stays := fun w a => by simp [Instr.keyThatStays, bits a]
section
variable {α : Type} [DecidableEq α]
/-- block b of w is a map with keys f a, its entries L in the order in which they came -/
def GMap (f : α → Value) (w : World) (b : Nat) (L : List (α × Value)) : Prop :=
  (L.map (·.1)).Nodup ∧ ∃ es clock, w.heap[b]? = some (.map es clock) ∧ Stamped es clock ∧ es.toList.map (fun e => (e.key, e.val)) = L.map (fun x => (f x.1, x.2))
def get {β : Type} (L : List (α × β)) (i : α) : Option β := (L.find? (fun x => decide (x.1 = i))).map (·.2)
def has {β : Type} (L : List (α × β)) (i : α) : Bool := (L.find? (fun x => decide (x.1 = i))).isSome
def put {β : Type} (L : List (α × β)) (i : α) (v : β) : List (α × β) := if has L i = true then L.map (fun x => if x.1 = i then (i, v) else x) else L ++ [(i, v)]
def del {β : Type} (L : List (α × β)) (i : α) : List (α × β) := L.filter (fun x => !decide (x.1 = i))
theorem has_get {β : Type} (L : List (α × β)) (i : α) : has L i = (get L i).isSome := by unfold has get; simp
theorem GMap.lt {f : α → Value} {w : World} {b : Nat} {L : List (α × Value)} (h : GMap f w b L) : b < w.heap.size := by
  obtain ⟨_, es, clock, hb, _⟩ := h
  exact (Array.getElem?_eq_some_iff.1 hb).1
theorem GMap.keep {f : α → Value} {w w' : World} {b : Nat} {L : List (α × Value)} (h : GMap f w b L) (hb : w'.heap[b]? = w.heap[b]?) : GMap f w' b L := by
  obtain ⟨h0, es, clock, h1, h2⟩ := h
  exact ⟨h0, es, clock, hb.trans h1, h2⟩
theorem GMap.below {f : α → Value} {w w' : World} {b B : Nat} {L : List (α × Value)} (h : GMap f w b L) (hb : Below B w w') (hB : b < B) : GMap f w' b L := h.keep (hb.block b hB)
theorem GMap.made (f : α → Value) (w : World) : GMap f (w.alloc (.map #[] 0)) w.heap.size [] := ⟨List.nodup_nil, #[], 0, by simp [World.alloc, -World.alloc_eq], stamped_empty 0, rfl⟩
theorem find_none {β : Type} {L : List (α × β)} {i : α} (h : ∀ x ∈ L, x.1 ≠ i) : L.find? (fun x => decide (x.1 = i)) = none := by
  rw [List.find?_eq_none]
  intro x hx
  simpa using h x hx
theorem find_some {β : Type} {L : List (α × β)} (hn : (L.map (·.1)).Nodup) {j : Nat} {i : α} {v : β} (h : L[j]? = some (i, v)) : L.find? (fun x => decide (x.1 = i)) = some (i, v) := by
  induction L generalizing j with
  | nil => simp at h
  | cons x L ih =>
    cases j with
    | zero =>
      simp at h
      subst h
      simp
    | succ j =>
      simp at h
      simp only [List.map_cons, List.nodup_cons] at hn
      have hm : i ∈ L.map (·.1) := by
        rw [List.mem_map]
        exact ⟨(i, v), List.mem_of_getElem? h, rfl⟩
      have hne : decide (x.1 = i) = false := by
        rw [decide_eq_false_iff_not]
        intro e
        exact hn.1 (e ▸ hm)
      rw [List.find?_cons, hne]
      exact ih hn.2 h
theorem map_erase {β γ : Type} (f : β → γ) : ∀ (l : List β) (j : Nat), (l.eraseIdx j).map f = (l.map f).eraseIdx j
  | [], j => by simp
  | x :: l, 0 => by simp
  | x :: l, j + 1 => by simp [map_erase f l j]
theorem get_none {β : Type} {L : List (α × β)} {i : α} (h : get L i = none) : ∀ x ∈ L, x.1 ≠ i := by
  unfold get at h
  simp only [Option.map_eq_none_iff, List.find?_eq_none] at h
  intro x hx e
  exact h x hx (by simp [e])
theorem del_none {β : Type} {L : List (α × β)} {i : α} (h : get L i = none) : del L i = L := by
  unfold del
  rw [List.filter_eq_self]
  intro x hx
  simpa using get_none h x hx
theorem del_at {β : Type} {L : List (α × β)} (hn : (L.map (·.1)).Nodup) {j : Nat} {i : α} {v : β} (h : L[j]? = some (i, v)) : del L i = L.eraseIdx j := by
  unfold del
  induction L generalizing j with
  | nil => simp at h
  | cons x L ih =>
    simp only [List.map_cons, List.nodup_cons] at hn
    cases j with
    | zero =>
      simp at h
      subst h
      simp only [List.eraseIdx_cons_zero]
      rw [List.filter_cons_of_neg (by simp), List.filter_eq_self]
      intro y hy
      have : y.1 ≠ i := fun e => hn.1 (e ▸ List.mem_map.2 ⟨y, hy, rfl⟩)
      simpa using this
    | succ j =>
      simp at h
      have hm : i ∈ L.map (·.1) := List.mem_map.2 ⟨(i, v), List.mem_of_getElem? h, rfl⟩
      have hne : x.1 ≠ i := fun e => hn.1 (e ▸ hm)
      rw [List.filter_cons_of_pos (by simpa using hne), List.eraseIdx_cons_succ, ih hn.2 h]
/-- what the entries say of a key, behind each store -/
theorem get_put {β : Type} (L : List (α × β)) (i : α) (v : β) (a : α) : get (put L i v) a = if a = i then some v else get L a := by
  unfold put
  by_cases hh : has L i = true
  · rw [if_pos hh]
    unfold has at hh
    unfold get
    induction L with
    | nil => simp at hh
    | cons x L ih =>
      simp only [List.map_cons, List.find?_cons] at hh ⊢
      by_cases hx : x.1 = i
      · simp only [hx, if_true]
        by_cases ha : a = i
        · subst ha; simp
        · have h1 : decide (i = a) = false := by simpa using fun e => ha e.symm
          rw [if_neg ha, h1]
          simp only
          have key : ∀ M : List (α × β), (M.map fun x => if x.1 = i then (i, v) else x).find? (fun x => decide (x.1 = a)) = M.find? (fun x => decide (x.1 = a)) := by
            intro M
            induction M with
            | nil => rfl
            | cons y M ihM =>
              simp only [List.map_cons, List.find?_cons]
              by_cases hy : y.1 = i
              · have h2 : decide (y.1 = a) = false := by rw [hy]; exact h1
                simp only [hy, if_true, h1]
                exact ihM
              · simp only [hy, if_false]
                rw [ihM]
          rw [key]
      · have h3 : decide (x.1 = i) = false := by simpa using hx
        simp only [h3] at hh
        simp only [hx, if_false]
        by_cases hxa : x.1 = a
        · have : ¬ a = i := fun e => hx (hxa.trans e)
          simp [hxa, this]
        · have h4 : decide (x.1 = a) = false := by simpa using hxa
          simp only [h4]
          exact ih hh
  · rw [if_neg hh]
    have hg : get L i = none := by
      have := has_get L i
      cases hgi : get L i with
      | none => rfl
      | some v => rw [hgi] at this; exact absurd this hh
    unfold get
    rw [List.find?_append]
    by_cases ha : a = i
    · subst ha
      rw [if_pos rfl, find_none (get_none hg)]
      simp
    · rw [if_neg ha]
      have : decide (i = a) = false := by simpa using fun e => ha e.symm
      cases hL : L.find? (fun x => decide (x.1 = a)) with
      | some y => simp
      | none => simp [this]
theorem get_del {β : Type} (L : List (α × β)) (i : α) (a : α) : get (del L i) a = if a = i then none else get L a := by
  unfold get del
  by_cases ha : a = i
  · subst ha
    rw [if_pos rfl, find_none]
    · rfl
    · intro x hx
      have := (List.mem_filter.1 hx).2
      simpa using this
  · rw [if_neg ha]
    congr 1
    induction L with
    | nil => rfl
    | cons x L ih =>
      by_cases hx : x.1 = i
      · rw [List.filter_cons_of_neg (by simpa using hx), ih, List.find?_cons]
        have : decide (x.1 = a) = false := by simpa using fun e => ha (e.symm.trans hx)
        rw [this]
      · rw [List.filter_cons_of_pos (by simpa using hx), List.find?_cons, List.find?_cons, ih]
theorem get_snoc {β : Type} (L : List (α × β)) (i : α) (v : β) (hi : get L i = none) (a : α) : get (L ++ [(i, v)]) a = if a = i then some v else get L a := by
  have := get_put L i v a
  unfold put at this
  rw [if_neg (by rw [has_get, hi]; simp)] at this
  exact this
/-- what stands behind a kind of values -/
def vals {β : Type} (g : β → Value) (L : List (α × β)) : List (α × Value) := L.map fun x => (x.1, g x.2)
theorem get_vals {β : Type} (g : β → Value) (L : List (α × β)) (i : α) : get (vals g L) i = (get L i).map g := by
  unfold get vals
  induction L with
  | nil => rfl
  | cons x L ih =>
    simp only [List.map_cons, List.find?_cons]
    by_cases h : x.1 = i
    · simp [h]
    · have : decide (x.1 = i) = false := by simpa using h
      simp only [this]
      exact ih
theorem has_vals {β : Type} (g : β → Value) (L : List (α × β)) (i : α) : has (vals g L) i = has L i := by rw [has_get, has_get, get_vals]; simp
theorem put_vals {β : Type} (g : β → Value) (L : List (α × β)) (i : α) (v : β) : put (vals g L) i (g v) = vals g (put L i v) := by
  unfold put
  rw [has_vals]
  split
  · unfold vals
    rw [List.map_map, List.map_map]
    apply List.map_congr_left
    intro x _
    by_cases h : x.1 = i
    · simp [h]
    · simp [h]
  · simp [vals]
theorem del_vals {β : Type} (g : β → Value) (L : List (α × β)) (i : α) : del (vals g L) i = vals g (del L i) := by
  unfold del vals
  rw [List.filter_map]
  rfl
end
section
variable {α : Type} [DecidableEq α] {f : α → Value} {P : Program} {w : World} {b : Nat} {L : List (α × Value)} {t kt et : TypeId}
/-- what the search for a key finds -/
theorem GMap.find (h : GMap f w b L) (hK : KLaw P kt f) (i : α) : ∃ es clock, w.heap[b]? = some (.map es clock) ∧ Stamped es clock ∧ es.toList.map (fun e => (e.key, e.val)) = L.map (fun x => (f x.1, x.2)) ∧
    (((Instr.findKey kt (f i) es.toList).run P w = .ok none w ∧ get L i = none ∧ ∀ x ∈ es.toList, x.key ≠ f i) ∨ ∃ j v, (Instr.findKey kt (f i) es.toList).run P w = .ok (some (j, v)) w ∧ L[j]? = some (i, v) ∧ get L i = some v) := by
  obtain ⟨hn, es, clock, hb, hst, hL⟩ := h
  refine ⟨es, clock, hb, hst, hL, ?_⟩
  have hkeys : ∀ x ∈ es.toList, ∃ c, x.key = f c := by
    intro x hx
    have : (x.key, x.val) ∈ L.map (fun x => (f x.1, x.2)) := by rw [← hL]; exact List.mem_map.2 ⟨x, hx, rfl⟩
    obtain ⟨y, _, hy⟩ := List.mem_map.1 this
    exact ⟨y.1, by injection hy with h1 _; exact h1.symm⟩
  rcases hK.find w i es.toList hkeys with ⟨h1, h2⟩ | ⟨j, e, h1, h2, h3⟩
  · refine .inl ⟨h1, ?_, h2⟩
    unfold get
    rw [find_none]
    · rfl
    · intro x hx e
      have : (f x.1, x.2) ∈ es.toList.map (fun e => (e.key, e.val)) := by rw [hL]; exact List.mem_map.2 ⟨x, hx, rfl⟩
      obtain ⟨y, hy, hyx⟩ := List.mem_map.1 this
      refine h2 y hy ?_
      injection hyx with h4 _
      rw [h4, e]
  · have hj : (L.map (fun x => (f x.1, x.2)))[j]? = some (e.key, e.val) := by rw [← hL, List.getElem?_map, h2]; rfl
    rw [List.getElem?_map] at hj
    cases hx : L[j]? with
    | none => rw [hx] at hj; cases hj
    | some x =>
      rw [hx] at hj
      simp only [Option.map_some, Option.some.injEq, Prod.mk.injEq] at hj
      have h5 : x.1 = i := hK.inj _ _ (hj.1.trans h3)
      refine .inr ⟨j, e.val, h1, ?_, ?_⟩
      · rw [← hj.2, ← h5]; exact hx
      · unfold get
        rw [find_some hn (j := j) (i := i) (v := e.val) (by rw [← hj.2, ← h5]; exact hx)]
        rfl
/-- v, ok := m[i] -/
theorem GMap.lookup_ok (h : GMap f w b L) (ht : P.underlying t = some (.map kt et)) (hK : KLaw P kt f) {z : Value} (hz : (zeroValue et).run P w = .ok z w) (i : α) :
    (Instr.lookup t (.map (some b)) (f i) true).run P w = .ok (.tuple #[(get L i).getD z, .bool (has L i)]) w := by
  obtain ⟨es, clock, hb, _, _, hf⟩ := h.find hK i
  have hck := hK.check w es.isEmpty i
  rw [has_get]
  rcases hf with ⟨hr, h2, _⟩ | ⟨j, v, hr, _, h2⟩
  · simp [Instr.lookup, run_underlying ht, Result.andThen, MapKept.run_getObj_map hb, hck, hr, hz, h2]
  · simp [Instr.lookup, run_underlying ht, Result.andThen, MapKept.run_getObj_map hb, hck, hr, h2]
/-- m[i] -/
theorem GMap.lookup (h : GMap f w b L) (ht : P.underlying t = some (.map kt et)) (hK : KLaw P kt f) {z : Value} (hz : (zeroValue et).run P w = .ok z w) (i : α) :
    (Instr.lookup t (.map (some b)) (f i) false).run P w = .ok ((get L i).getD z) w := by
  obtain ⟨es, clock, hb, _, _, hf⟩ := h.find hK i
  have hck := hK.check w es.isEmpty i
  rcases hf with ⟨hr, h2, _⟩ | ⟨j, v, hr, _, h2⟩
  · simp [Instr.lookup, run_underlying ht, Result.andThen, MapKept.run_getObj_map hb, hck, hr, hz, h2]
  · simp [Instr.lookup, run_underlying ht, Result.andThen, MapKept.run_getObj_map hb, hck, hr, h2]
/-- m[i] = v -/
theorem GMap.update (h : GMap f w b L) (ht : P.underlying t = some (.map kt et)) (hK : KLaw P kt f) (i : α) (v : Value) :
    ∃ w', (Instr.mapUpdate t (.map (some b)) (f i) v).run P w = .ok () w' ∧ GMap f w' b (put L i v) ∧ w.grownBy w' (some b) ∧ w'.heap.size = w.heap.size := by
  obtain ⟨es, clock, hb, hst, hL, hf⟩ := h.find hK i
  have hn := h.1
  have hck := hK.check w false i
  have hgr : ∀ o : Obj, w.grownBy { w with heap := w.heap.setIfInBounds b o } (some b) := fun o => ⟨rfl, rfl, rfl, by simp, fun j _ hj => by
    have : b ≠ j := fun e => hj (by rw [e])
    simp [this]⟩
  have hat : ∀ o : Obj, ({ w with heap := w.heap.setIfInBounds b o } : World).heap[b]? = some o := fun o => (MapKept.heap_set hb).1
  rcases hf with ⟨hr, h2, hne⟩ | ⟨j, u, hr, h3, h2⟩
  · refine ⟨{ w with heap := w.heap.setIfInBounds b (.map (es.push { key := f i, val := v, born := clock }) (clock + 1)) }, ?_, ?_, hgr _, by simp⟩
    · simp [Instr.mapUpdate, run_underlying ht, Result.andThen, MapKept.run_getObj_map hb, hck, hr, MapKept.run_setObj_map _ hb]
    · have hp : put L i v = L ++ [(i, v)] := by unfold put; rw [has_get, h2]; rfl
      rw [hp]
      refine ⟨?_, _, _, hat _, stamped_push hst hne, ?_⟩
      · rw [List.map_append, List.nodup_append]
        refine ⟨hn, by simp, ?_⟩
        intro x hx y hy e
        simp at hy
        subst hy e
        obtain ⟨z, hz, hzi⟩ := List.mem_map.1 hx
        exact get_none h2 z hz hzi
      · simp [hL]
  · have hje : ∃ e, es[j]? = some e ∧ e.key = f i := by
      have : (es.toList.map (fun e => (e.key, e.val)))[j]? = some (f i, u) := by rw [hL, List.getElem?_map, h3]; rfl
      rw [List.getElem?_map] at this
      cases he : es.toList[j]? with
      | none => rw [he] at this; cases this
      | some e =>
        rw [he] at this
        simp only [Option.map_some, Option.some.injEq, Prod.mk.injEq] at this
        exact ⟨e, by simpa using he, this.1⟩
    obtain ⟨e, hej, hek⟩ := hje
    have hks := hK.stays w i
    refine ⟨{ w with heap := w.heap.setIfInBounds b (.map (es.modify j fun e => { e with key := f i, val := v }) clock) }, ?_, ?_, hgr _, by simp⟩
    · simp [Instr.mapUpdate, run_underlying ht, Result.andThen, MapKept.run_getObj_map hb, hck, hr, hej, hek, hks, MapKept.run_setObj_map _ hb]
    · have hp : put L i v = L.map (fun x => if x.1 = i then (i, v) else x) := by unfold put; rw [has_get, h2]; rfl
      rw [hp]
      have hkeys : (L.map (fun x => if x.1 = i then (i, v) else x)).map (·.1) = L.map (·.1) := by
        rw [List.map_map]
        apply List.map_congr_left
        intro x _
        by_cases hx : x.1 = i
        · simp [Function.comp, hx]
        · simp [Function.comp, hx]
      refine ⟨by rw [hkeys]; exact hn, _, _, hat _, stamped_modify hst j _ (fun _ _ => rfl) (fun e' _ he' => by rw [hej] at he'; injection he' with he'; rw [← he']; exact hek.symm), ?_⟩
      apply List.ext_getElem?
      intro m
      have hm : (es.toList.map (fun e => (e.key, e.val)))[m]? = (L.map (fun x => (f x.1, x.2)))[m]? := by rw [hL]
      simp only [List.getElem?_map, Array.toList_modify, List.getElem?_modify] at hm ⊢
      cases hLm : L[m]? with
      | none =>
        rw [hLm] at hm
        simp only [Option.map_none, Option.map_eq_none_iff] at hm
        simp [hm]
      | some x =>
        rw [hLm] at hm
        cases hem : es.toList[m]? with
        | none => rw [hem] at hm; cases hm
        | some y =>
          rw [hem] at hm
          simp only [Option.map_some, Option.some.injEq, Prod.mk.injEq] at hm
          by_cases hjm : j = m
          · subst hjm
            have : x = (i, u) := by rw [h3] at hLm; injection hLm with h; exact h.symm
            subst this
            simp
          · have hxi : ¬ x.1 = i := by
              intro e
              have hjl : j < L.length := (List.getElem?_eq_some_iff.1 h3).1
              have hml : m < L.length := (List.getElem?_eq_some_iff.1 hLm).1
              have e1 : (L.map (·.1))[j]'(by simpa using hjl) = i := by simp; rw [(List.getElem?_eq_some_iff.1 h3).2]
              have e2 : (L.map (·.1))[m]'(by simpa using hml) = i := by simp; rw [(List.getElem?_eq_some_iff.1 hLm).2]; exact e
              exact hjm ((List.getElem_inj hn).1 (e1.trans e2.symm))
            simp [hjm, hxi, hm.1, hm.2]
/-- delete(m, i) -/
theorem GMap.drop (h : GMap f w b L) (ht : P.underlying t = some (.map kt et)) (hK : KLaw P kt f) (ty : TypeId) (i : α) :
    ∃ w', (Builtin.delete_ #[t, kt] ty #[.map (some b), f i]).run P w = .ok (.tuple #[]) w' ∧ GMap f w' b (del L i) ∧ w.grownBy w' (some b) ∧ w'.heap.size = w.heap.size := by
  obtain ⟨es, clock, hb, hst, hL, hf⟩ := h.find hK i
  have hn := h.1
  have hck := hK.check w es.isEmpty i
  have hgr : ∀ o : Obj, w.grownBy { w with heap := w.heap.setIfInBounds b o } (some b) := fun o => ⟨rfl, rfl, rfl, by simp, fun j _ hj => by
    have : b ≠ j := fun e => hj (by rw [e])
    simp [this]⟩
  have hat : ∀ o : Obj, ({ w with heap := w.heap.setIfInBounds b o } : World).heap[b]? = some o := fun o => (MapKept.heap_set hb).1
  rcases hf with ⟨hr, h2, hne⟩ | ⟨j, u, hr, h3, h2⟩
  · refine ⟨{ w with heap := w.heap.setIfInBounds b (.map es clock) }, ?_, ?_, hgr _, by simp⟩
    · simp [Builtin.delete_, run_underlying ht, Result.andThen, MapKept.run_getObj_map hb, hck, hr, MapKept.run_setObj_map _ hb]
    · rw [del_none h2]
      exact ⟨hn, _, _, hat _, hst, hL⟩
  · refine ⟨{ w with heap := w.heap.setIfInBounds b (.map (es.eraseIdxIfInBounds j) clock) }, ?_, ?_, hgr _, by simp⟩
    · simp [Builtin.delete_, run_underlying ht, Result.andThen, MapKept.run_getObj_map hb, hck, hr, MapKept.run_setObj_map _ hb]
    · rw [del_at hn h3]
      refine ⟨hn.sublist ((List.eraseIdx_sublist _ _).map _), _, _, hat _, stamped_erase hst j, ?_⟩
      have hjl : j < es.size := by
        have h5 : L.length = es.size := by simpa using (congrArg List.length hL).symm
        have := (List.getElem?_eq_some_iff.1 h3).1
        omega
      have he : (es.eraseIdxIfInBounds j).toList = es.toList.eraseIdx j := by
        unfold Array.eraseIdxIfInBounds
        rw [dif_pos hjl, Array.toList_eraseIdx]
      rw [he, map_erase, hL, ← map_erase]
/-- an entry that is there, or is made: its value; the store into it -/
theorem GMap.entry (h : GMap f w b L) (ht : P.underlying t = some (.map kt et)) (hK : KLaw P kt f) {z : Value} (hz : (zeroValue et).run P w = .ok z w) (i : α) :
    ∃ (c : Nat) (w1 : World), (Instr.mapEntry t (.map (some b)) (f i)).run P w = .ok (.tuple #[(get L i).getD z, .int .i64 (c : Int)]) w1 ∧ w.grownBy w1 (some b) ∧ w1.heap.size = w.heap.size ∧ (∃ es clock, w1.heap[b]? = some (.map es clock)) ∧
      ∀ (w2 : World), w2.heap[b]? = w1.heap[b]? → ∀ v : Value, ∃ w3, (Instr.entryStore t (.map (some b)) (.int .i64 (c : Int)) v).run P w2 = .ok () w3 ∧ GMap f w3 b (put L i v) ∧ w2.grownBy w3 (some b) ∧ w3.heap.size = w2.heap.size := by
  obtain ⟨es, clock, hb, hst, hL, hf⟩ := h.find hK i
  have hn := h.1
  have hck := hK.check w false i
  have hgr : ∀ (w : World) (o : Obj), w.grownBy { w with heap := w.heap.setIfInBounds b o } (some b) := fun w o => ⟨rfl, rfl, rfl, by simp, fun j _ hj => by
    have : b ≠ j := fun e => hj (by rw [e])
    simp [this]⟩
  have hat : ∀ {w : World} {o' : Obj}, w.heap[b]? = some o' → ∀ o : Obj, ({ w with heap := w.heap.setIfInBounds b o } : World).heap[b]? = some o := fun hb o => (MapKept.heap_set hb).1
  rcases hf with ⟨hr, h2, hne⟩ | ⟨j, u, hr, h3, h2⟩
  · have hb1 := hat hb (.map (es.push { key := f i, val := z, born := clock }) (clock + 1))
    refine ⟨clock, { w with heap := w.heap.setIfInBounds b (.map (es.push { key := f i, val := z, born := clock }) (clock + 1)) }, ?_, hgr _ _, by simp, ⟨_, _, hb1⟩, fun w2 hw2 v => ?_⟩
    · simp [Instr.mapEntry, run_underlying ht, Result.andThen, MapKept.run_getObj_map hb, hck, hr, hz, MapKept.run_setObj_map _ hb, goInt, h2]
    · have hb2 := hw2.trans hb1
      have hidx : (es.push { key := f i, val := z, born := clock }).findIdx? (fun e => (e.born : Int) == (clock : Int)) = some es.size := by
        rw [Array.findIdx?_eq_some_iff_getElem]
        refine ⟨by simp, by simp, fun j hj => ?_⟩
        rw [Array.getElem_push_lt hj]
        have := hst.1 es[j] (by simp)
        simp
        omega
      refine ⟨{ w2 with heap := w2.heap.setIfInBounds b (.map (es.push { key := f i, val := v, born := clock }) (clock + 1)) }, ?_, ?_, hgr _ _, by simp⟩
      · have hmod : (es.push { key := f i, val := z, born := clock }).modify es.size (fun e => { key := e.key, val := v, born := e.born }) = es.push { key := f i, val := v, born := clock } := by
          apply Array.ext
          · simp
          · intro j h1 h2
            rw [Array.getElem_modify]
            by_cases hj : es.size = j
            · subst hj
              simp
            · rw [if_neg hj]
              have : j < es.size := by simp at h2; omega
              rw [Array.getElem_push_lt this, Array.getElem_push_lt this]
        simp [Instr.entryStore, Result.andThen, MapKept.run_getObj_map hb2, asInt, asIntOf, hidx, MapKept.run_setObj_map _ hb2, hmod]
      · have hp : put L i v = L ++ [(i, v)] := by unfold put; rw [has_get, h2]; rfl
        rw [hp]
        refine ⟨?_, _, _, hat hb2 _, stamped_push hst hne, by simp [hL]⟩
        rw [List.map_append, List.nodup_append]
        refine ⟨hn, by simp, ?_⟩
        intro x hx y hy e
        simp at hy
        subst hy e
        obtain ⟨y, hy, hyi⟩ := List.mem_map.1 hx
        exact get_none h2 y hy hyi
  · have hje : ∃ e, es[j]? = some e ∧ e.key = f i ∧ e.val = u := by
      have : (es.toList.map (fun e => (e.key, e.val)))[j]? = some (f i, u) := by rw [hL, List.getElem?_map, h3]; rfl
      rw [List.getElem?_map] at this
      cases he : es.toList[j]? with
      | none => rw [he] at this; cases this
      | some e =>
        rw [he] at this
        simp only [Option.map_some, Option.some.injEq, Prod.mk.injEq] at this
        exact ⟨e, by simpa using he, this.1, this.2⟩
    obtain ⟨e, hej, hek, hev⟩ := hje
    have hks := hK.stays w i
    have hsame : (es.modify j fun e => { e with key := f i }) = es := by
      apply Array.ext
      · simp
      · intro m h1 h2
        rw [Array.getElem_modify]
        by_cases hm : j = m
        · subst hm
          rw [if_pos rfl]
          have : es[j] = e := by have := Array.getElem?_eq_some_iff.1 hej; exact this.2
          rw [this, ← hek]
        · rw [if_neg hm]
    refine ⟨e.born, { w with heap := w.heap.setIfInBounds b (.map es clock) }, ?_, hgr _ _, by simp, ⟨_, _, hat hb _⟩, fun w2 hw2 v => ?_⟩
    · simp [Instr.mapEntry, run_underlying ht, Result.andThen, MapKept.run_getObj_map hb, hck, hr, hej, hek, hks, MapKept.run_setObj_map _ hb, goInt, h2, hsame]
    · have hb2 := hw2.trans (hat hb (.map es clock))
      have hidx : es.findIdx? (fun x => (x.born : Int) == (e.born : Int)) = some j := by
        have hjs := (Array.getElem?_eq_some_iff.1 hej)
        rw [Array.findIdx?_eq_some_iff_getElem]
        refine ⟨hjs.1, by rw [hjs.2]; simp, fun m hm => ?_⟩
        have hb3 := hst.2.1
        intro q
        have hms : m < es.size := by have := hjs.1; omega
        have e1 : (es[m]'hms).born = e.born := Int.ofNat_inj.1 (by simpa using q)
        have e2 : (es[j]'hjs.1).born = e.born := by rw [hjs.2]
        have hmj : m = j := by
          have hml : m < (es.toList.map (·.born)).length := by simpa using hms
          have hjl : j < (es.toList.map (·.born)).length := by simpa using hjs.1
          refine (List.getElem_inj (h₀ := hml) (h₁ := hjl) hb3).1 ?_
          simp [e1, e2]
        omega
      obtain ⟨w', hu1, hu2, hu3, hu4⟩ := GMap.update (P := P) (t := t) (kt := kt) (et := et) (w := w2) (b := b) (L := L) ⟨hn, es, clock, hb2, hst, hL⟩ ht hK i v
      have hck2 := hK.check w2 false i
      have hks2 := hK.stays w2 i
      refine ⟨{ w2 with heap := w2.heap.setIfInBounds b (.map (es.modify j fun e => { e with val := v }) clock) }, ?_, ?_, hgr _ _, by simp⟩
      · simp [Instr.entryStore, Result.andThen, MapKept.run_getObj_map hb2, asInt, asIntOf, hidx, MapKept.run_setObj_map _ hb2]
      · obtain ⟨es3, clock3, hb3, hst3, hL3, hf3⟩ := GMap.find (P := P) (kt := kt) (w := w2) (b := b) (L := L) ⟨hn, es, clock, hb2, hst, hL⟩ hK i
        have he3 : es3 = es ∧ clock3 = clock := by rw [hb2] at hb3; injection hb3 with hb3; injection hb3 with h1 h2; exact ⟨h1.symm, h2.symm⟩
        obtain ⟨rfl, rfl⟩ := he3
        rcases hf3 with ⟨_, q, _⟩ | ⟨j3, u3, hr3, h33, _⟩
        · rw [h2] at q; cases q
        · have hjj : j3 = j := by
            have hl3 := (List.getElem?_eq_some_iff.1 h33)
            have hl := (List.getElem?_eq_some_iff.1 h3)
            have e1 : (L.map (·.1))[j3]'(by simpa using hl3.1) = i := by simp; rw [hl3.2]
            have e2 : (L.map (·.1))[j]'(by simpa using hl.1) = i := by simp; rw [hl.2]
            exact (List.getElem_inj hn).1 (e1.trans e2.symm)
          subst hjj
          have hw' : w' = { w2 with heap := w2.heap.setIfInBounds b (.map (es3.modify j3 fun e => { e with key := f i, val := v }) clock3) } := by
            have : (Instr.mapUpdate t (.map (some b)) (f i) v).run P w2 = .ok () { w2 with heap := w2.heap.setIfInBounds b (.map (es3.modify j3 fun e => { e with key := f i, val := v }) clock3) } := by
              simp [Instr.mapUpdate, run_underlying ht, Result.andThen, MapKept.run_getObj_map hb2, hck2, hr3, hej, hek, hks2, MapKept.run_setObj_map _ hb2]
            rw [hu1] at this
            injection this
          rw [hw'] at hu2
          have hmm : (es3.modify j3 fun e => { e with key := f i, val := v }) = es3.modify j3 fun e => { e with val := v } := by
            apply Array.ext
            · simp
            · intro m h1 h2
              rw [Array.getElem_modify, Array.getElem_modify]
              by_cases hm : j3 = m
              · subst hm
                rw [if_pos rfl, if_pos rfl]
                obtain ⟨hj3, this⟩ := Array.getElem?_eq_some_iff.1 hej
                rw [this, ← hek]
              · rw [if_neg hm, if_neg hm]
          rw [hmm] at hu2
          exact hu2
end
end GM
end Go.Proofs.YtogagkgkmoppmaaGreatDoor
