/-
  A map with integer keys as a list of its entries, in the order in which they came: lookup, len, update, an entry's store, delete.
  Conditions: none; no program is named.
-/
import Derived.Below
import Derived.WalkKit
import Derived.Laws.Entries
import Derived.MapKept
import Derived.OwnWalk
import Derived.Deep.Draws
namespace Go.Proofs.Ytodlmboagbjcbaa
set_option linter.unusedVariables false
open Go Go.RowKit
open Go.MapKept (IsKey findNow_spec run_checkKey run_findKey run_setObj_map Stamped stamped_empty stamped_push stamped_modify stamped_erase)
namespace IM
/-- block b of w is a map whose keys are the integers of kind k, its entries L in the order in which they came -/
def IMap (w : World) (b : Nat) (k : IntKind) (L : List (Int × Value)) : Prop :=
  (L.map (·.1)).Nodup ∧ ∃ es clock, w.heap[b]? = some (.map es clock) ∧ Stamped es clock ∧ es.toList.map (fun e => (e.key, e.val)) = L.map (fun x => (Value.int k x.1, x.2))
def get (L : List (Int × Value)) (i : Int) : Option Value := (L.find? (fun x => x.1 == i)).map (·.2)
def has (L : List (Int × Value)) (i : Int) : Bool := (L.find? (fun x => x.1 == i)).isSome
def put (L : List (Int × Value)) (i : Int) (v : Value) : List (Int × Value) := if has L i = true then L.map (fun x => if x.1 == i then (i, v) else x) else L ++ [(i, v)]
def del (L : List (Int × Value)) (i : Int) : List (Int × Value) := L.filter (fun x => !(x.1 == i))
theorem has_get (L : List (Int × Value)) (i : Int) : has L i = (get L i).isSome := by unfold has get; simp
theorem IMap.lt {w : World} {b : Nat} {k : IntKind} {L : List (Int × Value)} (h : IMap w b k L) : b < w.heap.size := by
  obtain ⟨_, es, clock, hb, _⟩ := h
  exact (Array.getElem?_eq_some_iff.1 hb).1
theorem IMap.keep {w w' : World} {b : Nat} {k : IntKind} {L : List (Int × Value)} (h : IMap w b k L) (hb : w'.heap[b]? = w.heap[b]?) : IMap w' b k L := by
  obtain ⟨h0, es, clock, h1, h2⟩ := h
  exact ⟨h0, es, clock, hb.trans h1, h2⟩
theorem IMap.below {w w' : World} {b B : Nat} {k : IntKind} {L : List (Int × Value)} (h : IMap w b k L) (hb : Below B w w') (hB : b < B) : IMap w' b k L := h.keep (hb.block b hB)
theorem IMap.alloc {w : World} {b : Nat} {k : IntKind} {L : List (Int × Value)} (h : IMap w b k L) (o : Obj) : IMap (w.alloc o) b k L := h.keep (Below.heap_alloc _ _ _ h.lt)
theorem IMap.drew {w : World} {b : Nat} {k : IntKind} {L : List (Int × Value)} (h : IMap w b k L) : IMap w.drew b k L := h.keep rfl
theorem IMap.drewN {w : World} {b : Nat} {k : IntKind} {L : List (Int × Value)} (h : IMap w b k L) (n : Nat) : IMap (w.drewN n) b k L := h.keep rfl
theorem IMap.setCell {w : World} {b : Nat} {k : IntKind} {L : List (Int × Value)} (h : IMap w b k L) {a : Addr} (ha : a.block ≠ b) (u : Value) : IMap (w.setCell a u) b k L := h.keep (Below.heap_setCell _ _ _ _ (Ne.symm ha))
theorem IMap.made (w : World) (k : IntKind) : IMap (w.alloc (.map #[] 0)) w.heap.size k [] := ⟨List.nodup_nil, #[], 0, by simp [World.alloc, -World.alloc_eq], stamped_empty 0, rfl⟩

theorem find_none {L : List (Int × Value)} {i : Int} (h : ∀ x ∈ L, x.1 ≠ i) : L.find? (fun x => x.1 == i) = none := by
  rw [List.find?_eq_none]
  intro x hx
  simpa using h x hx
theorem find_some {L : List (Int × Value)} (hn : (L.map (·.1)).Nodup) {j : Nat} {i : Int} {v : Value} (h : L[j]? = some (i, v)) : L.find? (fun x => x.1 == i) = some (i, v) := by
  induction L generalizing j with
  | nil => simp at h
  | cons x L ih =>
    cases j with
    | zero =>
      simp at h
      subst h
      simp
    | succ j =>
      simp at h
      simp only [List.map_cons, List.nodup_cons] at hn
      have hm : i ∈ L.map (·.1) := by
        rw [List.mem_map]
        exact ⟨(i, v), List.mem_of_getElem? h, rfl⟩
      have hne : (x.1 == i) = false := by
        rw [beq_eq_false_iff_ne]
        intro e
        exact hn.1 (e ▸ hm)
      rw [List.find?_cons, hne]
      exact ih hn.2 h
/-- what the search for a key finds -/
theorem IMap.find {w : World} {b : Nat} {k : IntKind} {L : List (Int × Value)} (h : IMap w b k L) (i : Int) : ∃ es clock, w.heap[b]? = some (.map es clock) ∧ Stamped es clock ∧ es.toList.map (fun e => (e.key, e.val)) = L.map (fun x => (Value.int k x.1, x.2)) ∧
    ((Instr.findNow (.int k) (.int k i) es.toList 0 = some none ∧ get L i = none ∧ ∀ x ∈ es.toList, x.key ≠ .int k i) ∨ ∃ j v, Instr.findNow (.int k) (.int k i) es.toList 0 = some (some (j, v)) ∧ L[j]? = some (i, v) ∧ get L i = some v) := by
  obtain ⟨hn, es, clock, hb, hst, hL⟩ := h
  refine ⟨es, clock, hb, hst, hL, ?_⟩
  have hkeys : ∀ x ∈ es.toList, IsKey (.int k) x.key := by
    intro x hx
    have : (x.key, x.val) ∈ L.map (fun x => (Value.int k x.1, x.2)) := by rw [← hL]; exact List.mem_map.2 ⟨x, hx, rfl⟩
    obtain ⟨y, _, hy⟩ := List.mem_map.1 this
    have : x.key = Value.int k y.1 := by injection hy with h1 _; exact h1.symm
    rw [this]
    simp [IsKey]
  rcases findNow_spec (d := .int k) (k := .int k i) (by simp [IsKey]) es.toList 0 hkeys with ⟨h1, h2⟩ | ⟨j, e, h1, h2, h3⟩
  · refine .inl ⟨h1, ?_, h2⟩
    unfold get
    rw [find_none]
    · rfl
    · intro x hx e
      have : (Value.int k x.1, x.2) ∈ es.toList.map (fun e => (e.key, e.val)) := by rw [hL]; exact List.mem_map.2 ⟨x, hx, rfl⟩
      obtain ⟨y, hy, hyx⟩ := List.mem_map.1 this
      refine h2 y hy ?_
      injection hyx with h4 _
      rw [h4, e]
  · rw [Nat.zero_add] at h1
    have hj : (L.map (fun x => (Value.int k x.1, x.2)))[j]? = some (e.key, e.val) := by rw [← hL, List.getElem?_map, h2]; rfl
    rw [List.getElem?_map] at hj
    cases hx : L[j]? with
    | none => rw [hx] at hj; cases hj
    | some x =>
      rw [hx] at hj
      simp only [Option.map_some, Option.some.injEq, Prod.mk.injEq] at hj
      have h5 : x.1 = i := by
        have := hj.1.trans h3
        injection this
      refine .inr ⟨j, e.val, h1, ?_, ?_⟩
      · rw [← hj.2, ← h5]; exact hx
      · unfold get
        rw [find_some hn (j := j) (i := i) (v := e.val) (by rw [← hj.2, ← h5]; exact hx)]
        rfl
theorem map_erase {α β : Type} (f : α → β) : ∀ (l : List α) (j : Nat), (l.eraseIdx j).map f = (l.map f).eraseIdx j
  | [], j => by simp
  | x :: l, 0 => by simp
  | x :: l, j + 1 => by simp [map_erase f l j]
theorem get_none {L : List (Int × Value)} {i : Int} (h : get L i = none) : ∀ x ∈ L, x.1 ≠ i := by
  unfold get at h
  simp only [Option.map_eq_none_iff, List.find?_eq_none] at h
  intro x hx e
  exact h x hx (by simp [e])
theorem del_none {L : List (Int × Value)} {i : Int} (h : get L i = none) : del L i = L := by
  unfold del
  rw [List.filter_eq_self]
  intro x hx
  simpa using get_none h x hx
theorem del_at {L : List (Int × Value)} (hn : (L.map (·.1)).Nodup) {j : Nat} {i : Int} {v : Value} (h : L[j]? = some (i, v)) : del L i = L.eraseIdx j := by
  unfold del
  induction L generalizing j with
  | nil => simp at h
  | cons x L ih =>
    simp only [List.map_cons, List.nodup_cons] at hn
    cases j with
    | zero =>
      simp at h
      subst h
      simp only [List.eraseIdx_cons_zero]
      rw [List.filter_cons_of_neg (by simp), List.filter_eq_self]
      intro y hy
      have : y.1 ≠ i := fun e => hn.1 (e ▸ List.mem_map.2 ⟨y, hy, rfl⟩)
      simpa using this
    | succ j =>
      simp at h
      have hm : i ∈ L.map (·.1) := List.mem_map.2 ⟨(i, v), List.mem_of_getElem? h, rfl⟩
      have hne : x.1 ≠ i := fun e => hn.1 (e ▸ hm)
      rw [List.filter_cons_of_pos (by simpa using hne), List.eraseIdx_cons_succ, ih hn.2 h]
section
variable {P : Program} {w : World} {b : Nat} {k : IntKind} {L : List (Int × Value)} {t kt et : TypeId}
/-- v, ok := m[i] -/
theorem IMap.lookup_ok (h : IMap w b k L) (ht : P.underlying t = some (.map kt et)) (hk : P.underlying kt = some (.int k)) {z : Value} (hz : (zeroValue et).run P w = .ok z w) (i : Int) :
    (Instr.lookup t (.map (some b)) (.int k i) true).run P w = .ok (.tuple #[(get L i).getD z, .bool (has L i)]) w := by
  obtain ⟨es, clock, hb, _, _, hf⟩ := h.find i
  have hck := run_checkKey (P := P) (w := w) hk (k := .int k i) (by simp [IsKey]) es.isEmpty 9999
  rw [has_get]
  rcases hf with ⟨h1, h2, _⟩ | ⟨j, v, h1, _, h2⟩
  · have hr := run_findKey (P := P) (w := w) hk h1
    simp [Instr.lookup, run_underlying ht, Result.andThen, MapKept.run_getObj_map hb, hck, hr, hz, h2]
  · have hr := run_findKey (P := P) (w := w) hk h1
    simp [Instr.lookup, run_underlying ht, Result.andThen, MapKept.run_getObj_map hb, hck, hr, h2]
/-- m[i] -/
theorem IMap.lookup (h : IMap w b k L) (ht : P.underlying t = some (.map kt et)) (hk : P.underlying kt = some (.int k)) {z : Value} (hz : (zeroValue et).run P w = .ok z w) (i : Int) :
    (Instr.lookup t (.map (some b)) (.int k i) false).run P w = .ok ((get L i).getD z) w := by
  obtain ⟨es, clock, hb, _, _, hf⟩ := h.find i
  have hck := run_checkKey (P := P) (w := w) hk (k := .int k i) (by simp [IsKey]) es.isEmpty 9999
  rcases hf with ⟨h1, h2, _⟩ | ⟨j, v, h1, _, h2⟩
  · have hr := run_findKey (P := P) (w := w) hk h1
    simp [Instr.lookup, run_underlying ht, Result.andThen, MapKept.run_getObj_map hb, hck, hr, hz, h2]
  · have hr := run_findKey (P := P) (w := w) hk h1
    simp [Instr.lookup, run_underlying ht, Result.andThen, MapKept.run_getObj_map hb, hck, hr, h2]
theorem IMap.len (h : IMap w b k L) (ht : P.underlying t = some (.map kt et)) (ty : TypeId) : (Builtin.len_ #[t] ty #[.map (some b)]).run P w = .ok (.int .i64 L.length) w := by
  obtain ⟨_, es, clock, hb, _, hL⟩ := h
  have hl : es.size = L.length := by simpa using congrArg List.length hL
  simp [Builtin.len_, run_underlying ht, Result.andThen, MapKept.run_getObj_map hb, hl, goInt]
/-- m[i] = v -/
theorem IMap.update (h : IMap w b k L) (ht : P.underlying t = some (.map kt et)) (hk : P.underlying kt = some (.int k)) (i : Int) (v : Value) :
    ∃ w', (Instr.mapUpdate t (.map (some b)) (.int k i) v).run P w = .ok () w' ∧ IMap w' b k (put L i v) ∧ w.grownBy w' (some b) ∧ w'.heap.size = w.heap.size := by
  obtain ⟨es, clock, hb, hst, hL, hf⟩ := h.find i
  have hn := h.1
  have hck := run_checkKey (P := P) (w := w) hk (k := .int k i) (by simp [IsKey]) false 9999
  have hgr : ∀ o : Obj, w.grownBy { w with heap := w.heap.setIfInBounds b o } (some b) := fun o => ⟨rfl, rfl, rfl, by simp, fun j _ hj => by
    have : b ≠ j := fun e => hj (by rw [e])
    simp [this]⟩
  have hat : ∀ o : Obj, ({ w with heap := w.heap.setIfInBounds b o } : World).heap[b]? = some o := fun o => (MapKept.heap_set hb).1
  rcases hf with ⟨h1, h2, hne⟩ | ⟨j, u, h1, h3, h2⟩
  · have hr := run_findKey (P := P) (w := w) hk h1
    refine ⟨{ w with heap := w.heap.setIfInBounds b (.map (es.push { key := .int k i, val := v, born := clock }) (clock + 1)) }, ?_, ?_, hgr _, by simp⟩
    · simp [Instr.mapUpdate, run_underlying ht, Result.andThen, MapKept.run_getObj_map hb, hck, hr, run_setObj_map _ hb]
    · have hp : put L i v = L ++ [(i, v)] := by unfold put; rw [has_get, h2]; rfl
      rw [hp]
      refine ⟨?_, _, _, hat _, stamped_push hst hne, ?_⟩
      · rw [List.map_append, List.nodup_append]
        refine ⟨hn, by simp, ?_⟩
        intro x hx y hy e
        simp at hy
        subst hy e
        obtain ⟨z, hz, hzi⟩ := List.mem_map.1 hx
        have : get L z.1 ≠ none := by
          unfold get
          intro hh
          simp only [Option.map_eq_none_iff, List.find?_eq_none] at hh
          exact hh z hz (by simp)
        rw [hzi] at this
        exact this h2
      · simp [hL]
  · have hr := run_findKey (P := P) (w := w) hk h1
    have hje : ∃ e, es[j]? = some e ∧ e.key = .int k i := by
      have : (es.toList.map (fun e => (e.key, e.val)))[j]? = some (.int k i, u) := by rw [hL, List.getElem?_map, h3]; rfl
      rw [List.getElem?_map] at this
      cases he : es.toList[j]? with
      | none => rw [he] at this; cases this
      | some e =>
        rw [he] at this
        simp only [Option.map_some, Option.some.injEq, Prod.mk.injEq] at this
        exact ⟨e, by simpa using he, this.1⟩
    obtain ⟨e, hej, hek⟩ := hje
    refine ⟨{ w with heap := w.heap.setIfInBounds b (.map (es.modify j fun e => { e with key := .int k i, val := v }) clock) }, ?_, ?_, hgr _, by simp⟩
    · simp [Instr.mapUpdate, run_underlying ht, Result.andThen, MapKept.run_getObj_map hb, hck, hr, hej, hek, Instr.keyThatStays, Instr.sameBits, run_setObj_map _ hb]
    · have hp : put L i v = L.map (fun x => if x.1 == i then (i, v) else x) := by unfold put; rw [has_get, h2]; rfl
      rw [hp]
      have hkeys : (L.map (fun x => if x.1 == i then (i, v) else x)).map (·.1) = L.map (·.1) := by
        rw [List.map_map]
        apply List.map_congr_left
        intro x _
        by_cases hx : x.1 == i
        · simp [Function.comp, hx]; exact (beq_iff_eq.1 hx).symm
        · simp [Function.comp, hx]
      refine ⟨by rw [hkeys]; exact hn, _, _, hat _, stamped_modify hst j _ (fun _ _ => rfl) (fun e' _ he' => by rw [hej] at he'; injection he' with he'; rw [← he']; exact hek.symm), ?_⟩
      apply List.ext_getElem?
      intro m
      have hm : (es.toList.map (fun e => (e.key, e.val)))[m]? = (L.map (fun x => (Value.int k x.1, x.2)))[m]? := by rw [hL]
      simp only [List.getElem?_map, Array.toList_modify, List.getElem?_modify] at hm ⊢
      cases hLm : L[m]? with
      | none =>
        rw [hLm] at hm
        simp only [Option.map_none, Option.map_eq_none_iff] at hm
        simp [hm]
      | some x =>
        rw [hLm] at hm
        cases hem : es.toList[m]? with
        | none => rw [hem] at hm; cases hm
        | some y =>
          rw [hem] at hm
          simp only [Option.map_some, Option.some.injEq, Prod.mk.injEq] at hm
          by_cases hjm : j = m
          · subst hjm
            have : x = (i, u) := by rw [h3] at hLm; injection hLm with h; exact h.symm
            subst this
            simp
          · have hxi : (x.1 == i) = false := by
              rw [beq_eq_false_iff_ne]
              intro e
              have := find_some hn (j := m) (i := i) (v := x.2) (by rw [hLm, ← e])
              have h6 := find_some hn h3
              rw [h6] at this
              -- both places hold the key: the keys are apart
              have hjl : j < L.length := (List.getElem?_eq_some_iff.1 h3).1
              have hml : m < L.length := (List.getElem?_eq_some_iff.1 hLm).1
              have e1 : (L.map (·.1))[j]'(by simpa using hjl) = i := by simp; rw [(List.getElem?_eq_some_iff.1 h3).2]
              have e2 : (L.map (·.1))[m]'(by simpa using hml) = i := by simp; rw [(List.getElem?_eq_some_iff.1 hLm).2]; exact e
              exact hjm ((List.getElem_inj hn).1 (e1.trans e2.symm))
            have hxi' : ¬ x.1 = i := by simpa using hxi
            simp [hjm, hxi', hm.1, hm.2]
/-- delete(m, i) -/
theorem IMap.drop (h : IMap w b k L) (ht : P.underlying t = some (.map kt et)) (hk : P.underlying kt = some (.int k)) (ty : TypeId) (i : Int) :
    ∃ w', (Builtin.delete_ #[t, kt] ty #[.map (some b), .int k i]).run P w = .ok (.tuple #[]) w' ∧ IMap w' b k (del L i) ∧ w.grownBy w' (some b) ∧ w'.heap.size = w.heap.size := by
  obtain ⟨es, clock, hb, hst, hL, hf⟩ := h.find i
  have hn := h.1
  have hck := run_checkKey (P := P) (w := w) hk (k := .int k i) (by simp [IsKey]) es.isEmpty 9999
  have hgr : ∀ o : Obj, w.grownBy { w with heap := w.heap.setIfInBounds b o } (some b) := fun o => ⟨rfl, rfl, rfl, by simp, fun j _ hj => by
    have : b ≠ j := fun e => hj (by rw [e])
    simp [this]⟩
  have hat : ∀ o : Obj, ({ w with heap := w.heap.setIfInBounds b o } : World).heap[b]? = some o := fun o => (MapKept.heap_set hb).1
  rcases hf with ⟨h1, h2, hne⟩ | ⟨j, u, h1, h3, h2⟩
  · have hr := run_findKey (P := P) (w := w) hk h1
    refine ⟨{ w with heap := w.heap.setIfInBounds b (.map es clock) }, ?_, ?_, hgr _, by simp⟩
    · simp [Builtin.delete_, run_underlying ht, Result.andThen, MapKept.run_getObj_map hb, hck, hr, run_setObj_map _ hb]
    · rw [del_none h2]
      exact ⟨hn, _, _, hat _, hst, hL⟩
  · have hr := run_findKey (P := P) (w := w) hk h1
    refine ⟨{ w with heap := w.heap.setIfInBounds b (.map (es.eraseIdxIfInBounds j) clock) }, ?_, ?_, hgr _, by simp⟩
    · simp [Builtin.delete_, run_underlying ht, Result.andThen, MapKept.run_getObj_map hb, hck, hr, run_setObj_map _ hb]
    · rw [del_at hn h3]
      refine ⟨hn.sublist ((List.eraseIdx_sublist _ _).map _), _, _, hat _, stamped_erase hst j, ?_⟩
      have hjl : j < es.size := by
        have h5 : L.length = es.size := by simpa using (congrArg List.length hL).symm
        have := (List.getElem?_eq_some_iff.1 h3).1
        omega
      have he : (es.eraseIdxIfInBounds j).toList = es.toList.eraseIdx j := by
        unfold Array.eraseIdxIfInBounds
        rw [dif_pos hjl, Array.toList_eraseIdx]
      rw [he, map_erase, hL, ← map_erase]
/-- m[i] = v beside another store: the entry first, its value behind it; the key is new -/
theorem IMap.entry (h : IMap w b k L) (ht : P.underlying t = some (.map kt et)) (hk : P.underlying kt = some (.int k)) {z : Value} (hz : (zeroValue et).run P w = .ok z w) (i : Int) (hnew : get L i = none) :
    ∃ (c : Nat) (w1 : World), (Instr.mapEntry t (.map (some b)) (.int k i)).run P w = .ok (.tuple #[z, .int .i64 (c : Int)]) w1 ∧ w.grownBy w1 (some b) ∧ w1.heap.size = w.heap.size ∧
      ∀ v : Value, ∃ w2, (Instr.entryStore t (.map (some b)) (.int .i64 (c : Int)) v).run P w1 = .ok () w2 ∧ IMap w2 b k (L ++ [(i, v)]) ∧ w.grownBy w2 (some b) ∧ w2.heap.size = w.heap.size := by
  obtain ⟨es, clock, hb, hst, hL, hf⟩ := h.find i
  have hn := h.1
  have hck := run_checkKey (P := P) (w := w) hk (k := .int k i) (by simp [IsKey]) false 9999
  have hgr : ∀ o : Obj, w.grownBy { w with heap := w.heap.setIfInBounds b o } (some b) := fun o => ⟨rfl, rfl, rfl, by simp, fun j _ hj => by
    have : b ≠ j := fun e => hj (by rw [e])
    simp [this]⟩
  have hat : ∀ o : Obj, ({ w with heap := w.heap.setIfInBounds b o } : World).heap[b]? = some o := fun o => (MapKept.heap_set hb).1
  rcases hf with ⟨h1, h2, hne⟩ | ⟨j, u, h1, h3, h2⟩
  · have hr := run_findKey (P := P) (w := w) hk h1
    refine ⟨clock, { w with heap := w.heap.setIfInBounds b (.map (es.push { key := .int k i, val := z, born := clock }) (clock + 1)) }, ?_, hgr _, by simp, fun v => ?_⟩
    · simp [Instr.mapEntry, run_underlying ht, Result.andThen, MapKept.run_getObj_map hb, hck, hr, hz, run_setObj_map _ hb, goInt]
    · have hb1 := hat (.map (es.push { key := .int k i, val := z, born := clock }) (clock + 1))
      have hidx : (es.push { key := .int k i, val := z, born := clock }).findIdx? (fun e => (e.born : Int) == (clock : Int)) = some es.size := by
        rw [Array.findIdx?_eq_some_iff_getElem]
        refine ⟨by simp, by simp, fun j hj => ?_⟩
        rw [Array.getElem_push_lt hj]
        have := hst.1 es[j] (by simp)
        simp
        omega
      refine ⟨{ w with heap := w.heap.setIfInBounds b (.map (es.push { key := .int k i, val := v, born := clock }) (clock + 1)) }, ?_, ?_, hgr _, by simp⟩
      · have hmod : (es.push { key := .int k i, val := z, born := clock }).modify es.size (fun e => { key := e.key, val := v, born := e.born }) = es.push { key := .int k i, val := v, born := clock } := by
          apply Array.ext
          · simp
          · intro j h1 h2
            rw [Array.getElem_modify]
            by_cases hj : es.size = j
            · subst hj
              simp
            · rw [if_neg hj]
              have : j < es.size := by simp at h2; omega
              rw [Array.getElem_push_lt this, Array.getElem_push_lt this]
        simp [Instr.entryStore, Result.andThen, MapKept.run_getObj_map hb1, asInt, asIntOf, hidx, run_setObj_map _ hb1, hmod]
      · refine ⟨?_, _, _, hat _, stamped_push hst hne, by simp [hL]⟩
        rw [List.map_append, List.nodup_append]
        refine ⟨hn, by simp, ?_⟩
        intro x hx y hy e
        simp at hy
        subst hy e
        obtain ⟨y, hy, hyi⟩ := List.mem_map.1 hx
        exact get_none h2 y hy hyi
  · rw [hnew] at h2
    cases h2
end
end IM
end Go.Proofs.Ytodlmboagbjcbaa
