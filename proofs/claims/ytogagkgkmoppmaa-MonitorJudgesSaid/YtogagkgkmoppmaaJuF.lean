/-
  The judge: a configuration is entered, up to the new stay's last store.
  Conditions: those that each theorem names.
-/
import Derived.Test.YtogagkgkmoppmaaJuE
namespace Go.Proofs.Ytogagkgkmoppmaa
set_option linter.unusedVariables false
set_option linter.unusedSimpArgs false
open Go.RowKit GM
/-- what has become of a judge while no stay comes or goes -/
def JMid (wB : World) (g o : Nat) (l : List Ev) (R : List Pc) (n : Nat) (M : JM) (t : J) (w' : World) : Prop :=
  ∃ M', At wB (jparts g o l M' ++ R) w' ∧ JOk g o l n M' ∧ projJ M' = t ∧ M'.h = M.h ∧ M'.stays.map (·.b) = M.stays.map (·.b) ∧ M'.sa = M.sa ∧ M'.sc = M.sc
theorem JMid.below {wB w w' : World} {g o n : Nat} {l : List Ev} {R : List Pc} {M : JM} {t : J} (h : JMid wB g o l R n M t w) (hb : Below w.heap.size w w') : JMid wB g o l R n M t w' := by
  obtain ⟨M', h1, h2⟩ := h
  exact ⟨M', h1.below hb, h2⟩
theorem JMid.bel {wB w : World} {g o n : Nat} {l : List Ev} {R : List Pc} {M : JM} {t : J} (h : JMid wB g o l R n M t w) : Below wB.heap.size wB w := by
  obtain ⟨M', h1, h2⟩ := h
  exact h1.bel
theorem JMid.brk {wB w : World} {g o n : Nat} {l : List Ev} {R : List Pc} {M : JM} {t : J} (h : JMid wB g o l R n M t w) (r : Int) :
    ∀ w1, Below w.heap.size w w1 → ∀ b : Bool, Calls Try.prog 45 #[.pointer (some ⟨M.h.T, 0, none⟩), .int .i64 r, .bool b] w1 fun e w' => e = .returned (.tuple #[]) ∧ JMid wB g o l R n M (t.br r b) w' := fun w1 hb b => by
  obtain ⟨M', h1, h2, h3, h4, h5, h6, h7⟩ := h
  rw [← h4]
  refine (jbreaks_any (h1.below hb) r b).mono ?_
  rintro e w' ⟨he, ha⟩
  obtain ⟨e1, e2, _, _, e5, e6⟩ := br_fix M' r b
  exact ⟨he, _, ha, h2.br r b, by rw [projJ_br, h3], e1.trans h4, by rw [e2]; exact h5, e5.trans h6, e6.trans h7⟩
theorem JMid.len {wB w : World} {g o n : Nat} {l : List Ev} {R : List Pc} {M : JM} {t : J} (h : JMid wB g o l R n M t w) : t.stays.length = M.stays.length := by
  obtain ⟨M', h1, h2, h3, h4, h5, _⟩ := h
  have := congrArg List.length h5
  rw [← h3]
  simpa [projJ] using this
/-- a stay as it stands -/
theorem JMid.stay {wB w : World} {g o n : Nat} {l : List Ev} {R : List Pc} {M : JM} {t : J} (h : JMid wB g o l R n M t w) {k : Nat} (hk : k < M.stays.length) :
    ∃ s, t.stays[k]? = some s ∧ ∃ x : JX, x.s = s ∧ x.b = M.stays[k].b ∧ JXOk l [] n { x with s := { x.s with bf := none }, pb := none } ∧ (w.heap[M.stays[k].b]? = some (.cells (jsC g o x) 109 (0, 0))) ∧
      (∃ b, M.sa = some ⟨b, 0, none⟩ ∧ b < w.heap.size ∧ w.cell? ⟨b, k, none⟩ = some (.pointer (some ⟨M.stays[k].b, 0, none⟩))) := by
  obtain ⟨M', h1, h2, h3, h4, h5, h6, h7⟩ := h
  have hl := congrArg List.length h5
  have hk' : k < M'.stays.length := by simp at hl; omega
  have hb : M'.stays[k].b = M.stays[k].b := by
    have e1 := congrArg (fun L => L[k]?) h5
    simp [hk, hk'] at e1
    exact e1
  have hx := h2.st _ (List.getElem_mem hk')
  obtain ⟨b, e1, e2, e3⟩ := jown_nth h1.own hk'
  refine ⟨M'.stays[k].s, by rw [← h3]; simp [projJ, hk'], M'.stays[k], rfl, hb, ⟨rfl, hx.tr, hx.nx, hx.vw, hx.rd, hx.gots, hx.ups, hx.gl, hx.ul⟩, by rw [← hb]; exact jown_st h1.own (List.getElem_mem hk'), b, by rw [← h6]; exact e1, e2, by rw [e3, hb]; rfl⟩
def newX (S : Nat) (x : Ev) (b : Option Nat) (pb : Option Nat) : JX := ⟨S, newJ x b, none, 0, none, 0, pb⟩
/-- a new stay -/
theorem new_stayJ {wB w : World} {g o : Nat} {l : List Ev} {L : List Pc} (h : At wB L w) (x : Ev) (b pb : Option Nat) : At wB (sP g o l (newX w.heap.size x b pb) ++ L) (w.alloc (.cells (jsC g o (newX w.heap.size x b pb)) 109)) := by
  have h1 := h.new (sUps l (newX w.heap.size x b pb)) (br w) ⟨rfl, .inl ⟨rfl, rfl⟩⟩ (fun b e => by cases e)
  have h2 := h1.new (sGots l (newX w.heap.size x b pb)) (br w) ⟨rfl, .inl ⟨rfl, rfl⟩⟩ (fun b e => by cases e)
  exact h2.new (sCells g o (newX w.heap.size x b pb)) (ba (br w) _) (heap_alloc_new w _) (fun b e => by injection e with e; exact Nat.le_of_eq e)
theorem live_lookJ {wB w : World} {g o : Nat} {l : List Ev} {M : JM} {R : List Pc} (h : Own w wB.heap.size (jparts g o l M ++ R)) (i : Int) : (Instr.lookup 51 (.map (some M.h.lb)) (.int .i64 i) false).run Try.prog w = .ok (.bool ((get M.live i).getD false)) w := by
  have := (jown_live h).lookup (P := Try.prog) Try.underlying51 intLaw (z := .bool false) (by kernel_rfl) i
  rw [get_vals] at this
  rw [this]
  cases get M.live i <;> rfl
theorem now_lookJ {wB w : World} {g o : Nat} {l : List Ev} {M : JM} {R : List Pc} (h : Own w wB.heap.size (jparts g o l M ++ R)) (i : Int) : (Instr.lookup 95 (.map (some M.h.nb)) (.int .i64 i) false).run Try.prog w = .ok (sV M (get M.now i)) w := by
  have := (jown_now h).lookup (P := Try.prog) Try.underlying95 intLaw (z := .pointer none) (by kernel_rfl) i
  rw [get_vals] at this
  rw [this]
  cases get M.now i <;> rfl
theorem now_ltJ {g o n : Nat} {l : List Ev} {M : JM} (h : JOk g o l n M) {i : Int} {k : Nat} (hk : get M.now i = some k) : k < M.stays.length := by
  unfold GM.get at hk
  cases hf : M.now.find? (fun x => decide (x.1 = i)) with
  | none => rw [hf] at hk; cases hk
  | some p =>
    rw [hf] at hk
    injection hk with hk
    rw [← hk]
    exact h.now p (List.mem_of_find?_eq_some hf)
def pbOf (M : JM) (b : Option Nat) : Option Nat := b.map fun k => (M.stays.map (·.b)).getD k 0
theorem sV_pb (M : JM) (b : Option Nat) : sV M b = .pointer ((pbOf M b).map fun b => ⟨b, 0, none⟩) := by cases b <;> rfl
theorem dups_snoc (x : Ev) (L : List JS) (s : JS) (t : J) : J.dups x (L ++ [s]) t = (J.dups x L t).br 1 (dupJ x s) := by simp [J.dups]
theorem dups_stays (x : Ev) : ∀ (L : List JS) (t : J), (J.dups x L t).stays = t.stays ∧ (J.dups x L t).now = t.now ∧ (J.dups x L t).live = t.live
  | [], t => ⟨rfl, rfl, rfl⟩
  | s :: L, t => by
    have h := dups_stays x L (t.br 1 (dupJ x s))
    obtain ⟨a1, a2, a3, _⟩ := t.br_stays 1 (dupJ x s)
    exact ⟨h.1.trans a1, h.2.1.trans a3, h.2.2.trans a2⟩
def nxX (x : JX) (i : Nat) : JX := { x with s := { x.s with nx := some i } }
/-- a stay went on -/
theorem JMid.nx {wB w : World} {g o n : Nat} {l : List Ev} {R : List Pc} {M : JM} {t : J} (h : JMid wB g o l R n M t w) {k : Nat} (hk : k < M.stays.length) {i : Nat} (hi : i < l.length) :
    ∃ s v, t.stays[k]? = some s ∧ w.cell? ⟨M.stays[k].b, 6, none⟩ = some v ∧ w.frozen? ⟨M.stays[k].b, 6, none⟩ = false ∧ JMid wB g o l R n M (t.setS k { s with nx := some i }) (w.setCell ⟨M.stays[k].b, 6, none⟩ (.pointer (some ⟨g, o + i * 19, none⟩))) := by
  obtain ⟨M', h1, h2, h3, h4, h5, h6, h7⟩ := h
  have hl := congrArg List.length h5
  have hk' : k < M'.stays.length := by simp at hl; omega
  have hb : M'.stays[k].b = M.stays[k].b := by
    have e1 := congrArg (fun L => L[k]?) h5
    simp [hk, hk'] at e1
    exact e1
  have hm := List.getElem_mem hk'
  have hst := jown_st h1.own hm
  have hx := h2.st _ hm
  refine ⟨M'.stays[k].s, _, by rw [← h3]; simp [projJ, hk'], by rw [← hb]; exact (cell_of_row _ _ 6 _ _ _ hst).trans rfl, by rw [← hb]; exact frozen_of_row _ _ _ _ _ hst, M'.setS k (nxX M'.stays[k] i), ?_, ?_, ?_, h4, ?_, h6, h7⟩
  · rw [← hb]
    exact jown_cell h1 hk' (x := nxX M'.stays[k] i) rfl rfl rfl (keptS w ⟨M'.stays[k].b, 6, none⟩ _) ((setCell_block hst 6 _).trans rfl)
  · exact h2.setS hk' rfl ⟨hx.bf, hx.tr, fun e he => by injection he with he; rw [← he]; exact hi, hx.vw, hx.rd, hx.gots, hx.ups, hx.gl, hx.ul⟩
  · rw [projJ_setS, h3]
    rfl
  · rw [← h5]
    show (M'.stays.set k (nxX M'.stays[k] i)).map (·.b) = _
    rw [List.map_set]
    apply List.ext_getElem
    · simp
    · intro j h1 h2
      rw [List.getElem_set]
      split
      · subst_vars; simp [nxX]
      · rfl
/-- a stay comes -/
def finJ (M : JM) (y : JX) (p : Int) (sa : Option Addr) (sc : Nat) : JM := { M with now := put M.now p M.stays.length, stays := M.stays ++ [y], sa := sa, sc := sc }
theorem nthJ_snoc (L : List JX) (y : JX) (A : List (Int × Nat)) (h : ∀ p ∈ A, p.2 < L.length) : vals (nthJ L) A = vals (nthJ (L ++ [y])) A := by
  unfold vals
  refine List.map_congr_left fun p hp => ?_
  have := h p hp
  unfold nthJ
  congr 2
  rw [List.map_append, List.getD_eq_getElem?_getD, List.getD_eq_getElem?_getD, List.getElem?_append_left (by simpa using this)]
theorem put_memJ {β : Type} {L : List (Int × β)} {i : Int} {v : β} {p : Int × β} (h : p ∈ put L i v) : p ∈ L ∨ p = (i, v) := by
  unfold GM.put at h
  split at h
  · obtain ⟨q, hq, e⟩ := List.mem_map.1 h
    split at e
    · exact .inr e.symm
    · exact .inl (e ▸ hq)
  · rcases List.mem_append.1 h with h | h
    · exact .inl h
    · exact .inr (List.mem_singleton.1 h)
def BfOk (L : List JX) (b pb : Option Nat) : Prop := match b with
  | none => pb = none
  | some j => ∃ y, L[j]? = some y ∧ pb = some y.b
theorem JOk.fin {g o n : Nat} {l : List Ev} {M : JM} (h : JOk g o l n M) (S : Nat) (x : Ev) (b pb : Option Nat) (hb : BfOk M.stays b pb) (sa : Option Addr) (sc : Nat) : JOk g o l (n + 1) (finJ M (newX S x b pb) x.proc sa sc) := by
  have hl : ∀ (y : JX) (m : Nat), JXOk l M.stays m y → JXOk l (M.stays ++ [newX S x b pb]) m y := fun y m hy => by
    refine ⟨?_, hy.tr, hy.nx, hy.vw, hy.rd, hy.gots, hy.ups, hy.gl, hy.ul⟩
    have hbf := hy.bf
    cases hj : y.s.bf with
    | none => rw [hj] at hbf; exact hbf
    | some j =>
      rw [hj] at hbf
      obtain ⟨z, hz, hp⟩ := hbf
      exact ⟨z, by rw [List.getElem?_append_left (List.getElem?_eq_some_iff.1 hz).1]; exact hz, hp⟩
  refine ⟨fun p hp => ?_, fun y hy => ?_, ?_, h.la, h.ll⟩
  · show p.2 < (M.stays ++ [newX S x b pb]).length
    rw [List.length_append, List.length_singleton]
    rcases put_memJ hp with hp | rfl
    · have := h.now p hp; omega
    · show M.stays.length < _; omega
  · rcases List.mem_append.1 hy with hy | hy
    · exact hl y _ ((h.st y hy).more (Nat.le_succ n))
    · rw [List.mem_singleton.1 hy]
      refine hl _ _ ⟨?_, fun e he => (by cases he), fun e he => (by cases he), fun e he => (by cases he), fun e he => (by cases he), fun p hp => (by cases hp), fun p hp => (by cases hp), Nat.zero_le _, Nat.zero_le _⟩
      cases b with
      | none => exact hb
      | some j => exact hb
  · show (M.stays ++ [newX S x b pb]).length ≤ n + 1
    rw [List.length_append, List.length_singleton]
    have := h.n
    omega
theorem projJ_fin (M : JM) (S : Nat) (x : Ev) (b pb : Option Nat) (sa : Option Addr) (sc : Nat) : projJ (finJ M (newX S x b pb) x.proc sa sc) = (projJ M).enter x b := by
  unfold projJ finJ J.enter
  simp [newX]
theorem jparts_fin (g o : Nat) (l : List Ev) (M : JM) (y : JX) (p : Int) (sa : Option Addr) (sc : Nat) (R : List Pc) :
    (((jparts g o l M ++ (sP g o l y ++ R)).set 4 (jNow (finJ M y p sa sc))).set 2 (jPtr (finJ M y p sa sc))).set 0 (jTr (finJ M y p sa sc)) = jparts g o l (finJ M y p sa sc) ++ R := by
  show jTr (finJ M y p sa sc) :: jBad M :: jPtr (finJ M y p sa sc) :: jLive M :: jNow (finJ M y p sa sc) :: (M.stays.flatMap (sP g o l) ++ (sP g o l y ++ R)) = _
  unfold jparts
  show _ = jTr (finJ M y p sa sc) :: jBad M :: jPtr (finJ M y p sa sc) :: jLive M :: jNow (finJ M y p sa sc) :: ((M.stays ++ [y]).flatMap (sP g o l) ++ R)
  simp
end Go.Proofs.Ytogagkgkmoppmaa
