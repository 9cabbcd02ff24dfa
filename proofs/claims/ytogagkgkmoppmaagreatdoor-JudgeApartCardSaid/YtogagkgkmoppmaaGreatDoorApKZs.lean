/-
  The judge of views: only what is named changes; rows of events beside it; names as keys.
  Conditions: those that each theorem names.
-/
import Derived.Test.YtogagkgkmoppmaaGreatDoorApI
import Derived.Test.YtogagkgkmoppmaaGreatDoorJuVZs
namespace Go.Proofs.YtogagkgkmoppmaaGreatDoor
set_option linter.unusedVariables false
set_option linter.unusedSimpArgs false
open Go.RowKit GM Go.Shelf
/-- a row of events that is held -/
def allPc (v : Value) (n : Nat) (xs : List Value) : Pc where
  blk := none
  ok := fun w => w.ownsRow 0 36 19 v n xs
  lt := fun w b h e => by cases e
  keep := fun w w' S h hk hs hq => own_keptS h hk fun b e hS => by
    obtain ⟨c, fz, hc⟩ := Lib.ownsRow_kind h b e
    exact (hq b hS _ _ _ hc).2 rfl
def JM.nd (M : JM) (z : Int) : JM := { M with named := z }
/-- a judge of which only what is named has changed -/
def JZ (wB : World) (g o : Nat) (l : List Ev) (R : List Pc) (n : Nat) (M : JM) (z : Int) (w : World) : Prop := ∃ t, JB wB g o l R n (M.nd z) t w
section
variable {wB w w' : World} {g o n : Nat} {l : List Ev} {R : List Pc} {M : JM} {z : Int}
theorem JZ.below (h : JZ wB g o l R n M z w) (hb : Below w.heap.size w w') : JZ wB g o l R n M z w' := by
  obtain ⟨t, h1⟩ := h
  exact ⟨t, h1.below hb⟩
theorem JZ.bel (h : JZ wB g o l R n M z w) : Below wB.heap.size wB w := by
  obtain ⟨t, h1⟩ := h
  exact h1.bel
theorem JZ.wr1 (h : JZ wB g o l R n M z w) (r : Int) (b : Bool) :
    Calls Tryz.prog 29 #[.pointer (some ⟨M.h.T, 0, none⟩), .int .i64 r, .bool b] w fun e w' => e = .returned (.tuple #[]) ∧ JZ wB g o l R n M (wrongZ r z b) w' := by
  obtain ⟨t, bd, h1, h2, h3⟩ := h
  refine (jwrong_any h1 r b).mono fun e w' ⟨h4, h5⟩ => ⟨h4, _, bd, ?_, ?_, rfl⟩
  · exact h5
  · exact h2.wr r b
theorem JZ.drop {Q : List Pc} (h : JZ wB g o l (Q ++ R) n M z w) : JZ wB g o l R n M z w := by
  obtain ⟨t, h1⟩ := h
  exact ⟨t, h1.drop⟩
theorem JZ.new (h : JZ wB g o l R n M z w) (q : Pc) (hb : Below w.heap.size w w') (hq : q.ok w') (hB : ∀ b, q.blk = some b → w.heap.size ≤ b) : JZ wB g o l (q :: R) n M z w' := by
  obtain ⟨t, h1⟩ := h
  exact ⟨t, h1.new q hb hq hB⟩
theorem JZ.perm {R' : List Pc} (h : JZ wB g o l R n M z w) (hp : R.Perm R') : JZ wB g o l R' n M z w := by
  obtain ⟨t, h1⟩ := h
  exact ⟨t, h1.perm hp⟩
theorem JZ.map {α β : Type} [DecidableEq α] {f : α → Value} {v : β → Value} {mb : Nat} {S S' : List (α × β)} (h : JZ wB g o l (mapPc f mb (vals v S) :: R) n M z w) (hg : GMap f w' mb (vals v S')) (hgr : w.grownBy w' (some mb)) : JZ wB g o l (mapPc f mb (vals v S') :: R) n M z w' := by
  obtain ⟨t, h1⟩ := h
  exact ⟨t, h1.map hg hgr⟩
theorem JZ.part (h : JZ wB g o l R n M z w) {p : Pc} (hp : p ∈ R) : p.ok w := by
  obtain ⟨t, h1⟩ := h
  exact h1.part hp
theorem JZ.trace (h : JZ wB g o l R n M z w) : M.h.ll = l.length ∧ (0 < l.length → M.h.la = some ⟨g, o, none⟩) ∧ (∀ y : Bel w, y.val.cell? ⟨M.h.T, 0, none⟩ = some (.slice M.h.la M.h.ll M.h.lc)) ∧ (∀ y : Bel w, y.val.cell? ⟨M.h.T, 1, none⟩ = some (.slice M.sa M.stays.length M.sc)) := by
  obtain ⟨t, h1⟩ := h
  exact h1.trace
theorem JZ.made {α β : Type} [DecidableEq α] (f : α → Value) (v : β → Value) (h : JZ wB g o l R n M z w) : JZ wB g o l (mapPc f w.heap.size (vals v ([] : List (α × β))) :: R) n M z (w.alloc (.map #[] 0)) := by
  obtain ⟨t, h1⟩ := h
  exact ⟨t, h1.made f v⟩
theorem JZ.var (h : JZ wB g o l R n M z w) (cs : Array Value) (ty : TypeId) (h1 : ty ≠ 28) (h2 : ty ≠ 36) : JZ wB g o l (varPc w.heap.size cs ty h1 h2 :: R) n M z (w.alloc (.cells cs ty)) := by
  obtain ⟨t, h3⟩ := h
  exact ⟨t, h3.var cs ty h1 h2⟩
end
def nameV (n : NameK) : Value := .agg #[.int .i64 n.1, .int .u32 (n.2 : Int)]
set_option maxRecDepth 100000 in
theorem nameCheckJ (w : World) (em : Bool) (n : Nat) (a b : Int) : (Instr.checkKey em (n + 1 + 1) 97 (.agg #[.int .i64 a, .int .u32 b])).run Tryz.prog w = .ok () w := by
  unfold Instr.checkKey
  simp [go_sem, Tryz.underlying97, i64Check, u32Check]
set_option maxRecDepth 100000 in
theorem upCheckJ (w : World) (em : Bool) (n : Nat) (a b c : Int) : (Instr.checkKey em (n + 1 + 1 + 1) 101 (.agg #[.int .i64 a, .int .u32 b, .int .u64 c])).run Tryz.prog w = .ok () w := by
  unfold Instr.checkKey
  simp [go_sem, Tryz.underlying101, u64Check, nameCheckJ]
set_option maxRecDepth 100000 in
theorem nameEqlJ (w : World) (a0 a1 b0 b1 : Int) : (Go.binOp .eql 97 (.agg #[.int .i64 a0, .int .u32 a1]) (.agg #[.int .i64 b0, .int .u32 b1])).run Tryz.prog w = .ok (.bool (a0 == b0 && a1 == b1)) w := by
  by_cases h0 : a0 = b0
  rotate_left
  · have d : (a0 == b0) = false := by simpa using h0
    rw [d]
    (try simp only [Bool.and_false, Bool.false_and])
    go_simp
  subst h0
  have e0 : (a0 == a0) = true := by simp
  by_cases h1 : a1 = b1
  rotate_left
  · have d : (a1 == b1) = false := by simpa using h1
    rw [d]
    (try simp only [Bool.and_false, Bool.false_and])
    go_simp
  subst h1
  have e1 : (a1 == a1) = true := by simp
  rw [e0, e1]
  (try simp only [Bool.and_self])
  go_simp
set_option maxRecDepth 100000 in
theorem upEqlJ (w : World) (a0 a1 a2 b0 b1 b2 : Int) : (Go.binOp .eql 101 (.agg #[.int .i64 a0, .int .u32 a1, .int .u64 a2]) (.agg #[.int .i64 b0, .int .u32 b1, .int .u64 b2])).run Tryz.prog w = .ok (.bool (a0 == b0 && a1 == b1 && a2 == b2)) w := by
  by_cases h0 : a0 = b0
  rotate_left
  · have d : (a0 == b0) = false := by simpa using h0
    rw [d]
    (try simp only [Bool.and_false, Bool.false_and])
    go_simp
  subst h0
  have e0 : (a0 == a0) = true := by simp
  by_cases h1 : a1 = b1
  rotate_left
  · have d : (a1 == b1) = false := by simpa using h1
    rw [d]
    (try simp only [Bool.and_false, Bool.false_and])
    go_simp
  subst h1
  have e1 : (a1 == a1) = true := by simp
  by_cases h2 : a2 = b2
  rotate_left
  · have d : (a2 == b2) = false := by simpa using h2
    rw [d]
    (try simp only [Bool.and_false, Bool.false_and])
    go_simp
  subst h2
  have e2 : (a2 == a2) = true := by simp
  rw [e0, e1, e2]
  (try simp only [Bool.and_self])
  go_simp
theorem nameLawJ : KLaw Tryz.prog 97 nameV := KLaw.asking Tryz.underlying97 (fun a b h => by
    obtain ⟨a1, a2⟩ := a
    obtain ⟨b1, b2⟩ := b
    simp [nameV] at h
    have h2 : a2 = b2 := by omega
    rw [h.1, h2]) (fun a => ⟨_, rfl⟩) (fun w em a => nameCheckJ w em 9998 _ _) (fun w a b => by
    have h := equal_of_eql (nameEqlJ w a.1 a.2 b.1 b.2)
    obtain ⟨a1, a2⟩ := a
    obtain ⟨b1, b2⟩ := b
    refine h.trans (congrArg (fun z => Result.ok z w) ?_)
    rw [Bool.eq_iff_iff]
    simp
    omega) (fun a => by simp [nameV, Instr.sameBits])
abbrev UpK := Int × Nat × Nat
def upV (n : UpK) : Value := .agg #[.int .i64 n.1, .int .u32 (n.2.1 : Int), .int .u64 (n.2.2 : Int)]
theorem upLawJ : KLaw Tryz.prog 101 upV := KLaw.asking Tryz.underlying101 (fun a b h => by
    obtain ⟨a1, a2, a3⟩ := a
    obtain ⟨b1, b2, b3⟩ := b
    simp [upV] at h
    have h2 : a2 = b2 := by omega
    have h3 : a3 = b3 := by omega
    rw [h.1, h2, h3]) (fun a => ⟨_, rfl⟩) (fun w em a => upCheckJ w em 9997 _ _ _) (fun w a b => by
    have h := equal_of_eql (upEqlJ w a.1 a.2.1 a.2.2 b.1 b.2.1 b.2.2)
    obtain ⟨a1, a2, a3⟩ := a
    obtain ⟨b1, b2, b3⟩ := b
    refine h.trans (congrArg (fun z => Result.ok z w) ?_)
    rw [Bool.eq_iff_iff]
    simp [and_assoc]
    omega) (fun a => by simp [upV, Instr.sameBits])
end Go.Proofs.YtogagkgkmoppmaaGreatDoor
namespace Go.Proofs.YtogagkgkmoppmaaGreatDoor
set_option linter.unusedVariables false
set_option linter.unusedSimpArgs false
open Go.RowKit GM
section
variable {wB w : World} {g o n : Nat} {l : List Ev} {R : List Pc} {M : JM} {z : Int}
theorem JZ.st (h : JZ wB g o l R n M z w) {x : JX} (hx : x ∈ M.stays) : w.heap[x.b]? = some (.cells (jsC g o x) 56 (0, 0)) := by
  obtain ⟨t, h1⟩ := h
  exact h1.st hx
theorem JZ.xok (h : JZ wB g o l R n M z w) {x : JX} (hx : x ∈ M.stays) : JXOk l M.stays n x := by
  obtain ⟨t, h1⟩ := h
  exact h1.xok hx
theorem JZ.cnt (h : JZ wB g o l R n M z w) : M.stays.length ≤ n := by
  obtain ⟨t, h1⟩ := h
  exact h1.cnt
theorem JZ.nth (h : JZ wB g o l R n M z w) {k : Nat} (hk : k < M.stays.length) : ∃ b, M.sa = some ⟨b, 0, none⟩ ∧ b < w.heap.size ∧ w.cell? ⟨b, k, none⟩ = some (ptrV M.stays[k].b) := by
  obtain ⟨t, h1⟩ := h
  exact h1.nth hk
theorem JZ.gots (h : JZ wB g o l R n M z w) {nm : Nat → List NameK} (hT : Tr wB g o l nm) (hn : n ≤ 1000000) {x : JX} (hx : x ∈ M.stays) : RdG w l x.ga x.s.gots := by
  obtain ⟨t, h1⟩ := h
  exact h1.gots hT hn hx
theorem JZ.cell (h : JZ wB g o l R n M z w) {x : JX} (hx : x ∈ M.stays) (i : Nat) {v : Value} (hv : (jsC g o x)[i]? = some v) : ∀ y : Bel w, y.val.cell? ⟨x.b, i, none⟩ = some v :=
  Bel.cell (cell_of_row _ _ i _ _ _ (h.st hx) |>.trans (by rw [← hv])) (Array.getElem?_eq_some_iff.1 (h.st hx)).1
end
/-- where it is so first; -1 -/
def idxB {α : Type} (q : α → Bool) (L : List α) : Int := match L.findIdx? q with
  | some i => (i : Int)
  | none => -1
theorem idxB_none {α : Type} {q : α → Bool} {L : List α} (h : ∀ i (hi : i < L.length), q L[i] = false) : idxB q L = -1 := by
  unfold idxB
  rw [List.findIdx?_eq_none_iff.2 (fun y hy => by obtain ⟨i, hi, rfl⟩ := List.getElem_of_mem hy; simpa using h i hi)]
theorem idxB_some {α : Type} {q : α → Bool} {L : List α} {k : Nat} (hk : k < L.length) (h1 : q L[k] = true) (h : ∀ i (hi : i < k), q (L[i]'(by omega)) = false) : idxB q L = (k : Int) := by
  unfold idxB
  have : L.findIdx? q = some k := by
    rw [List.findIdx?_eq_some_iff_getElem]
    exact ⟨hk, h1, fun j hj => by rw [h j hj]; exact Bool.noConfusion⟩
  rw [this]
theorem idxB_at {α : Type} (q : α → Bool) (L : List α) : (idxB q L = -1 ∧ L.find? q = none) ∨ ∃ k : Nat, ∃ hk : k < L.length, idxB q L = (k : Int) ∧ L.find? q = some L[k] := by
  unfold idxB
  cases h : L.findIdx? q with
  | none =>
    rw [List.findIdx?_eq_none_iff] at h
    exact .inl ⟨rfl, by rw [List.find?_eq_none]; intro y hy; rw [h y hy]; exact Bool.noConfusion⟩
  | some i =>
    rw [List.findIdx?_eq_some_iff_getElem] at h
    obtain ⟨hi, h1, h2⟩ := h
    exact .inr ⟨i, hi, rfl, by rw [List.find?_eq_some_iff_getElem]; exact ⟨h1, i, hi, rfl, fun j hj => by have := h2 j hj; simpa using this⟩⟩
def ownQ (p : Int) (n : NameK) : Bool := n.1 == p
set_option maxHeartbeats 8000000 in
theorem ownFn_any (n : NameK) (p : Int) (X sb : Nat) (w : World) (hX : w.cell? ⟨X, 0, none⟩ = some (ptrV sb)) (hp : w.cell? ⟨sb, 0, none⟩ = some (.int .i64 p)) :
    Calls Tryz.prog 70 #[.agg #[.int .i64 n.1, .int .u32 (n.2 : Int)], .pointer (some ⟨X, 0, none⟩)] w fun e w' => e = .returned (.bool (ownQ p n)) ∧ Below w.heap.size w w' := by
  obtain ⟨N, hN⟩ : ∃ N, N = w.heap.size := ⟨_, rfl⟩
  obtain ⟨W, hW⟩ : ∃ W, W = w.alloc (.cells #[.int .i64 n.1, .int .u32 (n.2 : Int)] 97) := ⟨_, rfl⟩
  have hb := ba (br w) (.cells #[.int .i64 n.1, .int .u32 (n.2 : Int)] 97)
  have hx := heap_alloc_new w (.cells #[.int .i64 n.1, .int .u32 (n.2 : Int)] 97)
  rw [← hW] at hb hx
  rw [← hN] at hx
  have x0 := Bel.cell (cell_of_row _ _ 0 _ _ _ hx : W.cell? ⟨N, 0, none⟩ = some (.int .i64 n.1)) (Array.getElem?_eq_some_iff.1 hx).1
  have b0 := Bel.cell ((hb.cell (cell_lt hX)).trans hX) (Nat.lt_of_lt_of_le (cell_lt hX) hb.size)
  have s0 := Bel.cell ((hb.cell (cell_lt hp)).trans hp) (Nat.lt_of_lt_of_le (cell_lt hp) hb.size)
  have HB := Lib.hid hb
  unfold ptrV at b0
  obtain ⟨q, hq⟩ : ∃ q, q = ownQ p n := ⟨_, rfl⟩
  rw [← hq]
  unfold ownQ at hq
  clear hX hp hb hx
  go_enter Tryz.func70, Tryz.ntmps70
  go_upto_region 1 with (fail)
  rw [← hW, ← hN]
  clear hW hN
  refine wp_region_bel (by kernel_rfl) (by kernel_rfl) ?_
  repeat (go_big_quiet_step ((fail)))
  refine wpQuiet_nil ?_
  intro w3 hw3
  have HE := Lib.hid (bt HB.out (bel_out hw3))
  clear hw3 x0 b0 s0
  go_wp2_with fail
  go_ret
  exact ⟨by rw [hq]; rfl, HE.out⟩
set_option maxHeartbeats 8000000 in
theorem idxOwn_any (p : Int) (L : List NameK) (ad : Option Addr) (cap X sb : Nat) (w : World) (hl : Reads w w.heap.size 2 ad L.length (namesV L)) (hlen : L.length ≤ 9223372036854775807) (hX : w.cell? ⟨X, 0, none⟩ = some (ptrV sb)) (hp : w.cell? ⟨sb, 0, none⟩ = some (.int .i64 p)) :
    Calls Tryz.prog 69 #[.slice ad L.length cap, .func (.func 70) #[] #[.pointer (some ⟨X, 0, none⟩)]] w fun e w' => e = .returned (.int .i64 (idxB (ownQ p) L)) ∧ Below w.heap.size w w' := by
  obtain ⟨r, hr⟩ : ∃ r, r = idxB (ownQ p) L := ⟨_, rfl⟩
  obtain ⟨n, hn⟩ : ∃ n, n = L.length := ⟨_, rfl⟩
  rw [← hr, ← hn]
  have hn9 : n ≤ 9223372036854775807 := by rw [hn]; exact hlen
  rw [← hn] at hl
  have HL := Lib.hid (And.intro (show ∀ W, Below w.heap.size w W → Reads W W.heap.size 2 ad n (namesV L) from fun W hb => reads_moreE (hl.below hb) hb.size) (And.intro hn hr))
  have HX := Lib.hid (And.intro hX hp)
  clear hl hn hr hX hp hlen
  go_enter Tryz.func69, Tryz.ntmps69
  go_wp2_with fail
  go_loopw [8] (fun i wr => ∃ k : Nat, k ≤ n ∧ i = .int .i64 (k : Int) ∧ Hid (∀ i (hi : i < L.length), i < k → ownQ p L[i] = false) ∧ Below w.heap.size w wr) (fun i _ => n - (intOf i).toNat)
  case atStart => exact ⟨0, by omega, rfl, fun i hi h => absurd h (by omega), br _⟩
  case round =>
    obtain ⟨k, hk, rfl, HT, hbr⟩ := hrel
    have HBW := Lib.hid hbr
    by_cases hlt : k < n
    · have hd : decide ((k : Int) < (n : Int)) = true := by simpa using hlt
      have hi1 : (k : Int) < (n : Int) := by omega
      have hkl : k < L.length := by rw [← HL.out.2.1]; exact hlt
      obtain ⟨gg, oo, rfl, hgl, y0, y1⟩ := names_cells (by rw [← HL.out.2.1]; exact HL.out.1 wr hbr) hkl
      obtain ⟨y, hy⟩ : ∃ y, y = L[k] := ⟨_, rfl⟩
      rw [← hy] at y0 y1
      have HS := Lib.hid (ownFn_any y p X sb wr ((hbr.cell (cell_lt HX.out.1)).trans HX.out.1) ((hbr.cell (cell_lt HX.out.2)).trans HX.out.2))
      have HG := Lib.hid hy
      clear hbr hgl hy
      generalize y.1 = n1 at *
      generalize (y.2 : Int) = n2 at *
      go_upto_region 4 with (fail)
      go_wp2_with fail
      cases hs : ownQ p y
      · rw [hs] at HS
        refine HS.out.mono ?_
        rintro e w1 ⟨rfl, hb1⟩
        have HE := Lib.hid (And.intro hlt (And.intro (show Hid (∀ i (hi : i < L.length), i < k + 1 → ownQ p L[i] = false) from fun i hi h => by
          by_cases hik : i = k
          · subst hik; rw [← HG.out]; exact hs
          · exact HT.out i hi (by omega)) (bt HBW.out hb1)))
        clear hb1 hs HS y0 y1
        go_wp2_with fail
        exact ⟨⟨k + 1, HE.out.1, by go_num, HE.out.2⟩, by have := HE.out.1; simp [intOf]; omega⟩
      · have hrk : r = (k : Int) := by rw [HL.out.2.2]; exact idxB_some hkl (by rw [← HG.out]; exact hs) (fun i hi => HT.out i (by omega) hi)
        rw [hs] at HS
        refine HS.out.mono ?_
        rintro e w1 ⟨rfl, hb1⟩
        have hb2 := bt HBW.out hb1
        clear hb1 hs HS y0 y1
        subst hrk
        go_wp2_with fail
        go_ret
        exact ⟨rfl, hb2⟩
    · have hd : decide ((k : Int) < (n : Int)) = false := by simpa using hlt
      have hrt : r = -1 := by
        rw [HL.out.2.2]
        exact idxB_none fun i hi => HT.out i hi (by have := HL.out.2.1; omega)
      subst hrt
      go_wp2_with fail
      go_ret
      exact ⟨rfl, HBW.out⟩
/-- a stay's name in its view -/
def ownJ (nm : Nat → List NameK) (s : JS) : NameK × Bool := match s.vw with
  | none => ((0, 0), false)
  | some e => match (nm e).find? (ownQ s.proc) with
    | none => ((0, 0), false)
    | some n => (n, true)
def nameC (n : NameK) : Value := .agg #[.int .i64 n.1, .int .u32 (n.2 : Int)]
end Go.Proofs.YtogagkgkmoppmaaGreatDoor
