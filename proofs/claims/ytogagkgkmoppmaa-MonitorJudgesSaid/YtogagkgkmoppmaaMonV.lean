/-
  EvDeliver: deliver.
  Conditions: those that each theorem names.
-/
import Derived.Test.YtogagkgkmoppmaaMonS
import Derived.Deep.CutBlock
namespace Go.Proofs.Ytogagkgkmoppmaa
set_option linter.unusedVariables false
set_option linter.unusedSimpArgs false
open Go.RowKit GM
def hadK (x : Ev) : HadK := (x.proc, (x.ce : Int), x.cr, x.m.frm, (x.m.seq : Int))
/-- how many of some messages are one -/
def cntM (m : Msg) (l : List Msg) : Nat := (l.filter (sameM m)).length
theorem cntM_le (m : Msg) (l : List Msg) : cntM m l ≤ l.length := List.length_filter_le _ _
theorem cntM_take (m : Msg) (l : List Msg) (j : Nat) (h : j < l.length) : cntM m (l.take (j + 1)) = cntM m (l.take j) + if sameM m l[j] = true then 1 else 0 := by
  unfold cntM
  rw [List.take_succ_eq_append_getElem h, List.filter_append, List.length_append]
  by_cases hs : sameM m l[j] = true
  · simp [hs]
  · simp [hs]
theorem sends_look {w : World} {B b0 : Nat} {M : MM} {R : List Pc} (h : Own w b0 (parts B M ++ R)) (k : PlaceK) : (Instr.lookup 45 (.map (some M.c.sb)) (placeV k) false).run Try.prog w = .ok (slV (sentR M k)) w := by
  have := (own_sends h).lookup (P := Try.prog) Try.underlying45 placeLaw (z := .slice none 0 0) (by kernel_rfl) k
  rw [sent_val] at this
  exact this
theorem seen_look {w : World} {B b0 : Nat} {M : MM} {R : List Pc} (h : Own w b0 (parts B M ++ R)) (k : HadK) : (Instr.lookup 46 (.map (some M.c.hb)) (hadV k) false).run Try.prog w = .ok (.bool ((get M.seen k).getD false)) w := by
  have := (own_seen h).lookup (P := Try.prog) Try.underlying46 hadLaw (z := .bool false) (by kernel_rfl) k
  rw [get_vals] at this
  rw [this]
  cases get M.seen k <;> rfl
def MM.saw (M : MM) (x : Ev) : MM := { M with seen := put M.seen (hadK x) true }
/-- where a stay's next messages go -/
def pnext (s : PS) : ConfK := match s.tr with
  | none => (0, 0)
  | some t => t.1
def pmem (s : PS) : Nat := match s.tr with
  | none => s.mem
  | some t => t.2
def dlv0 (P : PM) (x : Ev) : PM := { P with broken := brk 3 (brk 2 P.broken ((cntM (bare x.m) (P.sends (place x)) : Int) != 1)) (P.seen (hadK x)), seen := fun h => if h = hadK x then true else P.seen h }
theorem conf_set {w0 w : World} {N : Nat} {a b c d : Value} (h : w.heap[N]? = some (.cells #[a, b] 30 (0, 0))) (hb : Below w0.heap.size w0 w) (hN : w0.heap.size ≤ N) :
    ((w.setCell ⟨N, 0, none⟩ c).setCell ⟨N, 1, none⟩ d).heap[N]? = some (.cells #[c, d] 30 (0, 0)) ∧ Below w0.heap.size w0 ((w.setCell ⟨N, 0, none⟩ c).setCell ⟨N, 1, none⟩ d) := by
  have h1 := setCell_block h 0 c
  have h2 := setCell_block h1 1 d
  exact ⟨h2, bs (bs hb (p := ⟨N, 0, none⟩) hN _) (p := ⟨N, 1, none⟩) hN _⟩
/-- the variable of the next configuration -/
def nxPc (N : Nat) (c : ConfK) : Pc := varPc N #[.int .u64 c.1, .int .i64 c.2] 30 (by decide) (by decide)
theorem now_nx {w w9 w' : World} {B b0 N : Nat} {M : MM} {R : List Pc} {c : ConfK} (h : Now w B b0 M R w9) (hb : Below w9.heap.size w9 w') (hc : w'.heap[N]? = some (.cells #[.int .u64 c.1, .int .i64 c.2] 30 (0, 0))) (hN : w9.heap.size ≤ N) : Now w B b0 M (nxPc N c :: R) w' :=
  ⟨(own_new (nxPc N c) h.own h.low hb hc (fun b e => by injection e with e; omega)).mid1, h.kept.trans (Kept.of_below hb), Nat.le_trans h.low hb.size⟩
theorem nx_set {w w9 : World} {B b0 N : Nat} {M : MM} {R : List Pc} {c : ConfK} (h : Now w B b0 M (nxPc N c :: R) w9) (c' : ConfK) : Now w B b0 M (nxPc N c' :: R) ((w9.setCell ⟨N, 0, none⟩ (.int .u64 c'.1)).setCell ⟨N, 1, none⟩ (.int .i64 c'.2)) := by
  have hN : w9.heap[N]? = some (.cells #[.int .u64 c.1, .int .i64 c.2] 30 (0, 0)) := own_r h.own (p := nxPc N c) (by simp)
  have hk := (keptS w9 ⟨N, 0, none⟩ (.int .u64 c'.1)).trans (keptS (w9.setCell ⟨N, 0, none⟩ (.int .u64 c'.1)) ⟨N, 1, none⟩ (.int .i64 c'.2))
  have h1 := own_at (w' := (w9.setCell ⟨N, 0, none⟩ (.int .u64 c'.1)).setCell ⟨N, 1, none⟩ (.int .i64 c'.2)) 0 (nxPc N c') (l := nxPc N c :: (parts B M ++ R)) (h.own.perm List.perm_middle) h.low (p := nxPc N c) rfl (hk.more fun k _ e => by rw [e]; rfl) (setCell_block (setCell_block hN 0 _) 1 _) (fun b e => .inl e)
  exact h.next (Own.mid1 h1.1) h1.2
def lastZ (al : List Msg) (x : Ev) (z : Int) : Int := match al.getLast? with
  | none => z
  | some y => brk 3 z (decide (0 ≤ keyZ (y.stamp : Int) y.frm (x.m.stamp : Int) x.m.frm))
/-- what of its own must have come first -/
def depZ (cnt : Int → Int) (ds : List Nat) (j : Nat) (z : Int) : Int := (List.range j).foldl (fun (z : Int) (q : Nat) => brk 4 z (decide (cnt (q : Int) < (ds.getD q 0 : Int)))) z
theorem depZ_step (cnt : Int → Int) (ds : List Nat) (j : Nat) (z : Int) : depZ cnt ds (j + 1) z = brk 4 (depZ cnt ds j z) (decide (cnt (j : Int) < (ds.getD j 0 : Int))) := by
  unfold depZ
  rw [List.range_succ, List.foldl_append]
  rfl
theorem cnt_look {w : World} {B b0 : Nat} {M : MM} {R : List Pc} (h : Own w b0 (parts B M ++ R)) {x : SX} (hx : x ∈ M.stays) (i : Int) : (Instr.lookup 63 (.map (some x.s.cb)) (.int .i64 i) false).run Try.prog w = .ok (.int .i64 ((get x.cnt i).getD 0)) w := by
  have := (own_cnt h hx).lookup (P := Try.prog) Try.underlying63 intLaw (z := .int .i64 0) (by kernel_rfl) i
  rw [get_vals] at this
  rw [this]
  cases get x.cnt i <;> rfl
def counted (x : SX) (i : Int) : SX := { x with cnt := put x.cnt i ((get x.cnt i).getD 0 + 1) }
theorem own_count {w w' : World} {B b0 k : Nat} {M : MM} {R : List Pc} (h : Own w b0 (parts B M ++ R)) (hb0 : b0 ≤ w.heap.size) (hk : k < M.stays.length) (i : Int)
    (hg : GMap intV w' M.stays[k].s.cb (vals intV (counted M.stays[k] i).cnt)) (hgr : w.grownBy w' (some M.stays[k].s.cb)) :
    Own w' b0 (parts B (M.setS k (counted M.stays[k] i)) ++ R) ∧ Kept (fun k => b0 ≤ k) w w' := by
  obtain ⟨R', h1, h2⟩ := perm_set M B k hk (counted M.stays[k] i) rfl R
  have := own_at 1 (mapPc intV M.stays[k].s.cb (vals intV (counted M.stays[k] i).cnt)) (h.perm h1) hb0 (p := mapPc intV M.stays[k].s.cb (vals intV M.stays[k].cnt)) rfl ((Kept.of_grown hgr).more (fun k _ e => by rw [e]; rfl)) hg (fun b e => .inl e)
  exact ⟨this.1.perm h2, this.2⟩
/-- what those owe that went on -/
def pastB (c : ConfK) (b : PS) : Bool := decide (b.conf = c) && b.went
def pastZ1 (c : ConfK) (m : Msg) (mem : Nat) (z : Int) (b : PS) : Int := if pastB c b = true then oweZ b.proc (b.p0 ++ b.p1) mem [m] z else z
def pastZ (c : ConfK) (m : Msg) (mem : Nat) (l : List PS) (z : Int) : Int := l.foldl (pastZ1 c m mem) z
def gotP (s : PS) (m : Msg) : PS := if s.tr.isSome = true then { s with cnt := fun i => if i = m.frm then s.cnt m.frm + 1 else s.cnt i, p1 := s.p1 ++ [bare m] } else { s with cnt := fun i => if i = m.frm then s.cnt m.frm + 1 else s.cnt i, p0 := s.p0 ++ [bare m] }
def dlvZ (s : PS) (x : Ev) (z : Int) : Int := depZ s.cnt x.m.ds x.m.ds.length (lastZ (s.p0 ++ s.p1) x (brk 2 z (!((x.ne : Int) == (pnext s).1 && x.nr == (pnext s).2))))
def pdeliver (P : PM) (x : Ev) : PM := match pstay (dlv0 P x) x with
  | none => (dlv0 P x).br 1 true
  | some k => match (dlv0 P x).stays[k]? with
    | none => dlv0 P x
    | some s => { dlv0 P x with stays := (dlv0 P x).stays.set k (gotP s x.m), broken := pastZ s.conf (bare x.m) (pmem s) ((dlv0 P x).stays.set k (gotP s x.m)) (dlvZ s x (dlv0 P x).broken) }
theorem lastZ_bare (l : List Msg) (x : Ev) (z : Int) : lastZ (l.map bare) x z = lastZ l x z := by
  unfold lastZ
  rw [List.getLast?_map]
  cases l.getLast? <;> rfl
def got0 (x : SX) (m : Msg) (ad : Option Addr) (cap : Nat) : SX := { x with s := { x.s with p0 := x.s.p0 ++ [m], a0 := ad, c0 := cap } }
def got1 (x : SX) (m : Msg) (ad : Option Addr) (cap : Nat) : SX := { x with s := { x.s with p1 := x.s.p1 ++ [m], a1 := ad, c1 := cap } }
theorem own_got0 {w w11 : World} {B b0 k : Nat} {M : MM} {R : List Pc} (h : Own w b0 (parts B M ++ R)) (hb0 : b0 ≤ w.heap.size) (hk : k < M.stays.length) (m : Msg) (ad : Option Addr) (cap : Nat)
    (hrow : RowOk w11 ⟨M.stays[k].s.p0 ++ [m], ad, cap⟩) (hK : Kept (fun b => (rowPc (r0 M.stays[k])).blk = some b) w w11)
    (hB : ∀ b, (rowPc ⟨M.stays[k].s.p0 ++ [m], ad, cap⟩).blk = some b → (rowPc (r0 M.stays[k])).blk = some b ∨ w.heap.size ≤ b) :
    StAt w11 M.stays[k].b M.stays[k].s ∧ Own (w11.setCell ⟨M.stays[k].b, 4, none⟩ (.slice ad (M.stays[k].s.p0 ++ [m]).length cap)) b0 (parts B (M.setS k (got0 M.stays[k] m ad cap)) ++ R) ∧
      Kept (fun k => b0 ≤ k) w (w11.setCell ⟨M.stays[k].b, 4, none⟩ (.slice ad (M.stays[k].s.p0 ++ [m]).length cap)) := by
  obtain ⟨R', h1, h2⟩ := perm_set M B k hk (got0 M.stays[k] m ad cap) rfl R
  have o1 := own_at 2 (rowPc ⟨M.stays[k].s.p0 ++ [m], ad, cap⟩) (h.perm h1) hb0 (p := rowPc (r0 M.stays[k])) rfl hK hrow hB
  have hst : (stayPc M.stays[k].b M.stays[k].s M.stays[k].ev).ok w11 := o1.1.ok _ (List.mem_of_getElem? (i := 0) rfl)
  have hKs := keptS w11 ⟨M.stays[k].b, 4, none⟩ (.slice ad (M.stays[k].s.p0 ++ [m]).length cap)
  have o2 := own_at 0 (stayPc (got0 M.stays[k] m ad cap).b (got0 M.stays[k] m ad cap).s (got0 M.stays[k] m ad cap).ev) o1.1 (Nat.le_trans hb0 o1.2.size) (p := stayPc M.stays[k].b M.stays[k].s M.stays[k].ev) rfl (hKs.more fun k _ e => by rw [e]; rfl) ⟨setCell_block hst.1 4 _, fun b' hb' => by
    have he := hst.2 b' hb'
    refine hKs.keep he ?_
    rintro rfl
    have h3 := hst.1
    unfold EvAt at he
    unfold StAt at h3
    simp only at he
    rw [h3] at he
    injection he with he
    injection he with _ he _
    exact absurd he (by decide)⟩ (fun b e => .inl e)
  exact ⟨hst.1, o2.1.perm h2, o1.2.trans o2.2⟩
theorem own_got1 {w w11 : World} {B b0 k : Nat} {M : MM} {R : List Pc} (h : Own w b0 (parts B M ++ R)) (hb0 : b0 ≤ w.heap.size) (hk : k < M.stays.length) (m : Msg) (ad : Option Addr) (cap : Nat)
    (hrow : RowOk w11 ⟨M.stays[k].s.p1 ++ [m], ad, cap⟩) (hK : Kept (fun b => (rowPc (r1 M.stays[k])).blk = some b) w w11)
    (hB : ∀ b, (rowPc ⟨M.stays[k].s.p1 ++ [m], ad, cap⟩).blk = some b → (rowPc (r1 M.stays[k])).blk = some b ∨ w.heap.size ≤ b) :
    StAt w11 M.stays[k].b M.stays[k].s ∧ Own (w11.setCell ⟨M.stays[k].b, 5, none⟩ (.slice ad (M.stays[k].s.p1 ++ [m]).length cap)) b0 (parts B (M.setS k (got1 M.stays[k] m ad cap)) ++ R) ∧
      Kept (fun k => b0 ≤ k) w (w11.setCell ⟨M.stays[k].b, 5, none⟩ (.slice ad (M.stays[k].s.p1 ++ [m]).length cap)) := by
  obtain ⟨R', h1, h2⟩ := perm_set M B k hk (got1 M.stays[k] m ad cap) rfl R
  have o1 := own_at 3 (rowPc ⟨M.stays[k].s.p1 ++ [m], ad, cap⟩) (h.perm h1) hb0 (p := rowPc (r1 M.stays[k])) rfl hK hrow hB
  have hst : (stayPc M.stays[k].b M.stays[k].s M.stays[k].ev).ok w11 := o1.1.ok _ (List.mem_of_getElem? (i := 0) rfl)
  have hKs := keptS w11 ⟨M.stays[k].b, 5, none⟩ (.slice ad (M.stays[k].s.p1 ++ [m]).length cap)
  have o2 := own_at 0 (stayPc (got1 M.stays[k] m ad cap).b (got1 M.stays[k] m ad cap).s (got1 M.stays[k] m ad cap).ev) o1.1 (Nat.le_trans hb0 o1.2.size) (p := stayPc M.stays[k].b M.stays[k].s M.stays[k].ev) rfl (hKs.more fun k _ e => by rw [e]; rfl) ⟨setCell_block hst.1 5 _, fun b' hb' => by
    have he := hst.2 b' hb'
    refine hKs.keep he ?_
    rintro rfl
    have h3 := hst.1
    unfold EvAt at he
    unfold StAt at h3
    simp only at he
    rw [h3] at he
    injection he with he
    injection he with _ he _
    exact absurd he (by decide)⟩ (fun b e => .inl e)
  exact ⟨hst.1, o2.1.perm h2, o1.2.trans o2.2⟩
def gotS (o : SX) (m : Msg) (ad : Option Addr) (cap : Nat) : SX := if o.s.tr.isSome = true then got1 (counted o m.frm) m ad cap else got0 (counted o m.frm) m ad cap
theorem gotS_proj (o : SX) (m : Msg) (ad : Option Addr) (cap : Nat) : projS (gotS o m ad cap) = gotP (projS o) m := by
  have hc : (fun i => (get (put o.cnt m.frm ((get o.cnt m.frm).getD 0 + 1)) i).getD 0) = fun i => if i = m.frm then (get o.cnt m.frm).getD 0 + 1 else (get o.cnt i).getD 0 := by
    funext i
    rw [get_put]
    split <;> rfl
  unfold gotS gotP
  rw [tr_isSome]
  cases h : o.s.tr.isSome with
  | false =>
    simp only [Bool.false_eq_true, if_false]
    unfold projS got0 counted trOf
    simp only [hc, List.map_append, List.map_cons, List.map_nil]
  | true =>
    simp only [if_true]
    unfold projS got1 counted trOf
    simp only [hc, List.map_append, List.map_cons, List.map_nil]
theorem gotS_keep (o : SX) (m : Msg) (ad : Option Addr) (cap : Nat) : (gotS o m ad cap).b = o.b ∧ (gotS o m ad cap).s.ce = o.s.ce ∧ (gotS o m ad cap).s.cr = o.s.cr := by
  unfold gotS
  split
  · exact ⟨rfl, rfl, rfl⟩
  · exact ⟨rfl, rfl, rfl⟩
theorem gotS_sz {n : Nat} {o : SX} (h1 : o.s.p0.length ≤ n ∧ o.s.p1.length ≤ n) (h2 : ∀ i, 0 ≤ (get o.cnt i).getD 0 ∧ (get o.cnt i).getD 0 ≤ n) (m : Msg) (ad : Option Addr) (cap : Nat) :
    ((gotS o m ad cap).s.p0.length ≤ n + 1 ∧ (gotS o m ad cap).s.p1.length ≤ n + 1) ∧ ∀ i, 0 ≤ (get (gotS o m ad cap).cnt i).getD 0 ∧ (get (gotS o m ad cap).cnt i).getD 0 ≤ ((n + 1 : Nat) : Int) := by
  have hc : ∀ i, 0 ≤ (get (put o.cnt m.frm ((get o.cnt m.frm).getD 0 + 1)) i).getD 0 ∧ (get (put o.cnt m.frm ((get o.cnt m.frm).getD 0 + 1)) i).getD 0 ≤ ((n + 1 : Nat) : Int) := fun i => by
    rw [get_put]
    have a := h2 m.frm
    have b := h2 i
    split
    · simp only [Option.getD_some]
      omega
    · omega
  unfold gotS
  split
  · refine ⟨⟨by show o.s.p0.length ≤ n + 1; omega, by show (o.s.p1 ++ [m]).length ≤ n + 1; simp; omega⟩, hc⟩
  · refine ⟨⟨by show (o.s.p0 ++ [m]).length ≤ n + 1; simp; omega, by show o.s.p1.length ≤ n + 1; omega⟩, hc⟩
set_option maxRecDepth 100000 in
set_option maxHeartbeats 16000000 in
theorem deliver_any (w : World) (B b0 n : Nat) (M : MM) (R : List Pc) (hO : Own w b0 (parts B M ++ R)) (hM : MOk M) (hb0 : b0 ≤ w.heap.size) (hS : Sz n M) (hn : n ≤ 9999) (x : Ev) (hm : MsgT w x.m) (hds : ∀ q ∈ x.m.ds, q < 4294967296) :
    Calls Try.prog 18 #[.pointer (some ⟨B, 0, none⟩), .agg (evA x)] w fun e w' => e = .returned (.tuple #[]) ∧ Res w B b0 R (pdeliver (proj M) x) (n + 1) w' := by
  obtain ⟨w1, hw1⟩ : ∃ w1, w1 = w.alloc (.cells (evA x) 39) := ⟨_, rfl⟩
  have hb1 : Below w.heap.size w w1 := by rw [hw1]; exact ba (br w) _
  have hx1 : w1.heap[w.heap.size]? = some (.cells (evA x) 39 (0, 0)) := by rw [hw1]; exact heap_alloc_new w _
  obtain ⟨X, hX⟩ : ∃ X, X = w.heap.size := ⟨_, rfl⟩
  rw [← hX] at hx1
  have N1 : Now w B b0 M (evPc X x :: msgPc x.m :: R) w1 := by
    refine ⟨?_, .of_below hb1, Nat.le_trans hb0 hb1.size⟩
    have h1 := (own_new (msgPc x.m) hO hb0 hb1 (hm.below hb1) (fun _ h => by cases h)).mid1
    exact (own_new (evPc X x) h1 (Nat.le_trans hb0 hb1.size) (br _) hx1 (fun _ h => by cases h)).mid1
  have H1 := Lib.hid N1
  have e2 : w1.cell? ⟨X, 2, none⟩ = some (.int .u64 (x.ce : Int)) := cell_of_row _ _ 2 _ _ _ hx1
  have e3 : w1.cell? ⟨X, 3, none⟩ = some (.int .i64 x.cr) := cell_of_row _ _ 3 _ _ _ hx1
  have e7 : w1.cell? ⟨X, 7, none⟩ = some (.int .i64 x.m.frm) := cell_of_row _ _ 7 _ _ _ hx1
  have e8 : w1.cell? ⟨X, 8, none⟩ = some (.int .u32 (x.m.seq : Int)) := cell_of_row _ _ 8 _ _ _ hx1
  obtain ⟨cx, hcx⟩ : ∃ cx, cx = evA x := ⟨_, rfl⟩
  have z1 : cx.all (·.oneCell') = true := by rw [hcx]; simp [evA, Value.oneCell']
  have z2 : cx.size = 19 := by rw [hcx]; rfl
  rw [← hcx] at hw1 ⊢
  have HCX := Lib.hid hcx
  have HSZ := Lib.hid (And.intro hM (And.intro hS (And.intro hn hds)))
  clear hcx N1 hO hb0 hb1 hx1 hm hM hS hn hds
  go_enter Try.func18, Try.ntmps18
  go_upto_region 1 with (fail)
  rw [← hw1, ← hX]
  clear hw1 hX z1 z2
  go_upto_region 3 with (fail)
  obtain ⟨w2, hw2⟩ : ∃ w2, w2 = w1.alloc (.cells #[.int .u64 (x.ce : Int), .int .i64 x.cr, .int .i64 x.m.frm, .int .u32 (x.m.seq : Int)] 69) := ⟨_, rfl⟩
  obtain ⟨K, hK⟩ : ∃ K, K = w1.heap.size := ⟨_, rfl⟩
  have hk2 : w2.heap[K]? = some (.cells #[.int .u64 (x.ce : Int), .int .i64 x.cr, .int .i64 x.m.frm, .int .u32 (x.m.seq : Int)] 69 (0, 0)) := by rw [hw2, hK]; exact heap_alloc_new w1 _
  obtain ⟨pk, hpk⟩ : ∃ pk, pk = varPc K #[.int .u64 (x.ce : Int), .int .i64 x.cr, .int .i64 x.m.frm, .int .u32 (x.m.seq : Int)] 69 (by decide) (by decide) := ⟨_, rfl⟩
  have H2 := Lib.hid (show Now w B b0 M (pk :: evPc X x :: msgPc x.m :: R) w2 from by
    have hb : Below w1.heap.size w1 w2 := by rw [hw2]; exact ba (br w1) _
    refine ⟨(own_new pk H1.out.own H1.out.low hb (by rw [hpk]; exact hk2) (fun b e => by rw [hpk] at e; injection e with e; omega)).mid1, H1.out.kept.trans (Kept.of_below hb), Nat.le_trans H1.out.low hb.size⟩)
  have HPK := Lib.hid hpk
  rw [← hw2, ← hK]
  clear hw2 hK hpk hk2 e2 e3 e7 e8 H1
  -- what was sent there
  obtain ⟨r, hr⟩ : ∃ r, r = sentR M (place x) := ⟨_, rfl⟩
  have HR := Lib.hid hr
  go_cut [33, 34, 35] (fun s33 s34 s35 wx => s33 = .slice r.ad r.l.length r.cap ∧ s34 = .int .i64 (r.l.length : Int) ∧ s35 = .int .i64 0 ∧ Now w B b0 M (pk :: evPc X x :: msgPc x.m :: R) wx)
  case first =>
    as_aux_lemma =>
      have hkk : w2.heap[K]? = some (.cells #[.int .u64 (x.ce : Int), .int .i64 x.cr, .int .i64 x.m.frm, .int .u32 (x.m.seq : Int)] 69 (0, 0)) := by
        have := own_r H2.out.own (p := pk) (by simp)
        rw [HPK.out] at this
        exact this
      have hsz := (Array.getElem?_eq_some_iff.1 hkk).1
      have c0 := mcell H2.out.own 0 (v := .map (some M.c.sb)) rfl
      have k0 := Bel.cell (show w2.cell? ⟨K, 0, none⟩ = some (.int .u64 (x.ce : Int)) from cell_of_row _ _ 0 _ _ _ hkk) hsz
      have k1 := Bel.cell (show w2.cell? ⟨K, 1, none⟩ = some (.int .i64 x.cr) from cell_of_row _ _ 1 _ _ _ hkk) hsz
      have k2 := Bel.cell (show w2.cell? ⟨K, 2, none⟩ = some (.int .i64 x.m.frm) from cell_of_row _ _ 2 _ _ _ hkk) hsz
      have k3 := Bel.cell (show w2.cell? ⟨K, 3, none⟩ = some (.int .u32 (x.m.seq : Int)) from cell_of_row _ _ 3 _ _ _ hkk) hsz
      have hlk : ∀ y : Bel w2, (Instr.lookup 45 (.map (some M.c.sb)) (.agg #[.int .u64 (x.ce : Int), .int .i64 x.cr, .int .i64 x.m.frm, .int .u32 (x.m.seq : Int)]) false).run Try.prog y.val = .ok (.slice r.ad r.l.length r.cap) y.val := fun y => by
        rw [hr]
        exact sends_look (H2.out.own.below y.prop) (place x)
      clear hkk hsz hr
      generalize r.l.length = q at *
      refine wp_region_bel (by kernel_rfl) (by kernel_rfl) ?_
      repeat (go_big_quiet_step ((fail)))
      refine wpQuiet_nil ?_
      intro w3 hw3
      have HE := Lib.hid (H2.out.below (bel_out hw3))
      clear hw3 c0 k0 k1 k2 k3 hlk
      go_wp2_with fail
      go_meet
      exact ⟨rfl, rfl, rfl, HE.out⟩
  case rest =>
  obtain ⟨rfl, rfl, rfl, hcut⟩ := hcut
  obtain ⟨w3, rfl⟩ : ∃ z, z = wc := ⟨_, rfl⟩
  have H3 := Lib.hid hcut
  clear hcut H2 hr
  have hrl : r.l.length ≤ 9999 := by rw [HR.out]; exact Nat.le_trans (HSZ.out.2.1.sent _) HSZ.out.2.2.1
  obtain ⟨ql, hql⟩ : ∃ ql, ql = r.l.length := ⟨_, rfl⟩
  rw [← hql] at hrl ⊢
  have HQL := Lib.hid hql
  clear hql
  go_upto_block 0 with (fail)
  go_cut [5] (fun s5 wx => s5 = .int .i64 (cntM x.m r.l : Int) ∧ Now w B b0 M (pk :: evPc X x :: msgPc x.m :: R) wx)
  case first =>
    as_aux_lemma =>
      go_wp2_with fail
      go_loopw [5, 35] (fun c i wr => ∃ j : Nat, j ≤ ql ∧ i = .int .i64 (j : Int) ∧ c = .int .i64 (cntM x.m (r.l.take j) : Int) ∧ Hid (Now w B b0 M (pk :: evPc X x :: msgPc x.m :: R) wr)) (fun _ i _ => ql - (intOf i).toNat)
      case atStart => exact ⟨0, by omega, rfl, rfl, H3⟩
      case round =>
        obtain ⟨j, hj, rfl, rfl, HW⟩ := hrel
        by_cases hlt : j < ql
        · have hd : decide ((j : Int) < (ql : Int)) = true := by simpa using hlt
          have hi1 : (j : Int) < (ql : Int) := by omega
          have hkl : j < r.l.length := by rw [← HQL.out]; exact hlt
          have hrow : RowT wr r.ad r.l := by
            rw [HR.out]
            exact (sent_ok HW.out.own (place x)).row (by rw [← HR.out, ← HQL.out]; omega)
          obtain ⟨hmr, g, oo, hga, hg, hrg⟩ := hrow.r.2 j hkl
          have HCT := Lib.hid (cntM_take x.m r.l j hkl)
          have hcl : cntM x.m (r.l.take j) ≤ 9999 := Nat.le_trans (cntM_le _ _) (Nat.le_trans (List.length_take_le _ _) (by omega))
          obtain ⟨y, hy⟩ : ∃ y, y = r.l[j] := ⟨_, rfl⟩
          rw [← hy] at hrg hmr HCT
          obtain ⟨cy, hcy⟩ : ∃ cs, cs = msgA y := ⟨_, rfl⟩
          obtain ⟨cm, hcm⟩ : ∃ cs, cs = msgA x.m := ⟨_, rfl⟩
          have y1 : cy.size = 6 := by rw [hcy]; rfl
          have y2 : cm.size = 6 := by rw [hcm]; rfl
          have p1 : cy.all (·.oneCell') = true := by rw [hcy]; simp [msgA, Value.oneCell']
          rw [← hcy] at hrg
          have hc1 : cy.toList.toArray = cy := by simp
          have hc2 : cm.toList.toArray = cm := by simp
          obtain ⟨Y, hY⟩ : ∃ Y, Y = wr.heap.size := ⟨_, rfl⟩
          have hz := heap_alloc_new wr (.cells #[.int .i64 0, .int .u32 0, .int .u64 0, .int .i64 0, .slice none 0 0, .string ⟨#[]⟩] 34)
          have hbz := ba (br wr) (.cells #[.int .i64 0, .int .u32 0, .int .u64 0, .int .i64 0, .slice none 0 0, .string ⟨#[]⟩] 34)
          rw [← hY] at hz
          obtain ⟨w5, hw5⟩ : ∃ w5, w5 = (wr.alloc (.cells #[.int .i64 0, .int .u32 0, .int .u64 0, .int .i64 0, .slice none 0 0, .string ⟨#[]⟩] 34)).setRow Y cy := ⟨_, rfl⟩
          have hb5 : Below wr.heap.size wr w5 := by rw [hw5]; exact (kept_setRow' (wr.alloc (.cells #[.int .i64 0, .int .u32 0, .int .u64 0, .int .i64 0, .slice none 0 0, .string ⟨#[]⟩] 34)) Y cy).out hbz hbz.size (fun k hk' e => by omega)
          have hy5 : w5.heap[Y]? = some (.cells cy 34 (0, 0)) := by rw [hw5]; exact setRow_heap _ _ _ _ _ _ hz
          have N5 := HW.out.below hb5
          have hev : EvAt w5 X x := own_r N5.own (p := evPc X x) (by simp)
          have hmx : MsgT w5 x.m := own_r N5.own (p := msgPc x.m) (by simp)
          have hrm : w5.rangeAt X 7 cm.toList := by rw [hcm]; exact range_of hev _ (fun j u hu => ev_msg x j u hu)
          have HS := Lib.hid (show Calls Try.prog 34 #[.agg cm, .agg cy] w5 fun e w' => e = .returned (.bool (sameM x.m y)) ∧ Below w5.heap.size w5 w' from by rw [hcm, hcy]; exact same_any x.m y w5 hmx.r (hmr.below hb5))
          have HZ := Lib.hid (And.intro hz hY)
          have HG := Lib.hid (And.intro hrg (And.intro y1 (And.intro p1 (And.intro hy5 (And.intro hrm (And.intro y2 hlt))))))
          have H5 := Lib.hid N5
          rw [hga]
          clear hrow hmr hga hg hrg hkl hy hcy hcm y1 y2 p1 hY hz hbz hb5 hy5 N5 hev hmx hrm
          go_upto_region 6 with (first
            | (refine wpList_load_mid rfl 34 (.tmp 37) rfl g (oo + j * 6) rfl cy.toList _ HG.out.1 Try.underlying34 rfl (by rw [Array.length_toList, HG.out.2.1]; kernel_rfl) ?_)
            | (refine wpList_store_row rfl 34 (.tmp 7) (.tmp 38) rfl Y cy (by rw [HZ.out.2]; rfl) (by rw [← hc1]; rfl) 34 _ HZ.out.1 (by rw [HG.out.2.1]; kernel_rfl) (by rw [HG.out.2.1]; rfl) HG.out.2.2.1 ?_))
          rw [← hw5, ← HZ.out.2]
          clear hw5 hc1
          go_wp2_with (first
            | (with_reducible refine wpList_load_mid rfl 34 (.tmp 39) rfl X 7 rfl cm.toList _ HG.out.2.2.2.2.1 Try.underlying34 rfl (by rw [Array.length_toList, HG.out.2.2.2.2.2.1]; kernel_rfl) ?_)
            | (with_reducible refine wpList_load_row rfl 34 (.tmp 7) rfl Y rfl 34 cy (0, 0) _ HG.out.2.2.2.1 Try.underlying34 rfl (by rw [HG.out.2.1]; kernel_rfl) ?_)
            | fail)
          refine HS.out.mono ?_
          clear HS hc2
          rintro e w6 ⟨rfl, hb6⟩
          have H6 := Lib.hid (H5.out.below hb6)
          clear hb6 H5
          generalize cntM x.m (r.l.take j) = ct at *
          generalize sameM x.m y = sm at *
          cases sm
          · have HCC := Lib.hid (show cntM x.m (r.l.take (j + 1)) = ct from HCT.out)
            clear HCT
            go_wp2_with fail
            exact ⟨⟨j + 1, HG.out.2.2.2.2.2.2, by go_num, by rw [HCC.out], H6⟩, by have := HG.out.2.2.2.2.2.2; simp [intOf]; omega⟩
          · have HCC := Lib.hid (show cntM x.m (r.l.take (j + 1)) = ct + 1 from HCT.out)
            clear HCT
            go_wp2_with fail
            exact ⟨⟨j + 1, HG.out.2.2.2.2.2.2, by go_num, by rw [HCC.out]; go_num, H6⟩, by have := HG.out.2.2.2.2.2.2; simp [intOf]; omega⟩
        · have hd : decide ((j : Int) < (ql : Int)) = false := by simpa using hlt
          obtain rfl : j = ql := by omega
          have HE := Lib.hid (show cntM x.m (r.l.take j) = cntM x.m r.l from by rw [List.take_of_length_le (by rw [HQL.out]; omega)])
          go_wp2_with fail
          go_meet
          exact ⟨by rw [HE.out], HW.out⟩
  case rest =>
  obtain ⟨rfl, hcut⟩ := hcut
  obtain ⟨w4, rfl⟩ : ∃ z, z = wc := ⟨_, rfl⟩
  have H4 := Lib.hid hcut
  clear hcut H3
  go_upto_region 9 with (fail)
  go_cut [] (fun wx => Now w B b0 (M.bz (brk 2 M.c.broken ((cntM x.m r.l : Int) != 1))) (pk :: evPc X x :: msgPc x.m :: R) wx)
  case first =>
    as_aux_lemma =>
      have HC := Lib.hid (Now.breaks (M := M) (z := M.c.broken) H4.out 2 w4 (br _) ((cntM x.m r.l : Int) != 1))
      generalize (cntM x.m r.l : Int) = ct at *
      go_wp2_with fail
      refine HC.out.mono ?_
      rintro e w5 ⟨rfl, hE⟩
      have HE := Lib.hid hE
      clear hE HC
      go_wp2_with fail
      go_meet
      exact HE.out
  case rest =>
  obtain ⟨w5, rfl⟩ : ∃ z, z = wc := ⟨_, rfl⟩
  have H5 := Lib.hid hcut
  clear hcut H4
  have HZA := Lib.hid (show brk 2 M.c.broken ((cntM x.m (sentR M (place x)).l : Int) != 1) = brk 2 M.c.broken ((cntM x.m r.l : Int) != 1) from by rw [HR.out])
  generalize brk 2 M.c.broken ((cntM x.m r.l : Int) != 1) = za at *
  -- had
  have hkk : w5.heap[K]? = some (.cells #[.int .u64 (x.ce : Int), .int .i64 x.cr, .int .i64 x.m.frm, .int .u32 (x.m.seq : Int)] 69 (0, 0)) := by
    have := own_r H5.out.own (p := pk) (by simp)
    rw [HPK.out] at this
    exact this
  have hev : EvAt w5 X x := own_r H5.out.own (p := evPc X x) (by simp)
  have x1 := at0 (ecell hev 1 (v := .int .i64 x.proc) rfl)
  have k0 : w5.cell? ⟨K, 0, none⟩ = some (.int .u64 (x.ce : Int)) := cell_of_row _ _ 0 _ _ _ hkk
  have k1 : w5.cell? ⟨K, 1, none⟩ = some (.int .i64 x.cr) := cell_of_row _ _ 1 _ _ _ hkk
  have k2 : w5.cell? ⟨K, 2, none⟩ = some (.int .i64 x.m.frm) := cell_of_row _ _ 2 _ _ _ hkk
  have k3 : w5.cell? ⟨K, 3, none⟩ = some (.int .u32 (x.m.seq : Int)) := cell_of_row _ _ 3 _ _ _ hkk
  obtain ⟨w6, hw6⟩ : ∃ w6, w6 = w5.alloc (.cells #[.int .i64 x.proc, .int .u64 (x.ce : Int), .int .i64 x.cr, .int .i64 x.m.frm, .int .u32 (x.m.seq : Int)] 71) := ⟨_, rfl⟩
  obtain ⟨J, hJ⟩ : ∃ J, J = w5.heap.size := ⟨_, rfl⟩
  have hj6 : w6.heap[J]? = some (.cells #[.int .i64 x.proc, .int .u64 (x.ce : Int), .int .i64 x.cr, .int .i64 x.m.frm, .int .u32 (x.m.seq : Int)] 71 (0, 0)) := by rw [hw6, hJ]; exact heap_alloc_new w5 _
  obtain ⟨pj, hpj⟩ : ∃ pj, pj = varPc J #[.int .i64 x.proc, .int .u64 (x.ce : Int), .int .i64 x.cr, .int .i64 x.m.frm, .int .u32 (x.m.seq : Int)] 71 (by decide) (by decide) := ⟨_, rfl⟩
  have H6 := Lib.hid (show Now w B b0 (M.bz za) (pj :: pk :: evPc X x :: msgPc x.m :: R) w6 from by
    have hb : Below w5.heap.size w5 w6 := by rw [hw6]; exact ba (br w5) _
    refine ⟨(own_new pj H5.out.own H5.out.low hb (by rw [hpj]; exact hj6) (fun b e => by rw [hpj] at e; injection e with e; omega)).mid1, H5.out.kept.trans (Kept.of_below hb), Nat.le_trans H5.out.low hb.size⟩)
  have HPJ := Lib.hid hpj
  clear hpj hj6 hkk hev H5
  go_upto_region 11 with (fail)
  rw [← hw6, ← hJ]
  clear hw6 hJ x1 k0 k1 k2 k3
  go_cut [] (fun wx => Now w B b0 (M.bz (brk 3 za ((get M.seen (hadK x)).getD false))) (pj :: pk :: evPc X x :: msgPc x.m :: R) wx)
  case first =>
    as_aux_lemma =>
      have hjj : w6.heap[J]? = some (.cells #[.int .i64 x.proc, .int .u64 (x.ce : Int), .int .i64 x.cr, .int .i64 x.m.frm, .int .u32 (x.m.seq : Int)] 71 (0, 0)) := by
        have := own_r H6.out.own (p := pj) (by simp)
        rw [HPJ.out] at this
        exact this
      have hsz := (Array.getElem?_eq_some_iff.1 hjj).1
      have c1 := mcell H6.out.own 1 (v := .map (some M.c.hb)) rfl
      have j0 := Bel.cell (show w6.cell? ⟨J, 0, none⟩ = some (.int .i64 x.proc) from cell_of_row _ _ 0 _ _ _ hjj) hsz
      have j1 := Bel.cell (show w6.cell? ⟨J, 1, none⟩ = some (.int .u64 (x.ce : Int)) from cell_of_row _ _ 1 _ _ _ hjj) hsz
      have j2 := Bel.cell (show w6.cell? ⟨J, 2, none⟩ = some (.int .i64 x.cr) from cell_of_row _ _ 2 _ _ _ hjj) hsz
      have j3 := Bel.cell (show w6.cell? ⟨J, 3, none⟩ = some (.int .i64 x.m.frm) from cell_of_row _ _ 3 _ _ _ hjj) hsz
      have j4 := Bel.cell (show w6.cell? ⟨J, 4, none⟩ = some (.int .u32 (x.m.seq : Int)) from cell_of_row _ _ 4 _ _ _ hjj) hsz
      have hlk : ∀ y : Bel w6, (Instr.lookup 46 (.map (some M.c.hb)) (.agg #[.int .i64 x.proc, .int .u64 (x.ce : Int), .int .i64 x.cr, .int .i64 x.m.frm, .int .u32 (x.m.seq : Int)]) false).run Try.prog y.val = .ok (.bool ((get M.seen (hadK x)).getD false)) y.val := fun y => seen_look (M := M.bz za) (H6.out.own.below y.prop) (hadK x)
      have HBR := Lib.hid (H6.out.breaks 3)
      clear hjj hsz
      generalize (get M.seen (hadK x)).getD false = D at *
      refine wp_region_bel_tail 8 (by kernel_rfl) (by kernel_rfl) ?_
      simp only [List.take_succ_cons, List.take_zero, List.drop_succ_cons, List.drop_zero]
      repeat (go_big_quiet_step ((fail)))
      refine wpQuiet_nil ?_
      intro w7 hw7
      have HC := Lib.hid (HBR.out w7 (bel_out hw7) D)
      clear hw7 c1 j0 j1 j2 j3 j4 hlk HBR
      go_wp2_with fail
      refine HC.out.mono ?_
      rintro e w8 ⟨rfl, hE⟩
      have HE := Lib.hid hE
      clear hE HC
      go_wp2_with fail
      go_meet
      exact HE.out
  case rest =>
  obtain ⟨w7, rfl⟩ : ∃ z, z = wc := ⟨_, rfl⟩
  have H7 := Lib.hid hcut
  clear hcut H6
  have HZB := Lib.hid (show brk 3 (brk 2 M.c.broken ((cntM x.m (sentR M (place x)).l : Int) != 1)) ((get M.seen (hadK x)).getD false) = brk 3 za ((get M.seen (hadK x)).getD false) from by rw [HZA.out])
  generalize brk 3 za ((get M.seen (hadK x)).getD false) = zb at *
  clear HZA
  go_upto_region 12 with (fail)
  go_cut [] (fun wx => Now w B b0 ((M.saw x).bz zb) (pj :: pk :: evPc X x :: msgPc x.m :: R) wx)
  case first =>
    as_aux_lemma =>
      have hjj : w7.heap[J]? = some (.cells #[.int .i64 x.proc, .int .u64 (x.ce : Int), .int .i64 x.cr, .int .i64 x.m.frm, .int .u32 (x.m.seq : Int)] 71 (0, 0)) := by
        have := own_r H7.out.own (p := pj) (by simp)
        rw [HPJ.out] at this
        exact this
      have hsz := (Array.getElem?_eq_some_iff.1 hjj).1
      have c1 := mcell H7.out.own 1 (v := .map (some M.c.hb)) rfl
      have j0 := Bel.cell (show w7.cell? ⟨J, 0, none⟩ = some (.int .i64 x.proc) from cell_of_row _ _ 0 _ _ _ hjj) hsz
      have j1 := Bel.cell (show w7.cell? ⟨J, 1, none⟩ = some (.int .u64 (x.ce : Int)) from cell_of_row _ _ 1 _ _ _ hjj) hsz
      have j2 := Bel.cell (show w7.cell? ⟨J, 2, none⟩ = some (.int .i64 x.cr) from cell_of_row _ _ 2 _ _ _ hjj) hsz
      have j3 := Bel.cell (show w7.cell? ⟨J, 3, none⟩ = some (.int .i64 x.m.frm) from cell_of_row _ _ 3 _ _ _ hjj) hsz
      have j4 := Bel.cell (show w7.cell? ⟨J, 4, none⟩ = some (.int .u32 (x.m.seq : Int)) from cell_of_row _ _ 4 _ _ _ hjj) hsz
      clear hjj hsz
      refine wp_region_bel_tail 6 (by kernel_rfl) (by kernel_rfl) ?_
      simp only [List.take_succ_cons, List.take_zero, List.drop_succ_cons, List.drop_zero]
      repeat (go_big_quiet_step ((fail)))
      refine wpQuiet_nil ?_
      intro w8 hw8
      have N7 := H7.out.below (bel_out hw8)
      obtain ⟨w9, hrun, hg, hgr, hsz⟩ := (own_seen N7.own).update (P := Try.prog) Try.underlying46 hadLaw (hadK x) (.bool true)
      rw [put_vals (fun b : Bool => Value.bool b)] at hg
      have N8 := own_at 2 (seenPc (M.saw x)) N7.own N7.low (p := seenPc M) rfl ((Kept.of_grown hgr).more (fun k _ e => by rw [e]; rfl)) hg (fun b e => .inl e)
      have HE := Lib.hid (N7.next (M' := (M.saw x).bz zb) N8.1 N8.2)
      have hrun : (Instr.mapUpdate 46 (.map (some M.c.hb)) (.agg #[.int .i64 x.proc, .int .u64 (x.ce : Int), .int .i64 x.cr, .int .i64 x.m.frm, .int .u32 (x.m.seq : Int)]) (.bool true)).run Try.prog w8 = .ok () w9 := hrun
      clear hw8 c1 j0 j1 j2 j3 j4 N7 N8 hg hgr hsz H7
      go_wp2_with fail
      go_meet
      exact HE.out
  case rest =>
  obtain ⟨w8, rfl⟩ : ∃ z, z = wc := ⟨_, rfl⟩
  have H8 := Lib.hid hcut
  clear hcut H7
  obtain ⟨RR, hRR⟩ : ∃ RR, RR = pj :: pk :: evPc X x :: msgPc x.m :: R := ⟨_, rfl⟩
  have HV := Lib.hid (show evPc X x ∈ RR ∧ msgPc x.m ∈ RR ∧ ∃ Q, RR = Q ++ R from by
    rw [hRR]
    exact ⟨by simp, by simp, [pj, pk, evPc X x, msgPc x.m], rfl⟩)
  rw [← hRR] at H8
  clear hRR HPJ HPK HQL
  obtain ⟨M1, hM1⟩ : ∃ M1, M1 = (M.saw x).bz zb := ⟨_, rfl⟩
  have HM1 := Lib.hid (show MOk M1 ∧ Sz n M1 ∧ M1.stays = M.stays ∧ proj M1 = dlv0 (proj M) x ∧ M1.c.broken = zb ∧ M1 = M1.bz zb from by
    rw [hM1]
    refine ⟨⟨HSZ.out.1.n, HSZ.out.1.now⟩, ⟨HSZ.out.2.1.stays, HSZ.out.2.1.rows, HSZ.out.2.1.cnt, HSZ.out.2.1.sent⟩, rfl, ?_, rfl, rfl⟩
    have h : (proj (M.saw x)).seen = fun h => if h = hadK x then true else (proj M).seen h := by
      funext h
      show (get (put M.seen (hadK x) true) h).getD false = _
      rw [get_put]
      split
      · rfl
      · rfl
    have hc : cntM (bare x.m) ((proj M).sends (place x)) = cntM x.m (sentR M (place x)).l := by
      rw [proj_sends]
      unfold cntM
      rw [List.filter_map, List.length_map]
      congr 1
    unfold dlv0
    rw [← h, hc, ← HZB.out]
    rfl)
  rw [← hM1] at H8
  clear hM1 HZB
  have hev : EvAt w8 X x := own_r H8.out.own HV.out.1
  have hev : w8.heap[X]? = some (.cells cx 39 (0, 0)) := by rw [HCX.out]; exact hev
  have hinf : (Try.prog.info? 39).map (·.size) = some cx.size := by rw [HCX.out]; exact evInfo
  have HX := Lib.hid hev
  have HI := Lib.hid hinf
  have hC := stay_any w8 B b0 M1 RR H8.out.own HM1.out.1 H8.out.low x
  rw [← HCX.out] at hC
  have HC := Lib.hid hC
  clear hC hev hinf
  go_wp2_with (first | (with_reducible refine wpList_load_row rfl 39 (.tmp 3) rfl X rfl 39 cx (0, 0) _ HX.out Try.underlying39 rfl HI.out ?_) | fail)
  refine HC.out.mono ?_
  clear HC HX HI
  intro e w9 h
  rcases h with ⟨k, hk, hs, rfl, hb⟩ | ⟨hs, rfl, hO, hK⟩
  rotate_left
  · have hps : pdeliver (proj M) x = (proj M1).br 1 true := by
      unfold pdeliver
      rw [← HM1.out.2.2.2.1, ← stayOf_proj, hs]
    have HF := Lib.hid (show Res w B b0 R (pdeliver (proj M) x) (n + 1) w9 from by
      obtain ⟨Q, hQ⟩ := HV.out.2.2
      rw [hQ] at hO
      have hz := HM1.out.2.1.more (Nat.le_succ n)
      exact ⟨_, H8.out.next (hO.drop (Q := Q)) hK, br_ok HM1.out.1 _ _, ⟨hz.stays, hz.rows, hz.cnt, hz.sent⟩, hps.symm⟩)
    clear hs hps hO hK hev
    go_wp2_with fail
    refine bodyPost_ret (results_none rfl _ _ _) rfl ?_
    exact ⟨rfl, HF.out⟩
  have H9 := Lib.hid (H8.out.below hb)
  have HST := Lib.hid hs
  clear hs hb H8
  obtain ⟨o, ho⟩ : ∃ o, o = M1.stays[k] := ⟨_, rfl⟩
  rw [← ho]
  have HO := Lib.hid (And.intro (show M1.stays[k]? = some o from by rw [ho]; simp [hk]) (show o ∈ M1.stays from by rw [ho]; exact List.getElem_mem hk))
  have HK := Lib.hid hk
  clear ho hk hev
  unfold ptrV
  go_upto_region 15 with (fail)
  go_cut [10, 11, 12] (fun s10 s11 s12 wx => ∃ N, s10 = .int .i64 0 ∧ s11 = .pointer (some ⟨N, 0, none⟩) ∧ s12 = .int .u64 (o.s.mem : Int) ∧ Now w B b0 M1 (nxPc N (0, 0) :: RR) wx)
  case first =>
    as_aux_lemma =>
      have hSo := own_stay H9.out.own HO.out.2
      have HS := Lib.hid (show ∀ w', Below w9.heap.size w9 w' → w'.cell? ⟨o.b, 3, none⟩ = some (.int .u64 (o.s.mem : Int)) from fun w' hb => (scell hSo 3 (v := .int .u64 (o.s.mem : Int)) rfl) ⟨w', hb⟩)
      have HW := Lib.hid (show Below w9.heap.size w9 w9.drew from (br w9).drew)
      have hS0 := HS.out _ HW.out
      clear hSo
      generalize o.b = So at *
      generalize (o.s.mem : Int) = om at *
      refine wp_region_mask (fun w' => w'.cell? ⟨So, 3, none⟩ = some (.int .u64 om)) 8 4 [true, true, true, true, true, false, false, false, false] #[true, true, true, true, true, false, false, false, false] (by kernel_rfl) (by kernel_rfl) (by kernel_rfl) hS0 ?_
      clear hS0
      generalize w9.drew = W at *
      iterate 5
        refine wpMask_take _ (Or.inl ⟨by rfl, fun w' hS => by (try dsimp only at hS); go_simp; try with_reducible rfl⟩) ?_
        simp only [Act.put, List.setIfInBounds_toArray, List.set_cons_zero, List.set_cons_succ]
      refine wpMask_skip (wpMask_skip (wpMask_skip (wpMask_skip (wpMask_nil ?_))))
      refine wpAnyS_ready (rs := [5]) (by kernel_rfl) (by simp) ?_
      refine AllReadyS.cons rfl (fun T hT => ?_) AllReadyS.nil
      go_simp
      refine hT.out _ _ (fun _ => HS.out _ (ba HW.out _)) ?_
      clear hT T
      simp only [Act.put, List.setIfInBounds_toArray, List.set_cons_zero, List.set_cons_succ]
      have hNb := ba HW.out (.cells #[.int .u64 0, .int .i64 0] 30)
      have hNc := heap_alloc_new W (.cells #[.int .u64 0, .int .i64 0] 30)
      have hNs : w9.heap.size ≤ W.heap.size := HW.out.size
      generalize W.heap.size = N at *
      generalize W.alloc (.cells #[.int .u64 0, .int .i64 0] 30) = W1 at *
      have HB1 := Lib.hid hNb
      have HC1 := Lib.hid hNc
      have HS1 := Lib.hid hNs
      have g0 : W1.cell? ⟨N, 0, none⟩ = some (.int .u64 0) := cell_of_row _ _ 0 _ _ _ hNc
      have g1 : W1.cell? ⟨N, 1, none⟩ = some (.int .i64 0) := cell_of_row _ _ 1 _ _ _ hNc
      have q0 : W1.frozen? ⟨N, 0, none⟩ = false := frozen_of_row _ _ _ _ _ hNc
      have q1 : W1.frozen? ⟨N, 1, none⟩ = false := frozen_of_row _ _ _ _ _ hNc
      clear hNb hNc hNs
      refine wpAnyS_ready (rs := [6]) (by kernel_rfl) (by simp) ?_
      refine AllReadyS.cons rfl (fun T hT => ?_) AllReadyS.nil
      go_simp
      refine hT.out _ _ (fun _ => HS.out _ HB1.out) ?_
      clear hT T
      simp only [Act.put, List.setIfInBounds_toArray, List.set_cons_zero, List.set_cons_succ]
      refine wpAnyS_ready (rs := [7]) (by kernel_rfl) (by simp) ?_
      refine AllReadyS.cons rfl (fun T hT => ?_) AllReadyS.nil
      go_simp
      have hcs := conf_set (c := .int .u64 0) (d := .int .i64 0) HC1.out HB1.out HS1.out
      have HE := Lib.hid (now_nx (c := (0, 0)) H9.out hcs.2 hcs.1 HS1.out)
      have HB2 := Lib.hid hcs.2
      clear g0 g1 q0 q1 hcs
      generalize (W1.setCell ⟨N, 0, none⟩ (.int .u64 0)).setCell ⟨N, 1, none⟩ (.int .i64 0) = W2 at *
      refine hT.out _ _ (fun _ => HS.out _ HB2.out) ?_
      clear hT T
      simp only [Act.put, List.setIfInBounds_toArray, List.set_cons_zero, List.set_cons_succ]
      refine wpAnyS_ready (rs := [8]) (by kernel_rfl) (by simp) ?_
      refine AllReadyS.cons rfl (fun T hT => ?_) AllReadyS.nil
      go_simp
      refine hT.out _ _ (fun h => absurd h (by omega)) ?_
      clear hT T
      simp only [Act.put, List.setIfInBounds_toArray, List.set_cons_zero, List.set_cons_succ]
      refine wpAnyS_done (by kernel_rfl) ?_ _
      go_wp2_with fail
      go_meet
      exact ⟨N, rfl, rfl, rfl, HE.out⟩
  case rest =>
  obtain ⟨N, rfl, rfl, rfl, hcut⟩ := hcut
  obtain ⟨wa, rfl⟩ : ∃ z, z = wc := ⟨_, rfl⟩
  have HA := Lib.hid hcut
  clear hcut H9
  go_upto_region 16 with (fail)
  go_cut [83] (fun s83 wx => s83 = .bool o.s.tr.isSome ∧ wx = wa)
  case first =>
    as_aux_lemma =>
      have hSo := own_stay HA.out.own HO.out.2
      have o7 := at0 (scell hSo 7 (v := .pointer (o.s.tr.map fun b => ⟨b, 0, none⟩)) rfl)
      clear hSo
      generalize o.s.tr = tr at *
      generalize o.b = So at *
      cases tr with
      | none =>
        simp only [Option.map_none, Option.isSome_none] at o7 ⊢
        go_wp2_with fail
        go_meet
        exact ⟨rfl, rfl⟩
      | some tb =>
        simp only [Option.map_some, Option.isSome_some] at o7 ⊢
        go_wp2_with fail
        go_meet
        exact ⟨rfl, rfl⟩
  case rest =>
  obtain ⟨rfl, rfl⟩ := hcut
  go_upto_if 83 with (fail)
  go_cut [10, 11, 12, 83] (fun s10 s11 s12 s83 wx => s10 = .int .i64 (if o.s.tr.isSome = true then 1 else 0) ∧ s11 = .pointer (some ⟨N, 0, none⟩) ∧ s12 = .int .u64 (pmem (projS o) : Int) ∧ Now w B b0 M1 (nxPc N (pnext (projS o)) :: RR) wx)
  case first =>
    as_aux_lemma =>
      cases htr : o.s.tr with
      | none =>
        have HF := Lib.hid (show pmem (projS o) = o.s.mem ∧ pnext (projS o) = (0, 0) from by
          unfold pmem pnext
          simp [projS, trOf, htr])
        have HT := Lib.hid htr
        clear htr
        simp only [Option.isSome_none]
        go_wp2_with fail
        go_meet
        exact ⟨by rw [HT.out]; rfl, rfl, by rw [HF.out.1], by rw [HF.out.2]; exact HA.out⟩
      | some tb =>
        have HF := Lib.hid (show pmem (projS o) = o.ev.mem ∧ pnext (projS o) = next o.ev from by
          unfold pmem pnext
          simp [projS, trOf, htr])
        have hSo := own_stay HA.out.own HO.out.2
        have hev := own_tr HA.out.own HO.out.2 htr
        have HS := Lib.hid (show ∀ c w', Now w B b0 M1 (nxPc N c :: RR) w' → (w'.cell? ⟨o.b, 7, none⟩ = some (.pointer (some ⟨tb, 0, none⟩)) ∧ w'.cell? ⟨tb, 4, none⟩ = some (.int .u64 (o.ev.ne : Int)) ∧ w'.cell? ⟨tb, 5, none⟩ = some (.int .i64 o.ev.nr) ∧ w'.cell? ⟨tb, 6, none⟩ = some (.int .u64 (o.ev.mem : Int))) from fun c w' h => by
          have hSo := own_stay h.own HO.out.2
          have hev := own_tr h.own HO.out.2 htr
          exact ⟨by have h := at0 (scell hSo 7 (v := .pointer (o.s.tr.map fun b => ⟨b, 0, none⟩)) rfl); rw [htr] at h; exact h,
            at0 (ecell hev 4 (v := .int .u64 (o.ev.ne : Int)) rfl), at0 (ecell hev 5 (v := .int .i64 o.ev.nr) rfl), at0 (ecell hev 6 (v := .int .u64 (o.ev.mem : Int)) rfl)⟩)
        have N2 := HA.out.below (br wc).drew
        have hS0 := HS.out _ _ N2
        have HT := Lib.hid htr
        have HNX := Lib.hid (show pnext (projS o) = ((o.ev.ne : Int), o.ev.nr) from HF.out.2)
        have HPM := Lib.hid HF.out.1
        clear hSo hev htr HF
        have HTS := Lib.hid (show (if o.s.tr.isSome = true then (1 : Int) else 0) = 1 from by rw [HT.out]; rfl)
        clear HT
        simp only [Option.isSome_some]
        generalize o.b = So at *
        generalize (o.ev.ne : Int) = one at *
        generalize o.ev.nr = onr at *
        generalize o.ev.mem = om at *
        go_wp2_with fail
        refine wp_region_mask (fun w' => w'.cell? ⟨So, 7, none⟩ = some (.pointer (some ⟨tb, 0, none⟩)) ∧ w'.cell? ⟨tb, 4, none⟩ = some (.int .u64 one) ∧ w'.cell? ⟨tb, 5, none⟩ = some (.int .i64 onr) ∧ w'.cell? ⟨tb, 6, none⟩ = some (.int .u64 (om : Int))) 16 3 [true, true, true, true, true, true, true, true, true, true, true, true, true, true, false, false, false] #[true, true, true, true, true, true, true, true, true, true, true, true, true, true, false, false, false] (by kernel_rfl) (by kernel_rfl) (by kernel_rfl) hS0 ?_
        clear hS0
        generalize wc.drew = W at *
        iterate 14
          refine wpMask_take _ (Or.inl ⟨by rfl, fun w' hS => by obtain ⟨h1, h2, h3, h4⟩ := hS; go_simp; try with_reducible rfl⟩) ?_
          simp only [Act.put, List.setIfInBounds_toArray, List.set_cons_zero, List.set_cons_succ]
        refine wpMask_skip (wpMask_skip (wpMask_skip (wpMask_nil ?_)))
        refine wpAnyS_ready (rs := [14]) (by kernel_rfl) (by simp) ?_
        refine AllReadyS.cons rfl (fun T hT => ?_) AllReadyS.nil
        go_simp
        refine hT.out _ _ (fun _ => HS.out _ _ N2) ?_
        clear hT T
        simp only [Act.put, List.setIfInBounds_toArray, List.set_cons_zero, List.set_cons_succ]
        have hnn : W.heap[N]? = some (.cells #[.int .u64 0, .int .i64 0] 30 (0, 0)) := own_r N2.own (p := nxPc N (0, 0)) (by simp)
        have g0 : W.cell? ⟨N, 0, none⟩ = some (.int .u64 0) := cell_of_row _ _ 0 _ _ _ hnn
        have g1 : W.cell? ⟨N, 1, none⟩ = some (.int .i64 0) := cell_of_row _ _ 1 _ _ _ hnn
        have q0 : W.frozen? ⟨N, 0, none⟩ = false := frozen_of_row _ _ _ _ _ hnn
        have q1 : W.frozen? ⟨N, 1, none⟩ = false := frozen_of_row _ _ _ _ _ hnn
        have N3 := nx_set N2 (one, onr)
        have H3 := Lib.hid N3
        clear N3 N2 hnn
        refine wpAnyS_ready (rs := [15]) (by kernel_rfl) (by simp) ?_
        refine AllReadyS.cons rfl (fun T hT => ?_) AllReadyS.nil
        go_simp
        clear g0 g1 q0 q1
        generalize (W.setCell ⟨N, 0, none⟩ (.int .u64 one)).setCell ⟨N, 1, none⟩ (.int .i64 onr) = W2 at *
        refine hT.out _ _ (fun _ => HS.out _ _ H3.out) ?_
        clear hT T
        simp only [Act.put, List.setIfInBounds_toArray, List.set_cons_zero, List.set_cons_succ]
        refine wpAnyS_ready (rs := [16]) (by kernel_rfl) (by simp) ?_
        refine AllReadyS.cons rfl (fun T hT => ?_) AllReadyS.nil
        go_simp
        refine hT.out _ _ (fun h => absurd h (by omega)) ?_
        clear hT T
        simp only [Act.put, List.setIfInBounds_toArray, List.set_cons_zero, List.set_cons_succ]
        refine wpAnyS_done (by kernel_rfl) ?_ _
        go_wp2_with fail
        go_meet
        exact ⟨by rw [HTS.out], rfl, by rw [HPM.out], by rw [HNX.out]; exact H3.out⟩
  case rest =>
  obtain ⟨rfl, rfl, rfl, hcut⟩ := hcut
  obtain ⟨wb, rfl⟩ : ∃ z, z = wc := ⟨_, rfl⟩
  have HB := Lib.hid hcut
  clear hcut HA
  have HZZ := Lib.hid HM1.out.2.2.2.2.2
  obtain ⟨pn, hpn⟩ : ∃ pn, pn = pnext (projS o) := ⟨_, rfl⟩
  obtain ⟨pt, hpt⟩ : ∃ pt, pt = (if o.s.tr.isSome = true then (1 : Int) else 0) := ⟨_, rfl⟩
  obtain ⟨pm, hpm⟩ : ∃ pm, pm = pmem (projS o) := ⟨_, rfl⟩
  obtain ⟨al, hal⟩ : ∃ al, al = o.s.p0 ++ o.s.p1 := ⟨_, rfl⟩
  rw [← hpn] at HB
  rw [← hpt, ← hpm]
  have HPT := Lib.hid hpt
  have HPM := Lib.hid hpm
  have HAL := Lib.hid hal
  clear hpt hpm hal
  have HPN := Lib.hid hpn
  clear hpn
  go_upto_region 18 with (fail)
  go_cut [] (fun wx => Now w B b0 (M1.bz (brk 2 zb (!((x.ne : Int) == pn.1 && x.nr == pn.2)))) (nxPc N pn :: RR) wx)
  case first =>
    as_aux_lemma =>
      have hev : EvAt wb X x := own_r HB.out.own (p := evPc X x) (List.mem_cons_of_mem _ HV.out.1)
      have hnn : wb.heap[N]? = some (.cells #[.int .u64 pn.1, .int .i64 pn.2] 30 (0, 0)) := own_r HB.out.own (p := nxPc N pn) (by simp)
      have x4 := at0 (ecell hev 4 (v := .int .u64 (x.ne : Int)) rfl)
      have x5 := at0 (ecell hev 5 (v := .int .i64 x.nr) rfl)
      have g0 : wb.cell? ⟨N, 0, none⟩ = some (.int .u64 pn.1) := cell_of_row _ _ 0 _ _ _ hnn
      have g1 : wb.cell? ⟨N, 1, none⟩ = some (.int .i64 pn.2) := cell_of_row _ _ 1 _ _ _ hnn
      have hcn := fun W => confNeq W (x.ne : Int) x.nr pn.1 pn.2
      have HC := Lib.hid (Now.breaks (M := M1) (z := zb) (by rw [← HZZ.out]; exact HB.out) 2 wb (br _) (!((x.ne : Int) == pn.1 && x.nr == pn.2)))
      clear hev hnn
      generalize (!((x.ne : Int) == pn.1 && x.nr == pn.2)) = D at *
      go_wp2_with fail
      refine HC.out.mono ?_
      rintro e w5 ⟨rfl, hE⟩
      have HE := Lib.hid hE
      clear hE HC
      go_wp2_with fail
      go_meet
      exact HE.out
  case rest =>
  obtain ⟨wd, rfl⟩ : ∃ z, z = wc := ⟨_, rfl⟩
  have HD := Lib.hid hcut
  have HZC := Lib.hid (show brk 2 zb (!((x.ne : Int) == pn.1 && x.nr == pn.2)) = brk 2 zb (!((x.ne : Int) == pn.1 && x.nr == pn.2)) from rfl)
  obtain ⟨zc, hzc⟩ : ∃ zc, zc = brk 2 zb (!((x.ne : Int) == pn.1 && x.nr == pn.2)) := ⟨_, rfl⟩
  rw [← hzc] at HD
  have HZC := Lib.hid hzc
  clear hcut HB hzc
  -- what it delivered
  have hob := Lib.hid (show o.s.p0.length ≤ 9999 ∧ o.s.p1.length ≤ 9999 from ⟨Nat.le_trans (HM1.out.2.1.rows o HO.out.2).1 HSZ.out.2.2.1, Nat.le_trans (HM1.out.2.1.rows o HO.out.2).2 HSZ.out.2.2.1⟩)
  go_upto_region 19 with (fail)
  go_cut [13] (fun s13 wx => ∃ ad cap, s13 = .slice ad al.length cap ∧ Hid (RowT wx ad al) ∧ Now w B b0 (M1.bz zc) (nxPc N pn :: RR) wx)
  case first =>
    as_aux_lemma =>
      have hSo := own_stay HD.out.own (x := o) HO.out.2
      have hr0 := (own_r0 HD.out.own (x := o) HO.out.2).row (Nat.le_trans hob.out.1 (by decide))
      have hr1 := (own_r1 HD.out.own (x := o) HO.out.2).row (Nat.le_trans hob.out.2 (by decide))
      have HC := Lib.hid (all_any wd o.b o.s hSo hr0 hr1 (Nat.le_trans hob.out.1 (by decide)) (Nat.le_trans hob.out.2 (by decide)))
      have HRR := Lib.hid (And.intro hr0 hr1)
      clear hSo hr0 hr1
      go_wp2_with fail
      refine HC.out.mono ?_
      rintro e w5 ⟨⟨ad, cap, rfl, ho⟩, hb⟩
      rw [← HAL.out] at ho ⊢
      have HE := Lib.hid (show RowT w5 ad al from RowT.of_own ho (by rw [HAL.out, List.length_append]; have := hob.out.1; have := hob.out.2; omega) (fun m hm => by
        rw [HAL.out] at hm
        rcases List.mem_append.1 hm with hm | hm
        · exact (HRR.out.1.ms m hm).below hb
        · exact (HRR.out.2.ms m hm).below hb))
      have HF := Lib.hid (HD.out.below hb)
      clear ho hb HC
      go_wp2_with fail
      go_meet
      exact ⟨_, _, rfl, HE, HF.out⟩
  case rest =>
  obtain ⟨ad, cap, rfl, HRW, hcut⟩ := hcut
  obtain ⟨we, rfl⟩ : ∃ z, z = wc := ⟨_, rfl⟩
  have HE := Lib.hid hcut
  clear hcut HD
  go_upto_region 20 with (fail)
  go_cut [108] (fun s108 wx => s108 = .bool (decide (0 < al.length)) ∧ wx = we)
  case first =>
    as_aux_lemma =>
      generalize al.length = q at *
      by_cases hq : 0 < q
      · have h1 : decide ((0 : Int) < (q : Int)) = true := by simpa using hq
        have h2 : decide (0 < q) = true := by simpa using hq
        go_wp2_with fail
        go_meet
        exact ⟨by first | rfl | (rw [h2]) | simp [hq], rfl⟩
      · have h1 : decide ((0 : Int) < (q : Int)) = false := by simpa using hq
        have h2 : decide (0 < q) = false := by simpa using hq
        go_wp2_with fail
        go_meet
        exact ⟨by first | rfl | (rw [h2]) | simp [hq], rfl⟩
  case rest =>
  obtain ⟨rfl, rfl⟩ := hcut
  go_upto_if 108 with (fail)
  go_cut [13, 108] (fun s13 s108 wx => Now w B b0 (M1.bz (lastZ al x zc)) (nxPc N pn :: RR) wx)
  case first =>
    as_aux_lemma =>
      rcases Nat.eq_zero_or_pos al.length with h0 | h0
      · have hnil : al = [] := List.eq_nil_of_length_eq_zero h0
        have HF := Lib.hid (show lastZ al x zc = zc from by rw [hnil]; rfl)
        have hd : decide (0 < al.length) = false := by rw [h0]; rfl
        rw [hd]
        clear hd h0 hnil
        generalize al.length = q at *
        go_wp2_with fail
        go_meet
        rw [HF.out]
        exact HE.out
      · have hd : decide (0 < al.length) = true := by simpa using h0
        rw [hd]
        clear hd
        have hlt : al.length - 1 < al.length := by omega
        obtain ⟨hmr, g, oo, hga, hg, hrg⟩ := HRW.out.r.2 (al.length - 1) hlt
        have hrg0 := hrg
        obtain ⟨y, hy⟩ : ∃ y, y = al[al.length - 1] := ⟨_, rfl⟩
        rw [← hy] at hrg
        have HF := Lib.hid (show lastZ al x zc = brk 3 zc (decide (0 ≤ keyZ (y.stamp : Int) y.frm (x.m.stamp : Int) x.m.frm)) from by
          unfold lastZ
          rw [List.getLast?_eq_getElem?, List.getElem?_eq_getElem hlt, ← hy])
        have hql : al.length ≤ 9223372036854775807 := HRW.out.r.1
        have HBR := Lib.hid (HE.out.breaks 3)
        have hev : EvAt wc X x := own_r HE.out.own (p := evPc X x) (List.mem_cons_of_mem _ HV.out.1)
        have hrm : wc.rangeAt X 7 (msgA x.m).toList := range_of hev _ (fun j u hu => ev_msg x j u hu)
        have hX := (Array.getElem?_eq_some_iff.1 hev).1
        have HOF1 := Lib.hid (fun W : World => kOf_any y W)
        have HOF2 := Lib.hid (fun W : World => kOf_any x.m W)
        obtain ⟨cy, hcy⟩ : ∃ cs, cs = msgA y := ⟨_, rfl⟩
        obtain ⟨cm, hcm⟩ : ∃ cs, cs = msgA x.m := ⟨_, rfl⟩
        have y1 : cy.size = 6 := by rw [hcy]; rfl
        have y2 : cm.size = 6 := by rw [hcm]; rfl
        have HY := Lib.hid (And.intro y1 y2)
        rw [← hcy] at hrg HOF1
        rw [← hcm] at hrm HOF2
        rw [hga]
        have HG1 := Lib.hid (Bel.range hrg hg)
        have HG2 := Lib.hid (Bel.range hrm hX)
        obtain ⟨j, hj⟩ : ∃ j, j = al.length - 1 := ⟨_, rfl⟩
        rw [← hj] at HG1
        have hjq : (j : Int) < (al.length : Int) := by omega
        have hjj : IntKind.i64.wrap ((al.length : Int) - 1) = (j : Int) := by rw [IntWalk.i64_in _ (by omega)]; omega
        clear hj hcy hcm y1 y2 hX hrm hrg hrg0 hev hy hmr hga hg hlt h0 hql
        generalize al.length = q at *
        go_wp2_with fail
        refine wp_region_bel_tail 13 (by kernel_rfl) (by kernel_rfl) ?_
        simp only [List.take_succ_cons, List.take_zero, List.drop_succ_cons, List.drop_zero]
        repeat (first
          | ((with_reducible refine wpQuiet_load_mid rfl 34 (.tmp 114) rfl g (oo + j * 6) rfl cy.toList _ HG1.out Try.underlying34 rfl (by rw [Array.length_toList, HY.out.1]; kernel_rfl) ?_); simp only [Act.put, Array.toArray_toList, List.setIfInBounds_toArray, List.set_cons_zero, List.set_cons_succ])
          | ((with_reducible refine wpQuiet_load_mid rfl 34 (.tmp 117) rfl X 7 rfl cm.toList _ HG2.out Try.underlying34 rfl (by rw [Array.length_toList, HY.out.2]; kernel_rfl) ?_); simp only [Act.put, Array.toArray_toList, List.setIfInBounds_toArray, List.set_cons_zero, List.set_cons_succ])
          | go_big_quiet_step ((first | (go_at_call 37; first | (with_reducible exact bel_call (HOF1.out _)) | (with_reducible exact bel_call (HOF2.out _))) | (go_at_call 36; with_reducible exact bel_call (kCmp_any _ _ _ _ _)))))
        refine wpQuiet_nil ?_
        intro w4 hw4
        have HC := Lib.hid (HBR.out w4 (bel_out hw4) (decide (0 ≤ keyZ (y.stamp : Int) y.frm (x.m.stamp : Int) x.m.frm)))
        rw [← HF.out] at HC
        clear hw4 HBR hjj hjq
        go_wp2_with fail
        refine HC.out.mono ?_
        rintro e w5 ⟨rfl, hE⟩
        have HE2 := Lib.hid hE
        clear hE HC
        go_wp2_with fail
        go_meet
        exact HE2.out
  case rest =>
  obtain ⟨wf, rfl⟩ : ∃ z, z = wc := ⟨_, rfl⟩
  have HF := Lib.hid hcut
  clear hcut HE HRW
  obtain ⟨zd, hzd⟩ : ∃ zd, zd = lastZ al x zc := ⟨_, rfl⟩
  rw [← hzd] at HF
  have HZD := Lib.hid hzd
  clear hzd
  have hev : EvAt wf X x := own_r HF.out.own (p := evPc X x) (List.mem_cons_of_mem _ HV.out.1)
  have hmx : MsgT wf x.m := own_r HF.out.own (p := msgPc x.m) (List.mem_cons_of_mem _ HV.out.2.1)
  have x11 := at0 (ecell hev 11 (v := .slice x.m.da x.m.ds.length x.m.dc) rfl)
  obtain ⟨dl, hdl⟩ : ∃ dl, dl = x.m.ds.length := ⟨_, rfl⟩
  have hdn : dl ≤ 9223372036854775807 := by rw [hdl]; exact hmx.r.len
  rw [← hdl] at x11
  have HDL := Lib.hid hdl
  clear hdl hev hmx
  go_upto_block 2 with (fail)
  clear x11
  go_cut [] (fun wx => Now w B b0 (M1.bz (depZ (fun i => (get o.cnt i).getD 0) x.m.ds dl zd)) (nxPc N pn :: RR) wx)
  case first =>
    as_aux_lemma =>
      go_wp2_with fail
      go_loopw [127] (fun i wr => ∃ j : Nat, j ≤ dl ∧ i = .int .i64 (j : Int) ∧ Hid (Now w B b0 (M1.bz (depZ (fun i => (get o.cnt i).getD 0) x.m.ds j zd)) (nxPc N pn :: RR) wr)) (fun i _ => dl - (intOf i).toNat)
      case atStart => exact ⟨0, by omega, rfl, HF⟩
      case round =>
        obtain ⟨j, hj, rfl, HW⟩ := hrel
        by_cases hlt : j < dl
        · have hd : decide ((j : Int) < (dl : Int)) = true := by simpa using hlt
          have hi1 : (j : Int) < (dl : Int) := by omega
          have hjl : j < x.m.ds.length := by rw [← HDL.out]; exact hlt
          have hmx : MsgT wr x.m := own_r HW.out.own (p := msgPc x.m) (List.mem_cons_of_mem _ HV.out.2.1)
          obtain ⟨g, oo, hga, hg, hgc⟩ := hmx.r.ds j hjl
          have hSo := own_stay HW.out.own (x := o) HO.out.2
          have o6 := at0 (scell hSo 6 (v := .map (some o.s.cb)) rfl)
          have hlk := cnt_look HW.out.own (x := o) HO.out.2 (j : Int)
          have HST2 := Lib.hid (depZ_step (fun i => (get o.cnt i).getD 0) x.m.ds j zd)
          have hgd : x.m.ds.getD j 0 = x.m.ds[j] := by rw [List.getD_eq_getElem?_getD, List.getElem?_eq_getElem hjl]; rfl
          rw [hgd] at HST2
          have hq32 : x.m.ds[j] < 4294967296 := HSZ.out.2.2.2 _ (List.getElem_mem hjl)
          have HBR := Lib.hid (HW.out.breaks 4 wr (br _))
          have hc0 := (HM1.out.2.1.cnt o HO.out.2 (j : Int)).1
          clear hmx hSo hgd hg
          rw [hga]
          generalize x.m.ds[j] = d at *
          obtain ⟨cc, hcc⟩ : ∃ cc, cc = (get o.cnt (j : Int)).getD 0 := ⟨_, rfl⟩
          rw [← hcc] at hlk hc0
          have HST3 := Lib.hid (show depZ (fun i => (get o.cnt i).getD 0) x.m.ds (j + 1) zd = brk 4 (depZ (fun i => (get o.cnt i).getD 0) x.m.ds j zd) (decide (cc < (d : Int))) from by rw [HST2.out, hcc])
          clear HST2 hcc hga hjl
          generalize depZ (fun i => (get o.cnt i).getD 0) x.m.ds j zd = zj at *
          generalize o.s.cb = cb at *
          generalize o.b = So at *
          have hdn2 : (d : Int) < 4294967296 := by omega
          go_wp2_with fail
          refine (HBR.out (decide (cc < (d : Int)))).mono ?_
          rintro e w5 ⟨rfl, hE⟩
          rw [← HST3.out] at hE
          have HE2 := Lib.hid hE
          clear hE HBR hlk o6 hgc
          go_wp2_with fail
          exact ⟨⟨j + 1, by omega, by go_num, HE2⟩, by simp [intOf]; omega⟩
        · have hd : decide ((j : Int) < (dl : Int)) = false := by simpa using hlt
          obtain rfl : j = dl := by omega
          go_wp2_with fail
          go_meet
          exact HW.out
  case rest =>
  obtain ⟨wg, rfl⟩ : ∃ z, z = wc := ⟨_, rfl⟩
  have HG := Lib.hid hcut
  clear hcut HF
  obtain ⟨ze, hze⟩ : ∃ ze, ze = depZ (fun i => (get o.cnt i).getD 0) x.m.ds dl zd := ⟨_, rfl⟩
  rw [← hze] at HG
  have HZE := Lib.hid hze
  clear hze
  obtain ⟨M2, hM2⟩ : ∃ M2, M2 = M1.setS k (counted o x.m.frm) := ⟨_, rfl⟩
  have HM2 := Lib.hid hM2
  clear hM2
  go_upto_region 27 with (fail)
  go_cut [] (fun wx => Now w B b0 (M2.bz ze) (nxPc N pn :: RR) wx)
  case first =>
    as_aux_lemma =>
      have hev : EvAt wg X x := own_r HG.out.own (p := evPc X x) (List.mem_cons_of_mem _ HV.out.1)
      have hSo := own_stay HG.out.own (x := o) HO.out.2
      have x7 := ecell hev 7 (v := .int .i64 x.m.frm) rfl
      have o6 := scell hSo 6 (v := .map (some o.s.cb)) rfl
      have hlk : ∀ y : Bel wg, (Instr.lookup 63 (.map (some o.s.cb)) (.int .i64 x.m.frm) false).run Try.prog y.val = .ok (.int .i64 ((get o.cnt x.m.frm).getD 0)) y.val := fun y => cnt_look (HG.out.own.below y.prop) (x := o) HO.out.2 _
      have hc0 := (HM1.out.2.1.cnt o HO.out.2 x.m.frm)
      have hn9 := HSZ.out.2.2.1
      obtain ⟨cc, hcc⟩ : ∃ cc, cc = (get o.cnt x.m.frm).getD 0 := ⟨_, rfl⟩
      rw [← hcc] at hlk hc0
      have hwr : IntKind.i64.wrap (cc + 1) = cc + 1 := IntWalk.i64_in _ (by omega)
      have HCC := Lib.hid hcc
      clear hev hSo hcc hc0 hn9
      obtain ⟨cb, hcb⟩ : ∃ cb, cb = o.s.cb := ⟨_, rfl⟩
      rw [← hcb] at hlk o6
      generalize o.b = So at *
      have HCB := Lib.hid hcb
      clear hcb
      refine wp_region_bel_tail 9 (by kernel_rfl) (by kernel_rfl) ?_
      simp only [List.take_succ_cons, List.take_zero, List.drop_succ_cons, List.drop_zero]
      repeat (go_big_quiet_step ((fail)))
      refine wpQuiet_nil ?_
      intro w8 hw8
      have N7 := HG.out.below (bel_out hw8)
      have hokk : o = (M1.bz ze).stays[k]'HK.out := by
        have := HO.out.1
        rw [List.getElem?_eq_getElem HK.out] at this
        injection this with this
        exact this.symm
      obtain ⟨w9, hrun, hg, hgr, hsz⟩ := (own_cnt N7.own (x := o) HO.out.2).update (P := Try.prog) Try.underlying63 intLaw x.m.frm (.int .i64 (cc + 1))
      have N8 : Own w9 b0 (parts B (M2.bz ze) ++ (nxPc N pn :: RR)) ∧ Kept (fun k => b0 ≤ k) w8 w9 := by
        have h := own_count (w' := w9) (k := k) N7.own N7.low HK.out x.m.frm (by
          rw [← hokk]
          have h2 := hg
          rw [show Value.int .i64 (cc + 1) = intV (cc + 1) from rfl, put_vals intV] at h2
          rw [HCC.out] at h2
          exact h2) (by rw [← hokk]; exact hgr)
        rw [← hokk] at h
        rw [HM2.out]
        exact h
      have HE2 := Lib.hid (N7.next N8.1 N8.2)
      have hrun : (Instr.mapUpdate 63 (.map (some cb)) (.int .i64 x.m.frm) (.int .i64 (cc + 1))).run Try.prog w8 = .ok () w9 := by rw [HCB.out]; exact hrun
      clear hw8 x7 o6 hlk hwr N7 N8 hg hgr hsz HG hokk
      go_wp2_with fail
      go_meet
      exact HE2.out
  case rest =>
  obtain ⟨wh, rfl⟩ : ∃ z, z = wc := ⟨_, rfl⟩
  have HH := Lib.hid hcut
  clear hcut HG
  have HO2 := Lib.hid (show counted o x.m.frm ∈ M2.stays ∧ ∃ hk2 : k < M2.stays.length, M2.stays[k] = counted o x.m.frm from by
    have hk2 : k < M2.stays.length := by rw [HM2.out]; simpa [MM.setS] using HK.out
    have he : M2.stays[k] = counted o x.m.frm := by simp [HM2.out, MM.setS]
    exact ⟨he ▸ List.getElem_mem hk2, hk2, he⟩)
  obtain ⟨i0, hi, hz0, hz1, hz2⟩ := info_parts info34
  have HI := Lib.hid (And.intro hi (And.intro hz0 (And.intro hz1 hz2)))
  clear hi hz0 hz1 hz2
  go_upto_region 28 with (fail)
  go_cut [10] (fun s10 wx => ∃ ad cap, Now w B b0 ((M2.setS k (if o.s.tr.isSome = true then got1 (counted o x.m.frm) x.m ad cap else got0 (counted o x.m.frm) x.m ad cap)).bz ze) (nxPc N pn :: RR) wx)
  case first =>
    as_aux_lemma =>
      have hobb := hob.out
      cases hpart : o.s.tr.isSome
      · obtain rfl : pt = 0 := by rw [HPT.out, hpart]; rfl
        have HPART := Lib.hid hpart
        clear hpart
        have HS := Lib.hid (show ∀ w', Kept (fun b => (rowPc (r0 o)).blk = some b) wh w' → (w'.cell? ⟨o.b, 4, none⟩ = some (.slice o.s.a0 o.s.p0.length o.s.c0) ∧ w'.rangeAt X 7 (msgA x.m).toList) from fun w' hk => by
          have hev : EvAt wh X x := own_r HH.out.own (p := evPc X x) (List.mem_cons_of_mem _ HV.out.1)
          have hst := own_stay HH.out.own (x := counted o x.m.frm) HO2.out.1
          have hne : ∀ b cs t fr, wh.heap[b]? = some (.cells cs t fr) → t ≠ 34 → ¬ (rowPc (r0 o)).blk = some b := fun b cs t fr hb ht e => by
            obtain ⟨c, fz, hc⟩ := Lib.ownsRow_kind (own_r0 HH.out.own (x := counted o x.m.frm) HO2.out.1).1 b e
            rw [hb] at hc
            injection hc with hc
            injection hc with _ hc _
            exact ht hc
          have g1 := hk.keep hev (hne _ _ _ _ hev (by decide))
          have g2 := hk.keep hst (hne _ _ _ _ hst (by decide))
          exact ⟨cell_of_row _ _ 4 _ _ _ g2, range_of g1 _ (fun j u hu => ev_msg x j u hu)⟩)
        have hS0 := HS.out _ (Kept.refl _ _).drew
        have H3 := Lib.hid (show Kept (fun b => (rowPc (r0 o)).blk = some b) wh wh.drew from (Kept.refl _ _).drew)
        have HW := Lib.hid (show Below wh.heap.size wh wh.drew from (br wh).drew)
        obtain ⟨So, hSo⟩ : ∃ So, So = o.b := ⟨_, rfl⟩
        have HSo := Lib.hid hSo
        clear hSo
        have HRK := Lib.hid (own_r0 HH.out.own (x := counted o x.m.frm) HO2.out.1)
        have hll : o.s.p0.length ≤ 9999 := hob.out.1
        refine wp_region_mask (fun w' => w'.cell? ⟨o.b, 4, none⟩ = some (.slice o.s.a0 o.s.p0.length o.s.c0) ∧ w'.rangeAt X 7 (msgA x.m).toList) 15 4 [true, true, true, true, true, true, true, true, true, true, false, false, true, true, false, false] #[true, true, true, true, true, true, true, true, true, true, false, false, true, true, false, false] (by kernel_rfl) (by kernel_rfl) (by kernel_rfl) hS0 ?_
        clear hS0
        generalize wh.drew = W at *
        iterate 9
          refine wpMask_take _ (Or.inl ⟨by rfl, fun w' hS => by obtain ⟨h1, h2⟩ := hS; clear h2; go_simp; try with_reducible rfl⟩) ?_
          simp only [Act.put, List.setIfInBounds_toArray, List.set_cons_zero, List.set_cons_succ]
        refine wpMask_take _ (yieldsIf_load_mid (by rfl) 34 (.tmp 161) rfl X 7 rfl (msgA x.m).toList _ (fun w' hS => hS.2) Try.underlying34 rfl (by kernel_rfl)) ?_
        simp only [Act.put, List.setIfInBounds_toArray, List.set_cons_zero, List.set_cons_succ]
        refine wpMask_skip (wpMask_skip ?_)
        iterate 2
          refine wpMask_take _ (Or.inl ⟨by rfl, fun w' hS => by obtain ⟨h1, h2⟩ := hS; clear h2; go_simp; try with_reducible rfl⟩) ?_
          simp only [Act.put, List.setIfInBounds_toArray, List.set_cons_zero, List.set_cons_succ]
        refine wpMask_skip (wpMask_skip (wpMask_nil ?_))
        refine wpAnyS_ready (rs := [10]) (by kernel_rfl) (by simp) ?_
        refine AllReadyS.cons rfl (fun T hT => ?_) AllReadyS.nil
        refine step_buildSlice_row rfl 61 (.tmp 162) rfl 34 i0 _ Try.underlying61 HI.out.1 HI.out.2.1 (msgA x.m).toList.toArray rfl (by rw [HI.out.2.2.1]; rfl) (by simp [msgA]) (by simp [msgA]) ?_
        have H8 := Lib.hid (H3.out.alloc (.cells (msgA x.m).toList.toArray 34))
        refine hT.out _ _ (fun _ => HS.out _ H8.out) ?_
        clear hT T
        simp only [Act.put, List.setIfInBounds_toArray, List.set_cons_zero, List.set_cons_succ]
        have hown8 := Lib.hid (ownOne W 0 34 (msgA x.m).toList.toArray 6 rfl (Nat.zero_le _))
        have hbW := ba HW.out (.cells (msgA x.m).toList.toArray 34)
        have hrow8 := Lib.hid ((HH.out.below hbW).own)
        have hr8 := Lib.hid (own_r0 hrow8.out (x := counted o x.m.frm) HO2.out.1)
        have HBW := Lib.hid hbW
        clear hbW
        generalize hw8 : W.alloc (.cells (msgA x.m).toList.toArray 34) = w8 at *
        clear hw8
        refine wpAnyS_ready (rs := [11]) (by kernel_rfl) (by simp) ?_
        refine AllReadyS.cons rfl (fun T hT => ?_) AllReadyS.nil
        refine step_append_any _ rfl (.tmp 160) (.tmp 163) 61 rfl 0 34 i0 _ 6 72 Try.underlying61 HI.out.1 HI.out.2.1 HI.out.2.2.1 HI.out.2.2.2 rfl (by decide) _ o.s.p0.length (rowsM o.s.p0) rfl hr8.out.1 _ _ 1 1 (msgA x.m).toList rfl (Reads.of_own hown8.out) (msgA_one x.m) (by unfold maxLen; omega) (by omega) (Nat.zero_le _) ?_
        intro v' w11 ho11 hg11 hu11
        have hg11 : w8.grownBy w11 (Value.slice o.s.a0 o.s.p0.length o.s.c0).ownBlock := hg11
        have hu11 : v'.ownBlock = (Value.slice o.s.a0 o.s.p0.length o.s.c0).ownBlock ∨ v'.ownBlock = some w8.heap.size := hu11
        have hK11 : Kept (fun b => (rowPc (r0 o)).blk = some b) wh w11 := H8.out.trans ((Kept.of_grown' hg11).more fun k _ e => by
          obtain ⟨b, hb, rfl⟩ := e
          exact hb)
        refine hT.out _ _ (fun _ => HS.out _ hK11) ?_
        clear hT T
        simp only [Act.put, List.getElem_toArray, List.getElem_cons_succ, List.getElem_cons_zero, List.setIfInBounds_toArray, List.set_cons_zero, List.set_cons_succ]
        obtain ⟨ad', cap', rfl⟩ := ownForm ho11
        obtain ⟨hk2, he2⟩ := HO2.out.2
        have hqq : Quiet wh (fun b => (rowPc (r0 o)).blk = some b) := fun b hb cs t fr hc => by
          obtain ⟨c, fz, hc'⟩ := Lib.ownsRow_kind HRK.out.1 b hb
          rw [hc] at hc'
          injection hc' with hc'
          injection hc' with _ hc' _
          subst hc'
          exact ⟨by decide, by decide⟩
        have hgot := own_got0 (w11 := w11) HH.out.own HH.out.low hk2 x.m ad' cap' (by
          have e2 : (M2.bz ze).stays[k] = counted o x.m.frm := he2
          rw [e2]
          refine ⟨?_, fun m hm => ?_⟩
          · show w11.ownsRow 0 34 6 (.slice ad' (o.s.p0 ++ [x.m]).length cap') (o.s.p0 ++ [x.m]).length (rowsM (o.s.p0 ++ [x.m]))
            rw [show (o.s.p0 ++ [x.m]).length = o.s.p0.length + 1 from by simp, rowsM_snoc]
            exact ho11
          · have hmt : MsgT wh m := by
              have hm : m ∈ o.s.p0 ++ [x.m] := hm
              rcases List.mem_append.1 hm with hm | hm
              · exact HRK.out.2 m hm
              · rw [List.mem_singleton.1 hm]
                exact own_r HH.out.own (p := msgPc x.m) (List.mem_cons_of_mem _ HV.out.2.1)
            exact hmt.quiet hK11 hqq) (by
          have e2 : (M2.bz ze).stays[k] = counted o x.m.frm := he2
          rw [e2]
          exact hK11) (by
          have e2 : (M2.bz ze).stays[k] = counted o x.m.frm := he2
          rw [e2]
          intro b e
          have e : (Value.slice ad' (o.s.p0 ++ [x.m]).length cap').ownBlock = some b := e
          rw [show (o.s.p0 ++ [x.m]).length = o.s.p0.length + 1 from by simp] at e
          rcases hu11 with h | h
          · left
            rw [h] at e
            exact e
          · right
            rw [h] at e
            injection e with e
            have := HBW.out.size
            omega)
        have e2 : (M2.bz ze).stays[k] = counted o x.m.frm := he2
        rw [e2] at hgot
        have hst11 : StAt w11 o.b o.s := hgot.1
        have c0' : w11.cell? ⟨o.b, 4, none⟩ = some (.slice o.s.a0 o.s.p0.length o.s.c0) := cell_of_row _ _ 4 _ _ _ hst11
        have f0' : w11.frozen? ⟨o.b, 4, none⟩ = false := frozen_of_row _ _ _ _ _ hst11
        have HGOT := Lib.hid (show Now w B b0 ((M2.setS k (got0 (counted o x.m.frm) x.m ad' cap')).bz ze) (nxPc N pn :: RR) (w11.setCell ⟨o.b, 4, none⟩ (.slice ad' (o.s.p0.length + 1) cap')) from by
          have h2 := HH.out.next hgot.2.1 hgot.2.2
          rw [show (counted o x.m.frm).s.p0 ++ [x.m] = o.s.p0 ++ [x.m] from rfl, show (o.s.p0 ++ [x.m]).length = o.s.p0.length + 1 from by simp] at h2
          exact h2)
        have HK11 := Lib.hid hK11
        clear hgot hst11 e2 he2 hqq hK11 hg11 hu11 ho11 hrow8 hr8 hown8 HBW HRK
        refine wpAnyS_ready (rs := [14]) (by kernel_rfl) (by simp) ?_
        refine AllReadyS.cons rfl (fun T hT => ?_) AllReadyS.nil
        go_simp
        refine hT.out _ _ (fun _ => HS.out _ HK11.out) ?_
        clear hT T
        simp only [Act.put, List.getElem_toArray, List.getElem_cons_succ, List.getElem_cons_zero, List.setIfInBounds_toArray, List.set_cons_zero, List.set_cons_succ]
        refine wpAnyS_ready (rs := [15]) (by kernel_rfl) (by simp) ?_
        refine AllReadyS.cons rfl (fun T hT => ?_) AllReadyS.nil
        go_simp
        refine hT.out _ _ (fun h => absurd h (by omega)) ?_
        clear hT T c0' f0'
        simp only [Act.put, List.getElem_toArray, List.getElem_cons_succ, List.getElem_cons_zero, List.setIfInBounds_toArray, List.set_cons_zero, List.set_cons_succ]
        refine wpAnyS_done (by kernel_rfl) ?_ _
        go_wp2_with fail
        go_meet
        exact ⟨ad', cap', by rw [if_neg (by rw [HPART.out]; decide)]; exact HGOT.out⟩
      · obtain rfl : pt = 1 := by rw [HPT.out, hpart]; rfl
        have HPART := Lib.hid hpart
        clear hpart
        have HS := Lib.hid (show ∀ w', Kept (fun b => (rowPc (r1 o)).blk = some b) wh w' → (w'.cell? ⟨o.b, 5, none⟩ = some (.slice o.s.a1 o.s.p1.length o.s.c1) ∧ w'.rangeAt X 7 (msgA x.m).toList) from fun w' hk => by
          have hev : EvAt wh X x := own_r HH.out.own (p := evPc X x) (List.mem_cons_of_mem _ HV.out.1)
          have hst := own_stay HH.out.own (x := counted o x.m.frm) HO2.out.1
          have hne : ∀ b cs t fr, wh.heap[b]? = some (.cells cs t fr) → t ≠ 34 → ¬ (rowPc (r1 o)).blk = some b := fun b cs t fr hb ht e => by
            obtain ⟨c, fz, hc⟩ := Lib.ownsRow_kind (own_r1 HH.out.own (x := counted o x.m.frm) HO2.out.1).1 b e
            rw [hb] at hc
            injection hc with hc
            injection hc with _ hc _
            exact ht hc
          have g1 := hk.keep hev (hne _ _ _ _ hev (by decide))
          have g2 := hk.keep hst (hne _ _ _ _ hst (by decide))
          exact ⟨cell_of_row _ _ 5 _ _ _ g2, range_of g1 _ (fun j u hu => ev_msg x j u hu)⟩)
        have hS0 := HS.out _ (Kept.refl _ _).drew
        have H3 := Lib.hid (show Kept (fun b => (rowPc (r1 o)).blk = some b) wh wh.drew from (Kept.refl _ _).drew)
        have HW := Lib.hid (show Below wh.heap.size wh wh.drew from (br wh).drew)
        obtain ⟨So, hSo⟩ : ∃ So, So = o.b := ⟨_, rfl⟩
        have HSo := Lib.hid hSo
        clear hSo
        have HRK := Lib.hid (own_r1 HH.out.own (x := counted o x.m.frm) HO2.out.1)
        have hll : o.s.p1.length ≤ 9999 := hob.out.2
        refine wp_region_mask (fun w' => w'.cell? ⟨o.b, 5, none⟩ = some (.slice o.s.a1 o.s.p1.length o.s.c1) ∧ w'.rangeAt X 7 (msgA x.m).toList) 15 4 [true, true, true, true, true, true, true, true, true, true, false, false, true, true, false, false] #[true, true, true, true, true, true, true, true, true, true, false, false, true, true, false, false] (by kernel_rfl) (by kernel_rfl) (by kernel_rfl) hS0 ?_
        clear hS0
        generalize wh.drew = W at *
        iterate 9
          refine wpMask_take _ (Or.inl ⟨by rfl, fun w' hS => by obtain ⟨h1, h2⟩ := hS; clear h2; go_simp; try with_reducible rfl⟩) ?_
          simp only [Act.put, List.setIfInBounds_toArray, List.set_cons_zero, List.set_cons_succ]
        refine wpMask_take _ (yieldsIf_load_mid (by rfl) 34 (.tmp 161) rfl X 7 rfl (msgA x.m).toList _ (fun w' hS => hS.2) Try.underlying34 rfl (by kernel_rfl)) ?_
        simp only [Act.put, List.setIfInBounds_toArray, List.set_cons_zero, List.set_cons_succ]
        refine wpMask_skip (wpMask_skip ?_)
        iterate 2
          refine wpMask_take _ (Or.inl ⟨by rfl, fun w' hS => by obtain ⟨h1, h2⟩ := hS; clear h2; go_simp; try with_reducible rfl⟩) ?_
          simp only [Act.put, List.setIfInBounds_toArray, List.set_cons_zero, List.set_cons_succ]
        refine wpMask_skip (wpMask_skip (wpMask_nil ?_))
        refine wpAnyS_ready (rs := [10]) (by kernel_rfl) (by simp) ?_
        refine AllReadyS.cons rfl (fun T hT => ?_) AllReadyS.nil
        refine step_buildSlice_row rfl 61 (.tmp 162) rfl 34 i0 _ Try.underlying61 HI.out.1 HI.out.2.1 (msgA x.m).toList.toArray rfl (by rw [HI.out.2.2.1]; rfl) (by simp [msgA]) (by simp [msgA]) ?_
        have H8 := Lib.hid (H3.out.alloc (.cells (msgA x.m).toList.toArray 34))
        refine hT.out _ _ (fun _ => HS.out _ H8.out) ?_
        clear hT T
        simp only [Act.put, List.setIfInBounds_toArray, List.set_cons_zero, List.set_cons_succ]
        have hown8 := Lib.hid (ownOne W 0 34 (msgA x.m).toList.toArray 6 rfl (Nat.zero_le _))
        have hbW := ba HW.out (.cells (msgA x.m).toList.toArray 34)
        have hrow8 := Lib.hid ((HH.out.below hbW).own)
        have hr8 := Lib.hid (own_r1 hrow8.out (x := counted o x.m.frm) HO2.out.1)
        have HBW := Lib.hid hbW
        clear hbW
        generalize hw8 : W.alloc (.cells (msgA x.m).toList.toArray 34) = w8 at *
        clear hw8
        refine wpAnyS_ready (rs := [11]) (by kernel_rfl) (by simp) ?_
        refine AllReadyS.cons rfl (fun T hT => ?_) AllReadyS.nil
        refine step_append_any _ rfl (.tmp 160) (.tmp 163) 61 rfl 0 34 i0 _ 6 72 Try.underlying61 HI.out.1 HI.out.2.1 HI.out.2.2.1 HI.out.2.2.2 rfl (by decide) _ o.s.p1.length (rowsM o.s.p1) rfl hr8.out.1 _ _ 1 1 (msgA x.m).toList rfl (Reads.of_own hown8.out) (msgA_one x.m) (by unfold maxLen; omega) (by omega) (Nat.zero_le _) ?_
        intro v' w11 ho11 hg11 hu11
        have hg11 : w8.grownBy w11 (Value.slice o.s.a1 o.s.p1.length o.s.c1).ownBlock := hg11
        have hu11 : v'.ownBlock = (Value.slice o.s.a1 o.s.p1.length o.s.c1).ownBlock ∨ v'.ownBlock = some w8.heap.size := hu11
        have hK11 : Kept (fun b => (rowPc (r1 o)).blk = some b) wh w11 := H8.out.trans ((Kept.of_grown' hg11).more fun k _ e => by
          obtain ⟨b, hb, rfl⟩ := e
          exact hb)
        refine hT.out _ _ (fun _ => HS.out _ hK11) ?_
        clear hT T
        simp only [Act.put, List.getElem_toArray, List.getElem_cons_succ, List.getElem_cons_zero, List.setIfInBounds_toArray, List.set_cons_zero, List.set_cons_succ]
        obtain ⟨ad', cap', rfl⟩ := ownForm ho11
        obtain ⟨hk2, he2⟩ := HO2.out.2
        have hqq : Quiet wh (fun b => (rowPc (r1 o)).blk = some b) := fun b hb cs t fr hc => by
          obtain ⟨c, fz, hc'⟩ := Lib.ownsRow_kind HRK.out.1 b hb
          rw [hc] at hc'
          injection hc' with hc'
          injection hc' with _ hc' _
          subst hc'
          exact ⟨by decide, by decide⟩
        have hgot := own_got1 (w11 := w11) HH.out.own HH.out.low hk2 x.m ad' cap' (by
          have e2 : (M2.bz ze).stays[k] = counted o x.m.frm := he2
          rw [e2]
          refine ⟨?_, fun m hm => ?_⟩
          · show w11.ownsRow 0 34 6 (.slice ad' (o.s.p1 ++ [x.m]).length cap') (o.s.p1 ++ [x.m]).length (rowsM (o.s.p1 ++ [x.m]))
            rw [show (o.s.p1 ++ [x.m]).length = o.s.p1.length + 1 from by simp, rowsM_snoc]
            exact ho11
          · have hmt : MsgT wh m := by
              have hm : m ∈ o.s.p1 ++ [x.m] := hm
              rcases List.mem_append.1 hm with hm | hm
              · exact HRK.out.2 m hm
              · rw [List.mem_singleton.1 hm]
                exact own_r HH.out.own (p := msgPc x.m) (List.mem_cons_of_mem _ HV.out.2.1)
            exact hmt.quiet hK11 hqq) (by
          have e2 : (M2.bz ze).stays[k] = counted o x.m.frm := he2
          rw [e2]
          exact hK11) (by
          have e2 : (M2.bz ze).stays[k] = counted o x.m.frm := he2
          rw [e2]
          intro b e
          have e : (Value.slice ad' (o.s.p1 ++ [x.m]).length cap').ownBlock = some b := e
          rw [show (o.s.p1 ++ [x.m]).length = o.s.p1.length + 1 from by simp] at e
          rcases hu11 with h | h
          · left
            rw [h] at e
            exact e
          · right
            rw [h] at e
            injection e with e
            have := HBW.out.size
            omega)
        have e2 : (M2.bz ze).stays[k] = counted o x.m.frm := he2
        rw [e2] at hgot
        have hst11 : StAt w11 o.b o.s := hgot.1
        have c1' : w11.cell? ⟨o.b, 5, none⟩ = some (.slice o.s.a1 o.s.p1.length o.s.c1) := cell_of_row _ _ 5 _ _ _ hst11
        have f1' : w11.frozen? ⟨o.b, 5, none⟩ = false := frozen_of_row _ _ _ _ _ hst11
        have HGOT := Lib.hid (show Now w B b0 ((M2.setS k (got1 (counted o x.m.frm) x.m ad' cap')).bz ze) (nxPc N pn :: RR) (w11.setCell ⟨o.b, 5, none⟩ (.slice ad' (o.s.p1.length + 1) cap')) from by
          have h2 := HH.out.next hgot.2.1 hgot.2.2
          rw [show (counted o x.m.frm).s.p1 ++ [x.m] = o.s.p1 ++ [x.m] from rfl, show (o.s.p1 ++ [x.m]).length = o.s.p1.length + 1 from by simp] at h2
          exact h2)
        have HK11 := Lib.hid hK11
        clear hgot hst11 e2 he2 hqq hK11 hg11 hu11 ho11 hrow8 hr8 hown8 HBW HRK
        refine wpAnyS_ready (rs := [14]) (by kernel_rfl) (by simp) ?_
        refine AllReadyS.cons rfl (fun T hT => ?_) AllReadyS.nil
        go_simp
        refine hT.out _ _ (fun _ => HS.out _ HK11.out) ?_
        clear hT T
        simp only [Act.put, List.getElem_toArray, List.getElem_cons_succ, List.getElem_cons_zero, List.setIfInBounds_toArray, List.set_cons_zero, List.set_cons_succ]
        refine wpAnyS_ready (rs := [15]) (by kernel_rfl) (by simp) ?_
        refine AllReadyS.cons rfl (fun T hT => ?_) AllReadyS.nil
        go_simp
        refine hT.out _ _ (fun h => absurd h (by omega)) ?_
        clear hT T c1' f1'
        simp only [Act.put, List.getElem_toArray, List.getElem_cons_succ, List.getElem_cons_zero, List.setIfInBounds_toArray, List.set_cons_zero, List.set_cons_succ]
        refine wpAnyS_done (by kernel_rfl) ?_ _
        go_wp2_with fail
        go_meet
        exact ⟨ad', cap', by rw [if_pos HPART.out]; exact HGOT.out⟩
  case rest =>
  obtain ⟨ad3, cap3, hcut⟩ := hcut
  obtain ⟨wi, rfl⟩ : ∃ z, z = wc := ⟨_, rfl⟩
  obtain ⟨M3, hM3⟩ : ∃ M3, M3 = M2.setS k (gotS o x.m ad3 cap3) := ⟨_, rfl⟩
  have H9 := Lib.hid (show Now w B b0 (M3.bz ze) (nxPc N pn :: RR) wi from by rw [hM3]; exact hcut)
  have hM3b : M3 = M1.setS k (gotS o x.m ad3 cap3) := by
    rw [hM3, HM2.out]
    simp [MM.setS, List.set_set]
  have HM3 := Lib.hid (show MOk M3 ∧ Sz (n + 1) M3 ∧ proj M3 = { dlv0 (proj M) x with stays := (dlv0 (proj M) x).stays.set k (gotP (projS o) x.m) } ∧ M3.c = M1.c ∧ M3.stays.length = M.stays.length ∧ ∃ o3, o3 ∈ M3.stays ∧ o3.b = o.b ∧ o3.s.ce = o.s.ce ∧ o3.s.cr = o.s.cr from by
    rw [hM3b]
    have hsz := HM1.out.2.1
    have hg := gotS_sz (hsz.rows o HO.out.2) (hsz.cnt o HO.out.2) x.m ad3 cap3
    refine ⟨setS_ok HM1.out.1 _ _, ⟨?_, ?_, ?_, fun k => Nat.le_succ_of_le (hsz.sent k)⟩, ?_, rfl, ?_, gotS o x.m ad3 cap3, ?_, gotS_keep o x.m ad3 cap3⟩
    · have := hsz.stays
      simp [MM.setS]
      omega
    · intro y hy
      rcases List.mem_or_eq_of_mem_set hy with hy | rfl
      · have := hsz.rows y hy
        omega
      · exact hg.1
    · intro y hy
      rcases List.mem_or_eq_of_mem_set hy with hy | rfl
      · intro i
        have := hsz.cnt y hy i
        omega
      · exact hg.2
    · rw [proj_setS, gotS_proj, HM1.out.2.2.2.1]
    · rw [← HM1.out.2.2.1]
      simp [MM.setS]
    · exact List.mem_of_getElem? (i := k) (by simp [MM.setS, HK.out])
    )
  clear hM3 hM3b hcut HH HM2 HO2 HI
  obtain ⟨o3, ho3, hb3, hce3, hcr3⟩ := HM3.out.2.2.2.2.2
  obtain ⟨n3, hn3⟩ : ∃ n3, n3 = M3.stays.length := ⟨_, rfl⟩
  obtain ⟨sa, hsa⟩ : ∃ sa, sa = M3.c.sa := ⟨_, rfl⟩
  obtain ⟨sc, hsc⟩ : ∃ sc, sc = M3.c.sc := ⟨_, rfl⟩
  have c3 : wi.cell? ⟨B, 3, none⟩ = some (.slice sa n3 sc) := at0 (mcell H9.out.own 3 (by rw [hsa, hsc, hn3, ← HM3.out.1.n]; rfl))
  have hn1 : n3 ≤ 10000 := by
    have := HM3.out.2.1.stays
    have := HSZ.out.2.2.1
    omega
  have HN := Lib.hid (And.intro hn3 (And.intro hsa (And.intro ho3 (And.intro hb3 (And.intro hce3 hcr3)))))
  clear hn3 hsa hsc ho3 hb3 hce3 hcr3
  obtain ⟨cf, hcf⟩ : ∃ cf : ConfK, cf = ((o.s.ce : Int), o.s.cr) := ⟨_, rfl⟩
  have HCF := Lib.hid hcf
  clear hcf
  have HRES := Lib.hid (show ∀ w', Now w B b0 (M3.bz (pastZ cf (bare x.m) pm (proj M3).stays ze)) (nxPc N pn :: RR) w' → Res w B b0 R (pdeliver (proj M) x) (n + 1) w' from fun w' h => by
    obtain ⟨Q, hQ⟩ := HV.out.2.2
    rw [hQ] at h
    refine ⟨_, h.next (h.own.drop (Q := nxPc N pn :: Q)) (.refl _ _), bz_ok HM3.out.1 _, ⟨HM3.out.2.1.stays, HM3.out.2.1.rows, HM3.out.2.1.cnt, HM3.out.2.1.sent⟩, ?_⟩
    have e1 : pstay (dlv0 (proj M) x) x = some k := by rw [← HM1.out.2.2.2.1, ← stayOf_proj]; exact HST.out
    have e2 : (dlv0 (proj M) x).stays[k]? = some (projS o) := by
      rw [← HM1.out.2.2.2.1]
      show (M1.stays.map projS)[k]? = _
      rw [List.getElem?_map, HO.out.1]
      rfl
    have e3 : (dlv0 (proj M) x).broken = zb := by
      rw [← HM1.out.2.2.2.1]
      exact HM1.out.2.2.2.2.1
    have e4 : dlvZ (projS o) x zb = ze := by
      unfold dlvZ
      rw [HZE.out, HZD.out, HZC.out, HDL.out, HAL.out, ← HPN.out]
      show depZ _ _ _ (lastZ (o.s.p0.map bare ++ o.s.p1.map bare) x _) = _
      rw [← List.map_append, lastZ_bare]
      rfl
    have e5 : (projS o).conf = cf := HCF.out.symm
    show ({ proj M3 with broken := pastZ cf (bare x.m) pm (proj M3).stays ze } : PM) = _
    unfold pdeliver
    rw [e1]
    simp only [e2]
    rw [e3, e4, e5, ← HPM.out, HM3.out.2.2.1])
  go_upto_block 4 with (fail)
  clear c3
  go_wp2_with fail
  go_loopw [174] (fun i wr => ∃ j : Nat, j ≤ n3 ∧ i = .int .i64 (j : Int) ∧ Hid (Now w B b0 (M3.bz (pastZ cf (bare x.m) pm ((proj M3).stays.take j) ze)) (nxPc N pn :: RR) wr)) (fun i _ => n3 - (intOf i).toNat)
  case atStart => exact ⟨0, by omega, rfl, H9⟩
  case round =>
    obtain ⟨j, hj, rfl, HW⟩ := hrel
    by_cases hlt : j < n3
    · have hd : decide ((j : Int) < (n3 : Int)) = true := by simpa using hlt
      have hi1 : (j : Int) < (n3 : Int) := by omega
      have hjl : j < M3.stays.length := by rw [← HN.out.1]; exact hlt
      obtain ⟨g, hg0, hgl, hgc0⟩ := own_ptr (M := M3.bz (pastZ cf (bare x.m) pm ((proj M3).stays.take j) ze)) HW.out.own ⟨HM3.out.1.n, HM3.out.1.now⟩ hjl
      have hg : sa = some ⟨g, 0, none⟩ := HN.out.2.1.trans hg0
      subst hg
      have hgc : wr.cell? ⟨g, j, none⟩ = some (.pointer (some ⟨M3.stays[j].b, 0, none⟩)) := hgc0
      have hSt : pastZ cf (bare x.m) pm ((proj M3).stays.take (j + 1)) ze = pastZ1 cf (bare x.m) pm (pastZ cf (bare x.m) pm ((proj M3).stays.take j) ze) (projS M3.stays[j]) := by
        unfold pastZ
        rw [List.take_succ_eq_append_getElem (by simp [proj]; exact hjl), List.foldl_append]
        simp [proj]
      have hpm : M3.stays[j] ∈ M3.stays := List.getElem_mem hjl
      clear hgc0 hg0 hgl
      obtain ⟨p, hp⟩ : ∃ p, p = M3.stays[j] := ⟨_, rfl⟩
      rw [← hp] at hgc hSt hpm
      have hSp := own_stay HW.out.own (x := p) hpm
      have hSo : StAt wr o.b o3.s := by
        have := own_stay HW.out.own (x := o3) HN.out.2.2.1
        rwa [HN.out.2.2.2.1] at this
      have HPB := Lib.hid (show pastB cf (projS p) = (((p.s.ce : Int) == (o.s.ce : Int) && p.s.cr == o.s.cr) && p.s.went) from by
        unfold pastB
        rw [HCF.out, Bool.eq_iff_iff]
        simp [projS, Prod.mk.injEq])
      have p1 := scell hSp 1 (v := .int .u64 (p.s.ce : Int)) rfl
      have p2 := scell hSp 2 (v := .int .i64 p.s.cr) rfl
      have p8 := scell hSp 8 (v := .bool p.s.went) rfl
      have s1 := scell hSo 1 (v := .int .u64 (o.s.ce : Int)) (by show some (Value.int .u64 (o3.s.ce : Int)) = _; rw [HN.out.2.2.2.2.1])
      have s2 := scell hSo 2 (v := .int .i64 o.s.cr) (by show some (Value.int .i64 o3.s.cr) = _; rw [HN.out.2.2.2.2.2])
      have hce := fun W => confEq W (p.s.ce : Int) p.s.cr (o.s.ce : Int) o.s.cr
      have HST2 := Lib.hid hSt
      have HPM2 := Lib.hid hpm
      generalize hzj : pastZ cf (bare x.m) pm ((proj M3).stays.take j) ze = zj at *
      clear hSp hSo hSt hpm hp hjl hzj
      generalize hDD : ((p.s.ce : Int) == (o.s.ce : Int) && p.s.cr == o.s.cr) = D at *
      clear hDD
      obtain ⟨wt, hwt⟩ : ∃ wt, wt = p.s.went := ⟨_, rfl⟩
      rw [← hwt] at p8 HPB
      clear hwt
      obtain ⟨Sp, hSp⟩ : ∃ Sp, Sp = p.b := ⟨_, rfl⟩
      rw [← hSp] at p1 p2 p8 hgc
      have HSP := Lib.hid hSp
      clear hSp
      go_upto_region 32 with (fail)
      clear hgc
      go_cut [192] (fun s192 wx => s192 = .bool (pastB cf (projS p)) ∧ Now w B b0 (M3.bz zj) (nxPc N pn :: RR) wx)
      case first =>
        cases D
        · refine wp_region_bel (by kernel_rfl) (by kernel_rfl) ?_
          repeat (go_big_quiet_step ((fail)))
          refine wpQuiet_nil ?_
          intro w8 hw8
          have HE2 := Lib.hid (HW.out.below (bel_out hw8))
          clear hw8 p1 p2 p8 s1 s2 hce
          go_wp2_with fail
          go_meet
          exact ⟨by rw [HPB.out]; rfl, HE2.out⟩
        · refine wp_region_bel (by kernel_rfl) (by kernel_rfl) ?_
          repeat (go_big_quiet_step ((fail)))
          refine wpQuiet_nil ?_
          intro w8 hw8
          have HE2 := Lib.hid (HW.out.below (bel_out hw8))
          clear hw8 p1 p2 p8 s1 s2 hce
          go_wp2_with fail
          go_meet
          exact ⟨by rw [HPB.out]; rfl, HE2.out⟩
      case rest =>
      obtain ⟨rfl, hcut⟩ := hcut
      obtain ⟨wk, rfl⟩ : ∃ z, z = wc := ⟨_, rfl⟩
      have HK9 := Lib.hid hcut
      clear hcut p1 p2 p8 s1 s2 hce
      cases hpb : pastB cf (projS p)
      · have HE2 := Lib.hid (show Now w B b0 (M3.bz (pastZ cf (bare x.m) pm ((proj M3).stays.take (j + 1)) ze)) (nxPc N pn :: RR) wk from by
          rw [HST2.out]
          unfold pastZ1
          rw [if_neg (by rw [hpb]; decide)]
          exact HK9.out)
        clear hpb
        go_wp2_with fail
        exact ⟨⟨j + 1, by omega, by go_num, HE2⟩, by simp [intOf]; omega⟩
      · have hev : EvAt wk X x := own_r HK9.out.own (p := evPc X x) (List.mem_cons_of_mem _ HV.out.1)
        have hmx : MsgT wk x.m := own_r HK9.out.own (p := msgPc x.m) (List.mem_cons_of_mem _ HV.out.2.1)
        have x7 := at0 (ecell hev 7 (v := .int .i64 x.m.frm) rfl)
        have x8 := at0 (ecell hev 8 (v := .int .u32 (x.m.seq : Int)) rfl)
        have x9 := at0 (ecell hev 9 (v := .int .u64 (x.m.stamp : Int)) rfl)
        have x10 := at0 (ecell hev 10 (v := .int .i64 x.m.service) rfl)
        have x11 := at0 (ecell hev 11 (v := .slice x.m.da x.m.ds.length x.m.dc) rfl)
        have x12 := at0 (ecell hev 12 (v := .string x.m.pay) rfl)
        obtain ⟨wl, hwl⟩ : ∃ wl, wl = wk.alloc (.cells (msgA x.m) 34) := ⟨_, rfl⟩
        have hbl : Below wk.heap.size wk wl := by rw [hwl]; exact ba (br wk) _
        have hrow : RowT wl (some ⟨wk.heap.size, 0, none⟩) [x.m] := by
          refine RowT.of_own (B := 0) (cap := 1) ?_ (by simp) (fun m hm => by rw [List.mem_singleton.1 hm]; exact hmx.below hbl)
          have h := ownOne wk 0 34 (msgA x.m) 6 rfl (Nat.zero_le _)
          rw [← hwl] at h
          have e : rowsM [x.m] = (msgA x.m).toList := by simp [rowsM]
          rw [e]
          exact h
        have Nl := HK9.out.below hbl
        have HC := Lib.hid (show Calls Try.prog 38 #[.pointer (some ⟨B, 0, none⟩), .pointer (some ⟨Sp, 0, none⟩), .pointer (some ⟨o.b, 0, none⟩), .slice (some ⟨wk.heap.size, 0, none⟩) 1 1, .int .u64 (pm : Int)] wl fun e w' =>
            e = .returned (.tuple #[]) ∧ Now w B b0 (M3.bz (pastZ cf (bare x.m) pm ((proj M3).stays.take (j + 1)) ze)) (nxPc N pn :: RR) w' from by
          rw [HST2.out, HSP.out]
          unfold pastZ1
          rw [if_pos hpb]
          have hl0 := HM3.out.2.1.rows p HPM2.out
          have hn9 := HSZ.out.2.2.1
          have h := owes_own wl B b0 (M3.bz zj) _ Nl.own Nl.low p HPM2.out (by omega) (by omega) (.pointer (some ⟨o.b, 0, none⟩)) (some ⟨wk.heap.size, 0, none⟩) 1 [x.m] hrow pm
          have e1 : oweZ (projS p).proc ((projS p).p0 ++ (projS p).p1) pm [bare x.m] zj = oweZ p.s.proc (p.s.p0 ++ p.s.p1) pm [x.m] zj := by
            show oweZ p.s.proc (p.s.p0.map bare ++ p.s.p1.map bare) pm ([x.m].map bare) zj = _
            rw [← List.map_append, oweZ_bare]
          rw [e1]
          exact h.mono fun e w' ⟨h1, h2, h3⟩ => ⟨h1, Nl.next h2 h3⟩)
        unfold msgA at hwl
        clear hev hmx hrow Nl hpb
        generalize x.m.ds.length = dlx at *
        go_wp2_with fail
        rw [← hwl]
        clear hwl x7 x8 x9 x10 x11 x12 hbl
        refine HC.out.mono ?_
        rintro e w9 ⟨rfl, hE⟩
        have HE2 := Lib.hid hE
        clear hE HC
        go_wp2_with fail
        exact ⟨⟨j + 1, by omega, by go_num, HE2⟩, by simp [intOf]; omega⟩
    · have hd : decide ((j : Int) < (n3 : Int)) = false := by simpa using hlt
      obtain rfl : j = n3 := by omega
      have HE2 := Lib.hid (show Now w B b0 (M3.bz (pastZ cf (bare x.m) pm (proj M3).stays ze)) (nxPc N pn :: RR) wr from by
        have h := HW.out
        rwa [List.take_of_length_le (by simp [proj, HN.out.1])] at h)
      have HE3 := Lib.hid (HRES.out _ HE2.out)
      go_wp2_with fail
      go_end0
      exact ⟨rfl, HE3.out⟩
end Go.Proofs.Ytogagkgkmoppmaa
