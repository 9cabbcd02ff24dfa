/-
  What a log's item reads as.
  Conditions: those that each theorem names.
-/
import Derived.Test.YtogagkgkmoppmaaGreatDoorLogDZs
namespace Go.Proofs.YtogagkgkmoppmaaGreatDoor
set_option linter.unusedVariables false
set_option linter.unusedSimpArgs false
open Go.RowKit
def rdFin (q : ItQ) (l : List UInt8) : Except Int (ItQ × List UInt8) := if 0 < l.length then .error 4 else .ok (q, l)
def rdIt2c (a b f : Nat) (l : List UInt8) : Except Int (ItQ × List UInt8) := andR (rdRec l) fun r l => rdFin { zeroI with kind := 2, inc := a, holds := b, has := bits .and .u64 (f : Int) 1 != 0, direct := bits .and .u64 (f : Int) 2 != 0, rc := r.1, pend := r.2 } l
def rdIt2b (a b : Nat) (l : List UInt8) : Except Int (ItQ × List UInt8) := andR (rdN 1 l) fun f l => if 3 < f then .error 1 else rdIt2c a b f l
def rdIt2a (a : Nat) (l : List UInt8) : Except Int (ItQ × List UInt8) := andR (rdN 8 l) fun b l => rdIt2b a b l
def rdIt2 (l : List UInt8) : Except Int (ItQ × List UInt8) := andR (rdN 4 l) fun a l => rdIt2a a l
def rdIt3 (l : List UInt8) : Except Int (ItQ × List UInt8) := andR (rdView l) fun v l => rdFin { zeroI with kind := 3, vw := v } l
def rdIt4b (a b : Nat) (l : List UInt8) : Except Int (ItQ × List UInt8) := andR (rdN 2 l) fun c l => .ok ({ zeroI with kind := 4, num := a, idx := b, tot := c, data := ⟨l.toArray⟩ }, [])
def rdIt4a (a : Nat) (l : List UInt8) : Except Int (ItQ × List UInt8) := andR (rdN 2 l) fun b l => rdIt4b a b l
def rdIt4 (l : List UInt8) : Except Int (ItQ × List UInt8) := andR (rdN 8 l) fun a l => rdIt4a a l
def rdIt (k : Nat) (l : List UInt8) : Except Int (ItQ × List UInt8) := if k = 2 then rdIt2 l else if k = 3 then rdIt3 l else if k = 4 then rdIt4 l else .ok ({ zeroI with kind := 1, data := ⟨l.toArray⟩ }, [])
def itemR (s : ByteArray) : Except Int (ItQ × List UInt8) := andR (rdN 1 s.data.toList) fun k l => if k < 1 ∨ 4 < k then .error 10 else if 1024 < s.size then .error 3 else rdIt k l
theorem rdN_two {n : Nat} {l : List UInt8} {c : Int} (h : rdN n l = .error c) : c ≠ 0 := by
  unfold rdN at h
  split at h
  · cases h
  · injection h with h; omega
theorem andR_bad {α β : Type} {r : Except Int (α × List UInt8)} {f : α → List UInt8 → Except Int (β × List UInt8)} {c : Int} (h : andR r f = .error c) (h1 : ∀ c, r = .error c → c ≠ 0) (h2 : ∀ a l c, r = .ok (a, l) → f a l = .error c → c ≠ 0) : c ≠ 0 := by
  cases hr : r with
  | error d => rw [andR_err hr] at h; injection h with h; rw [← h]; exact h1 d hr
  | ok x => obtain ⟨a, l⟩ := x; rw [andR_ok hr] at h; exact h2 a l c hr h
theorem rdView_two {l : List UInt8} {c : Int} (h : rdView l = .error c) : c ≠ 0 :=
  andR_bad h (fun _ => rdN_two) fun a l c _ h => andR_bad h (fun _ => rdN_two) fun b l c _ h => andR_bad h (fun _ => rdN_two) fun r l c _ h => by
    split at h
    · injection h with h; omega
    · exact andR_bad h (fun _ => rdN_two) fun m l c _ h => by cases h
theorem rdMany_two : ∀ (n : Nat) (l : List UInt8) (c : Int), rdMany rdView n l = .error c → c ≠ 0
  | 0, l, c, h => by cases h
  | n + 1, l, c, h => andR_bad h (fun _ => rdView_two) fun a l c _ h => andR_bad h (fun c => rdMany_two n l c) fun ks l c _ h => by cases h
theorem rdRec_two {l : List UInt8} {c : Int} (h : rdRec l = .error c) : c ≠ 0 :=
  andR_bad h (fun _ => rdView_two) fun v l c _ h => andR_bad h (fun _ => rdN_two) fun n l c _ h => by
    split at h
    · injection h with h; omega
    · exact andR_bad h (fun c => rdMany_two n l c) fun ks l c _ h => by cases h
def ItemEnd (s : ByteArray) (w : World) (e : Ending) (w' : World) : Prop := (match itemR s with
  | .ok x => ∃ ad cap, e = .returned (.tuple #[.agg (itA x.1 ad cap), .int .i64 0]) ∧ w'.ownsRow w.heap.size 33 4 (.slice ad x.1.pend.length cap) x.1.pend.length (vwsV x.1.pend)
  | .error c => e = .returned (.tuple #[.agg (itA zeroI none 0), .int .i64 c])) ∧ Below w.heap.size w w'
theorem keptSL (w : World) (p : Addr) (v : Value) : Kept (fun b => b = p.block) w (w.setCell p v) := (show Kept (fun b => b = p.block) w w from .refl _ _).setCell rfl _
/-- an item while it is read -/
structure ISt (w : World) (N R B : Nat) (W : World) (q : ItQ) (ad : Option Addr) (cap : Nat) : Prop where
  a : W.heap[N]? = some (.cells (itA q ad cap) 63 (0, 0))
  b : W.heap[N + 1]? = some (.cells #[.int .i64 0] 64 (0, 0))
  x : W.heap[B]? = some (.cells #[.pointer (some ⟨R, 0, none⟩)] 117 (0, 0))
  own : W.ownsRow (B + 1) 33 4 (.slice ad q.pend.length cap) q.pend.length (vwsV q.pend)
  bel : Below w.heap.size w W
  hN : N = w.heap.size
  hR : N + 1 < R
  hB : R < B
section
variable {w W W' : World} {N R B : Nat} {s : ByteArray} {l l' : List UInt8} {q q' : ItQ} {ad ad' : Option Addr} {cap cap' : Nat}
theorem ISt.kr (h : ISt w N R B W q ad cap) (hk : KR R W W') : ISt w N R B W' q ad cap := by
  have h1 := h.hN
  have h2 := h.hR
  have h3 := h.hB
  exact ⟨hk.keep h.a (by omega), hk.keep h.b (by omega), hk.keep h.x (by omega), own_keptL h.own hk (fun g hg e => by have := (h.own.lt g hg).1; omega), hk.out h.bel h.bel.size (fun k hk e => by omega), h.hN, h.hR, h.hB⟩
theorem ISt.below (h : ISt w N R B W q ad cap) (hb : Below W.heap.size W W') : ISt w N R B W' q ad cap := h.kr (KR.below hb)
theorem ISt.put (h : ISt w N R B W q ad cap) (hk : Kept (fun b => b = N) W W') (ha : W'.heap[N]? = some (.cells (itA q' ad' cap') 63 (0, 0))) (ho : W.ownsRow (B + 1) 33 4 (.slice ad' q'.pend.length cap') q'.pend.length (vwsV q'.pend)) : ISt w N R B W' q' ad' cap' := by
  have h1 := h.hN
  have h2 := h.hR
  have h3 := h.hB
  exact ⟨ha, hk.keep h.b (by omega), hk.keep h.x (by omega), own_keptL ho hk (fun g hg e => by have := (ho.lt g hg).1; omega), hk.out h.bel h.bel.size (fun k hk e => by omega), h.hN, h.hR, h.hB⟩
theorem ISt.ptr (h : ISt w N R B W q ad cap) : W.cell? ⟨B, 0, none⟩ = some (.pointer (some ⟨R, 0, none⟩)) := cell_of_row _ _ 0 _ _ _ h.x
theorem ISt.cell (h : ISt w N R B W q ad cap) (j : Nat) {v : Value} (hv : (itA q ad cap)[j]? = some v) : W.cell? ⟨N, j, none⟩ = some v := (cell_of_row _ _ j _ _ _ h.a).trans (by rw [← hv])
theorem ISt.free (h : ISt w N R B W q ad cap) (j : Nat) : W.frozen? ⟨N, j, none⟩ = false := frozen_of_row _ _ _ _ _ h.a
theorem ISt.err (h : ISt w N R B W q ad cap) {c : Int} (hr : itemR s = .error c) :
    ItemEnd s w (.returned (.tuple #[.agg (itA zeroI none 0), .int .i64 c])) ((W.setRow N (itA zeroI none 0)).setCell ⟨N + 1, 0, none⟩ (.int .i64 c)) := by
  unfold ItemEnd
  rw [hr]
  refine ⟨rfl, ?_⟩
  have h1 := h.hN
  have k1 := kept_setRowL W N (itA zeroI none 0)
  have k2 := (show Kept (fun b => b = N + 1) (W.setRow N (itA zeroI none 0)) (W.setRow N (itA zeroI none 0)) from .refl _ _).setCell (p := ⟨N + 1, 0, none⟩) rfl (.int .i64 c)
  exact k2.out (k1.out h.bel h.bel.size (fun k hk e => by omega)) (Nat.le_trans h.bel.size k1.size) (fun k hk e => by omega)
theorem ISt.res (h : ISt w N R B W q ad cap) (C : Array Value) (hC : C.size = 18) (c : Int) {tmps : Array Value} (ha : tmps.getD 2 undef = .pointer (some ⟨N, 0, none⟩)) (hb : tmps.getD 3 undef = .pointer (some ⟨N + 1, 0, none⟩)) :
    (results Tryz.f17 tmps).run Tryz.prog ((W.setRow N C).setCell ⟨N + 1, 0, none⟩ (.int .i64 c)) = .ok (.tuple #[.agg C, .int .i64 c]) ((W.setRow N C).setCell ⟨N + 1, 0, none⟩ (.int .i64 c)) := by
  simp only [Array.getD_eq_getD_getElem?] at ha hb
  have g1 := setRow_heap W N _ C _ _ h.a
  have g2 := (kept_setRowL W N C).keep h.b (by omega)
  have g3 := (keptSL (W.setRow N C) ⟨N + 1, 0, none⟩ (.int .i64 c)).keep g1 (by simp)
  have g4 := setCell_block g2 0 (.int .i64 c)
  have e1 := run_loadVar_row _ N 63 63 C (0, 0) _ g3 Tryz.underlying63 rfl (by rw [hC]; kernel_rfl)
  have e2 : ((W.setRow N C).setCell ⟨N + 1, 0, none⟩ (.int .i64 c)).cell? ⟨N + 1, 0, none⟩ = some (.int .i64 c) := cell_of_row _ _ 0 _ _ _ g4
  have e3 : (loadVar 64 ⟨N + 1, 0, none⟩).run Tryz.prog ((W.setRow N C).setCell ⟨N + 1, 0, none⟩ (.int .i64 c)) = .ok (.int .i64 c) ((W.setRow N C).setCell ⟨N + 1, 0, none⟩ (.int .i64 c)) := by simp [go_sem, e2]
  simp [results, Tryz.results17, ha, hb, asAddr, e1, e3]
theorem ISt.fine (h : ISt w N R B W q ad cap) (hr : itemR s = .ok (q, l)) :
    ItemEnd s w (.returned (.tuple #[.agg (itA q ad cap), .int .i64 0])) ((W.setRow N (itA q ad cap)).setCell ⟨N + 1, 0, none⟩ (.int .i64 0)) := by
  unfold ItemEnd
  rw [hr]
  have h1 := h.hN
  have h2 := h.hR
  have h3 := h.hB
  have k1 := kept_setRowL W N (itA q ad cap)
  have k2 := (show Kept (fun b => b = N + 1) (W.setRow N (itA q ad cap)) (W.setRow N (itA q ad cap)) from .refl _ _).setCell (p := ⟨N + 1, 0, none⟩) rfl (.int .i64 0)
  refine ⟨⟨ad, cap, rfl, ownMoreL (own_keptL (own_keptL h.own k1 (fun g hg e => by have := (h.own.lt g hg).1; omega)) k2 (fun g hg e => by have := (h.own.lt g hg).1; omega)) (by omega)⟩, ?_⟩
  exact k2.out (k1.out h.bel h.bel.size (fun k hk e => by omega)) (Nat.le_trans h.bel.size k1.size) (fun k hk e => by omega)
end
theorem rdT_all (l : List UInt8) : rdT l.length l = .ok (⟨l.toArray⟩, []) := by
  unfold rdT
  rw [if_pos (Nat.le_refl _), List.take_length, List.drop_length]
def itOk (d : Option Tmp) : Bool := !(d == some 2 || d == some 3)
theorem itemPan {R : Ending → World → Prop} {c : List PanicEntry} {a : Act} {d : Option Tmp} {v : Value} {w : World} (hd : itOk d = true) (h : bodyPostD Tryz.prog Tryz.f17 R (.panic c) (a.put d v) w) : bodyPostD Tryz.prog Tryz.f17 R (.panic c) a w := by
  cases d with
  | none => exact h
  | some d =>
    have h2 : d ≠ 2 ∧ d ≠ 3 := by simpa [itOk] using hd
    have hres : results Tryz.f17 (a.tmps.setIfInBounds d v) = results Tryz.f17 a.tmps := by
      simp [results, Tryz.results17, Array.getElem?_setIfInBounds, h2.1, h2.2]
    have h3 : Leaves Tryz.prog Tryz.f17 (a.tmps.setIfInBounds d v) R a.defers (.panicking c) w := h
    rw [leaves_eq hres] at h3
    exact h3
set_option maxRecDepth 100000 in
set_option maxHeartbeats 16000000 in
theorem parseItem_any (s : ByteArray) (w : World) (hs : s.size ≤ 140737488355328) : Calls Tryz.prog 17 #[.string s] w fun e w' => ItemEnd s w e w' := by
  have hmf : ∀ (fn : Fn) (first cap : Array Value) (w : World), (Instr.makeFunc fn first cap).run Tryz.prog w = .ok (.func fn first cap) w := fun _ _ _ _ => rfl
  obtain ⟨N, hN⟩ : ∃ N, N = w.heap.size := ⟨_, rfl⟩
  obtain ⟨W, hW⟩ : ∃ W, W = (w.alloc (.cells #[.int .i64 0, .string ⟨#[]⟩, .int .u32 0, .int .u64 0, .bool false, .bool false, .int .u64 0, .int .u64 0, .int .i64 0, .int .u64 0, .slice none 0 0, .int .u64 0, .int .u64 0, .int .i64 0, .int .u64 0, .int .u64 0, .int .i64 0, .int .i64 0] 63)).alloc (.cells #[.int .i64 0] 64) := ⟨_, rfl⟩
  have hb1 := ba (br w) (.cells (itA zeroI none 0) 63)
  have hb2 := ba (br (w.alloc (.cells (itA zeroI none 0) 63))) (.cells #[.int .i64 0] 64)
  have n1 := (hb2.block w.heap.size (by simp)).trans (heap_alloc_new w (.cells (itA zeroI none 0) 63))
  have n2 := heap_alloc_new (w.alloc (.cells (itA zeroI none 0) 63)) (.cells #[.int .i64 0] 64)
  rw [show (w.alloc (.cells (itA zeroI none 0) 63)).heap.size = w.heap.size + 1 by simp] at n2
  have hbA := bt hb1 hb2
  have hWe : W = (w.alloc (.cells (itA zeroI none 0) 63)).alloc (.cells #[.int .i64 0] 64) := hW
  rw [← hWe] at n1 n2 hbA
  rw [← hN] at n1 n2
  have hWN : N + 1 < W.heap.size := (Array.getElem?_eq_some_iff.1 n2).1
  obtain ⟨R, hR⟩ : ∃ R, R = W.heap.size := ⟨_, rfl⟩
  obtain ⟨w1, hw1⟩ : ∃ x, x = W.alloc (.cells #[.string s, .int .i64 0] 151) := ⟨_, rfl⟩
  have hb5 := ba (br W) (.cells #[.string s, .int .i64 0] 151)
  have hr5 := RdAt.new s W 151
  rw [← hw1] at hb5 hr5
  rw [← hR] at hr5
  obtain ⟨B, hB⟩ : ∃ B, B = w1.heap.size := ⟨_, rfl⟩
  obtain ⟨w2, hw2⟩ : ∃ x, x = w1.alloc (.cells #[.pointer (some ⟨R, 0, none⟩)] 117) := ⟨_, rfl⟩
  have hb6 := ba (br w1) (.cells #[.pointer (some ⟨R, 0, none⟩)] 117)
  have hx6 := heap_alloc_new w1 (.cells #[.pointer (some ⟨R, 0, none⟩)] 117)
  rw [← hw2] at hb6 hx6
  rw [← hB] at hx6
  have hRB : R < B := by rw [hB]; exact hr5.lt
  have HS := Lib.hid (show ISt w N R B w2 zeroI none 0 ∧ RdL w2 R s s.data.toList from
    ⟨⟨(hb6.block _ (by omega)).trans ((hb5.block _ (by omega)).trans n1), (hb6.block _ (by omega)).trans ((hb5.block _ (by omega)).trans n2), hx6, ⟨rfl, .inl ⟨rfl, rfl⟩⟩, bt (bt hbA hb5) hb6, hN, by omega, hRB⟩, (show RdL w1 R s s.data.toList from ⟨0, hr5, Nat.zero_le _, rfl, hs⟩).below hb6⟩)
  obtain ⟨r, hr⟩ : ∃ r, r = itemR s := ⟨_, rfl⟩
  have HR := Lib.hid (show r = andR (rdN 1 s.data.toList) fun k l => if k < 1 ∨ 4 < k then .error 10 else if 1024 < s.size then .error 3 else rdIt k l from hr)
  have HRS := Lib.hid hr
  have HW1 := Lib.hid (And.intro hw1 hR)
  have HW2 := Lib.hid (And.intro hw2 hB)
  clear hb1 hb2 n1 n2 hbA hWe hWN hb5 hr5 hb6 hx6 hRB hr hw1 hR hw2 hB
  go_enter_defers Tryz.func17, Tryz.ntmps17
  go_upto_region 1 with (fail)
  rw [← hW, ← hN]
  clear hW hN
  go_wp2_with fail
  refine (New_any s W).mono ?_
  rintro e w1' ⟨rfl, h5⟩
  have h5 : w1' = w1 := by rw [← h5, HW1.out.1]
  subst h5
  rw [← HW1.out.2]
  go_upto_region 3 with (fail)
  rw [← HW2.out.1, ← HW2.out.2]
  have HS0 := Lib.hid HS.out.1
  have HL := Lib.hid HS.out.2
  clear HS
  have HS := HS0
  clear HS0
  have c0 : w2.cell? ⟨B, 0, none⟩ = some (.pointer (some ⟨R, 0, none⟩)) := HS.out.ptr
  have HN := Lib.hid (num_rd HL.out 1 (by omega) (by omega))
  go_wp2_with fail
  refine HN.out.mono ?_
  intro e w3 h1
  rcases hn : rdN 1 s.data.toList with c | ⟨k, l1⟩
  · rw [hn] at h1
    obtain ⟨rfl, hk⟩ := h1
    have HP := Lib.hid (And.intro (rdN_two hn) (HS.out.kr hk))
    have HQ2 := Lib.hid (show r = .error c from by rw [HR.out]; exact andR_err hn _)
    clear hn hk HN
    have HZ := Lib.hid (HP.out.2)
    have HE := Lib.hid (HZ.out.err (c := c) (by rw [← HRS.out]; exact HQ2.out))
    have HNN := Lib.hid HZ.out.hR
    refine leaves_cons (f := 40) (args := #[.pointer (some ⟨N, 0, none⟩), .pointer (some ⟨N + 1, 0, none⟩)]) (by simp) (by simp [go_sem]) ?_
    refine (itemD_pan N (N + 1) 0 (c) (HP.out.1) [] _ _ HZ.out.a rfl HZ.out.b (by omega)).mono ?_
    rintro e u' w'' ⟨rfl, rfl, rfl⟩
    exact ⟨_, HZ.out.res (itA zeroI none 0) rfl (c) (by rfl) (by rfl), HE.out⟩
  rw [hn] at h1
  have hv : k < 256 := by simpa using (rdN_lt (by omega) hn).1
  have hw : IntKind.i64.wrap (k : Int) = (k : Int) := IntWalk.i64_in _ (by omega)
  obtain ⟨rfl, hl, hk⟩ := h1
  have HS2 := Lib.hid (HS.out.kr hk)
  have HL2 := Lib.hid hl
  have HR2 := Lib.hid (show r = if k < 1 ∨ 4 < k then .error 10 else if 1024 < s.size then .error 3 else rdIt k l1 from by rw [HR.out]; exact andR_ok hn _)
  clear HS HL HR hk hl HN
  have HS := HS2
  have HL := HL2
  have HR := HR2
  clear HS2 HL2 HR2
  clear hn c0
  have d0 : w3.cell? ⟨N, 0, none⟩ = some (.int .i64 0) := HS.out.cell 0 rfl
  have f0 : w3.frozen? ⟨N, 0, none⟩ = false := HS.out.free 0
  go_upto_region 4 with (fail)
  have HP2 := Lib.hid (HS.out.put (q' := { zeroI with kind := k }) (ad' := none) (cap' := 0) (keptSL w3 ⟨N, 0, none⟩ (.int .i64 (k : Int))) (setCell_block HS.out.a 0 (.int .i64 (k : Int))) HS.out.own)
  have HL2 := Lib.hid (HL.out.kept (keptSL w3 ⟨N, 0, none⟩ (.int .i64 (k : Int))) (show ¬ R = N from by have := HS.out.hR; omega))
  generalize w3.setCell ⟨N, 0, none⟩ (.int .i64 (k : Int)) = w4 at *
  clear HS HL
  have HS := HP2
  have HL := HL2
  clear HP2 HL2
  clear d0 f0
  clear hw
  have k0 : w4.cell? ⟨N, 0, none⟩ = some (.int .i64 (k : Int)) := HS.out.cell 0 rfl
  by_cases hk0 : k = 0
  · subst hk0
    have HQ2 := Lib.hid (show r = .error 10 from by rw [HR.out]; rfl)
    have k0' : w4.cell? ⟨N, 0, none⟩ = some (.int .i64 0) := k0
    clear k0 hv
    go_wp2_with (go_at_call 44; refine (bad_so 10 _).mono ?_; rintro e w' ⟨rfl, rfl⟩)
    have HZ := Lib.hid (HS.out)
    have HE := Lib.hid (HZ.out.err (c := 10) (by rw [← HRS.out]; exact HQ2.out))
    have HNN := Lib.hid HZ.out.hR
    refine leaves_cons (f := 40) (args := #[.pointer (some ⟨N, 0, none⟩), .pointer (some ⟨N + 1, 0, none⟩)]) (by simp) (by simp [go_sem]) ?_
    refine (itemD_pan N (N + 1) 0 (10) (by decide) [] _ _ HZ.out.a rfl HZ.out.b (by omega)).mono ?_
    rintro e u' w'' ⟨rfl, rfl, rfl⟩
    exact ⟨_, HZ.out.res (itA zeroI none 0) rfl (10) (by rfl) (by rfl), HE.out⟩
  by_cases hk4 : 4 < k
  · have HQ2 := Lib.hid (show r = .error 10 from by rw [HR.out]; exact if_pos (.inr hk4))
    have d1 : decide (k < 1) = false := by rw [decide_eq_false_iff_not]; omega
    have d2 : decide ((k : Int) < 1) = false := by rw [decide_eq_false_iff_not]; omega
    have d3 : decide (4 < k) = true := by rw [decide_eq_true_eq]; omega
    have d4 : decide ((4 : Int) < (k : Int)) = true := by rw [decide_eq_true_eq]; omega
    clear hk0 hk4 hv
    go_wp2_with (go_at_call 44; refine (bad_so 10 _).mono ?_; rintro e w' ⟨rfl, rfl⟩)
    have HZ := Lib.hid (HS.out)
    have HE := Lib.hid (HZ.out.err (c := 10) (by rw [← HRS.out]; exact HQ2.out))
    have HNN := Lib.hid HZ.out.hR
    refine leaves_cons (f := 40) (args := #[.pointer (some ⟨N, 0, none⟩), .pointer (some ⟨N + 1, 0, none⟩)]) (by simp) (by simp [go_sem]) ?_
    refine (itemD_pan N (N + 1) 0 (10) (by decide) [] _ _ HZ.out.a rfl HZ.out.b (by omega)).mono ?_
    rintro e u' w'' ⟨rfl, rfl, rfl⟩
    exact ⟨_, HZ.out.res (itA zeroI none 0) rfl (10) (by rfl) (by rfl), HE.out⟩
  have HR2 := Lib.hid (show r = if 1024 < s.size then .error 3 else rdIt k l1 from by rw [HR.out]; exact if_neg (by omega))
  clear HR
  have HR := HR2
  clear HR2
  by_cases h1024 : 1024 < s.size
  · have hkk : k = 1 ∨ k = 2 ∨ k = 3 ∨ k = 4 := by omega
    clear hk0 hk4 hv
    have HQ2 := Lib.hid (show r = .error 3 from by rw [HR.out]; exact if_pos h1024)
    have d1 : decide (1024 < s.size) = true := by simpa using h1024
    have d2 : decide ((1024 : Int) < (s.size : Int)) = true := by simp; omega
    clear h1024
    rcases hkk with rfl | rfl | rfl | rfl
    · have k0' : w4.cell? ⟨N, 0, none⟩ = some (.int .i64 1) := k0
      clear k0
      have k0 := k0'
      clear k0'
      go_upto_region 5 with (go_at_call 44; refine (bad_no 10 _).mono ?_; rintro e w' ⟨rfl, rfl⟩)
      go_wp2_with (go_at_call 44; refine (bad_so 3 _).mono ?_; rintro e w' ⟨rfl, rfl⟩)
      have HZ := Lib.hid (HS.out)
      have HE := Lib.hid (HZ.out.err (c := 3) (by rw [← HRS.out]; exact HQ2.out))
      have HNN := Lib.hid HZ.out.hR
      refine leaves_cons (f := 40) (args := #[.pointer (some ⟨N, 0, none⟩), .pointer (some ⟨N + 1, 0, none⟩)]) (by simp) (by simp [go_sem]) ?_
      refine (itemD_pan N (N + 1) 0 (3) (by decide) [] _ _ HZ.out.a rfl HZ.out.b (by omega)).mono ?_
      rintro e u' w'' ⟨rfl, rfl, rfl⟩
      exact ⟨_, HZ.out.res (itA zeroI none 0) rfl (3) (by rfl) (by rfl), HE.out⟩
    · have k0' : w4.cell? ⟨N, 0, none⟩ = some (.int .i64 2) := k0
      clear k0
      have k0 := k0'
      clear k0'
      go_upto_region 5 with (go_at_call 44; refine (bad_no 10 _).mono ?_; rintro e w' ⟨rfl, rfl⟩)
      go_wp2_with (go_at_call 44; refine (bad_so 3 _).mono ?_; rintro e w' ⟨rfl, rfl⟩)
      have HZ := Lib.hid (HS.out)
      have HE := Lib.hid (HZ.out.err (c := 3) (by rw [← HRS.out]; exact HQ2.out))
      have HNN := Lib.hid HZ.out.hR
      refine leaves_cons (f := 40) (args := #[.pointer (some ⟨N, 0, none⟩), .pointer (some ⟨N + 1, 0, none⟩)]) (by simp) (by simp [go_sem]) ?_
      refine (itemD_pan N (N + 1) 0 (3) (by decide) [] _ _ HZ.out.a rfl HZ.out.b (by omega)).mono ?_
      rintro e u' w'' ⟨rfl, rfl, rfl⟩
      exact ⟨_, HZ.out.res (itA zeroI none 0) rfl (3) (by rfl) (by rfl), HE.out⟩
    · have k0' : w4.cell? ⟨N, 0, none⟩ = some (.int .i64 3) := k0
      clear k0
      have k0 := k0'
      clear k0'
      go_upto_region 5 with (go_at_call 44; refine (bad_no 10 _).mono ?_; rintro e w' ⟨rfl, rfl⟩)
      go_wp2_with (go_at_call 44; refine (bad_so 3 _).mono ?_; rintro e w' ⟨rfl, rfl⟩)
      have HZ := Lib.hid (HS.out)
      have HE := Lib.hid (HZ.out.err (c := 3) (by rw [← HRS.out]; exact HQ2.out))
      have HNN := Lib.hid HZ.out.hR
      refine leaves_cons (f := 40) (args := #[.pointer (some ⟨N, 0, none⟩), .pointer (some ⟨N + 1, 0, none⟩)]) (by simp) (by simp [go_sem]) ?_
      refine (itemD_pan N (N + 1) 0 (3) (by decide) [] _ _ HZ.out.a rfl HZ.out.b (by omega)).mono ?_
      rintro e u' w'' ⟨rfl, rfl, rfl⟩
      exact ⟨_, HZ.out.res (itA zeroI none 0) rfl (3) (by rfl) (by rfl), HE.out⟩
    · have k0' : w4.cell? ⟨N, 0, none⟩ = some (.int .i64 4) := k0
      clear k0
      have k0 := k0'
      clear k0'
      go_upto_region 5 with (go_at_call 44; refine (bad_no 10 _).mono ?_; rintro e w' ⟨rfl, rfl⟩)
      go_wp2_with (go_at_call 44; refine (bad_so 3 _).mono ?_; rintro e w' ⟨rfl, rfl⟩)
      have HZ := Lib.hid (HS.out)
      have HE := Lib.hid (HZ.out.err (c := 3) (by rw [← HRS.out]; exact HQ2.out))
      have HNN := Lib.hid HZ.out.hR
      refine leaves_cons (f := 40) (args := #[.pointer (some ⟨N, 0, none⟩), .pointer (some ⟨N + 1, 0, none⟩)]) (by simp) (by simp [go_sem]) ?_
      refine (itemD_pan N (N + 1) 0 (3) (by decide) [] _ _ HZ.out.a rfl HZ.out.b (by omega)).mono ?_
      rintro e u' w'' ⟨rfl, rfl, rfl⟩
      exact ⟨_, HZ.out.res (itA zeroI none 0) rfl (3) (by rfl) (by rfl), HE.out⟩
  have hkk : k = 1 ∨ k = 2 ∨ k = 3 ∨ k = 4 := by omega
  clear hk0 hk4 hv
  have HR2 := Lib.hid (show r = rdIt k l1 from by rw [HR.out]; exact if_neg h1024)
  clear HR
  have HR := HR2
  clear HR2
  have d1 : decide (1024 < s.size) = false := by simpa using h1024
  have d2 : decide ((1024 : Int) < (s.size : Int)) = false := by simp; omega
  clear h1024
  rcases hkk with rfl | rfl | rfl | rfl
  · have k0' : w4.cell? ⟨N, 0, none⟩ = some (.int .i64 1) := k0
    clear k0
    have k0 := k0'
    clear k0'
    go_upto_region 5 with (go_at_call 44; refine (bad_no 10 _).mono ?_; rintro e w' ⟨rfl, rfl⟩)
    go_upto_region 6 with (go_at_call 44; refine (bad_no 3 _).mono ?_; rintro e w' ⟨rfl, rfl⟩)
    clear d1 d2
    have HR2 := Lib.hid (show r = .ok ({ zeroI with kind := 1, data := ⟨l1.toArray⟩ }, []) from by rw [HR.out]; rfl)
    clear HR
    have HR := HR2
    clear HR2
    go_upto_region 18 with (fail)
    clear k0
    have HDW := Lib.hid (And.intro (HS.out.below (br w4).drew) (HL.out.below (br w4).drew))
    clear HS HL
    have HS := Lib.hid HDW.out.1
    have HL := Lib.hid HDW.out.2
    clear HDW
    refine wp_region_maskD (ok := itOk) (fun w' => w'.cell? ⟨B, 0, none⟩ = some (.pointer (some ⟨R, 0, none⟩))) 7 4 [true, true, true, true, false, false, false, false] #[true, true, true, true, false, false, false, false] (by kernel_rfl) (by kernel_rfl) (by kernel_rfl) (by kernel_rfl) (fun c a d v w hd h => itemPan hd h) HS.out.ptr ?_
    generalize w4.drew = v1 at *
    refine wpMask_take _ (Or.inl ⟨by rfl, fun w' hS => by (try dsimp only at hS); go_simp; try with_reducible rfl⟩) ?_
    simp only [Act.put, List.setIfInBounds_toArray, List.set_cons_zero, List.set_cons_succ, List.getElem_toArray, List.getElem_cons_succ, List.getElem_cons_zero]
    refine wpMask_take _ (Or.inl ⟨by rfl, fun w' hS => by (try dsimp only at hS); go_simp; try with_reducible rfl⟩) ?_
    simp only [Act.put, List.setIfInBounds_toArray, List.set_cons_zero, List.set_cons_succ, List.getElem_toArray, List.getElem_cons_succ, List.getElem_cons_zero]
    refine wpMask_take _ (Or.inl ⟨by rfl, fun w' hS => by (try dsimp only at hS); go_simp; try with_reducible rfl⟩) ?_
    simp only [Act.put, List.setIfInBounds_toArray, List.set_cons_zero, List.set_cons_succ, List.getElem_toArray, List.getElem_cons_succ, List.getElem_cons_zero]
    refine wpMask_take _ (Or.inl ⟨by rfl, fun w' hS => by (try dsimp only at hS); go_simp; try with_reducible rfl⟩) ?_
    simp only [Act.put, List.setIfInBounds_toArray, List.set_cons_zero, List.set_cons_succ, List.getElem_toArray, List.getElem_cons_succ, List.getElem_cons_zero]
    refine wpMask_skip (wpMask_skip (wpMask_skip (wpMask_skip (wpMask_nil ?_))))
    refine wpAnyS_ready (rs := [4]) (by kernel_rfl) (by simp) ?_
    refine AllReadyS.cons rfl (fun K hK => ?_) AllReadyS.nil
    have HN := Lib.hid (left_rd HL.out)
    go_simp
    refine HN.out.mono ?_
    rintro e v2 ⟨rfl, hb⟩
    have HDW := Lib.hid (And.intro (HS.out.below hb) (HL.out.below hb))
    clear HS HL HN hb
    have HS := Lib.hid HDW.out.1
    have HL := Lib.hid HDW.out.2
    clear HDW
    refine hK.out _ _ (fun _ => HS.out.ptr) ?_
    clear hK K
    simp only [Act.put, List.setIfInBounds_toArray, List.set_cons_zero, List.set_cons_succ, List.getElem_toArray, List.getElem_cons_succ, List.getElem_cons_zero]
    refine wpAnyS_ready (rs := [5]) (by kernel_rfl) (by simp) ?_
    refine AllReadyS.cons rfl (fun K hK => ?_) AllReadyS.nil
    have HN := Lib.hid (text_rd HL.out l1.length)
    go_simp
    refine HN.out.mono ?_
    intro e v3 h1
    rw [rdT_all] at h1
    obtain ⟨he, hl, hk⟩ := h1
    have he : e = .returned (.string ⟨l1.toArray⟩) := he
    subst he
    have HS2 := Lib.hid (HS.out.kr hk)
    have HL2 := Lib.hid (show RdL v3 R s [] from hl)
    clear HS HL hk hl HN
    have HS := HS2
    have HL := HL2
    clear HS2 HL2
    refine hK.out _ _ (fun _ => HS.out.ptr) ?_
    clear hK K
    simp only [Act.put, List.setIfInBounds_toArray, List.set_cons_zero, List.set_cons_succ, List.getElem_toArray, List.getElem_cons_succ, List.getElem_cons_zero]
    refine wpAnyS_takeD (ok := itOk) (i := 6) _ (fun c a d v w hd h => itemPan hd h) rfl (by kernel_rfl) (Or.inl ⟨by rfl, fun w' hS => by (try dsimp only at hS); go_simp; try with_reducible rfl⟩) (HS.out.ptr) ?_
    simp only [Act.put, List.setIfInBounds_toArray, List.set_cons_zero, List.set_cons_succ, List.getElem_toArray, List.getElem_cons_succ, List.getElem_cons_zero]
    have d1 : v3.cell? ⟨N, 1, none⟩ = some (.string ⟨#[]⟩) := HS.out.cell 1 rfl
    have f1 : v3.frozen? ⟨N, 1, none⟩ = false := HS.out.free 1
    obtain ⟨D, hD⟩ : ∃ D : ByteArray, D = ⟨l1.toArray⟩ := ⟨_, rfl⟩
    rw [← hD]
    rw [← hD] at HR
    have HD := Lib.hid hD
    clear hD
    refine wpAnyS_ready (rs := [7]) (by kernel_rfl) (by simp) ?_
    refine AllReadyS.cons rfl (fun K hK => ?_) AllReadyS.nil
    go_simp
    refine hK.out _ _ (fun h => absurd h (by decide)) ?_
    clear hK K
    simp only [Act.put, List.setIfInBounds_toArray, List.set_cons_zero, List.set_cons_succ, List.getElem_toArray, List.getElem_cons_succ, List.getElem_cons_zero]
    refine wpAnyS_doneD (by kernel_rfl) ?_ _
    have HP2 := Lib.hid (HS.out.put (q' := { zeroI with kind := 1, data := D }) (ad' := none) (cap' := 0) (keptSL v3 ⟨N, 1, none⟩ (.string D)) (setCell_block HS.out.a 1 (.string D)) HS.out.own)
    have HL2 := Lib.hid (HL.out.kept (keptSL v3 ⟨N, 1, none⟩ (.string D)) (show ¬ R = N from by have := HS.out.hR; omega))
    generalize v3.setCell ⟨N, 1, none⟩ (.string D) = v4 at *
    clear HS HL
    have HS := HP2
    have HL := HL2
    clear HP2 HL2
    clear d1 f1
    have HRF := Lib.hid HR.out
    have c0 : v4.cell? ⟨B, 0, none⟩ = some (.pointer (some ⟨R, 0, none⟩)) := HS.out.ptr
    have HN := Lib.hid (end_rd HL.out)
    go_upto_region 19 with (fail)
    go_wp2_with fail
    refine HN.out.mono ?_
    rintro e w9 ⟨he, hb9⟩
    have he : e = .returned (.tuple #[]) := he
    subst he
    have HP := Lib.hid (HS.out.below hb9)
    clear HS HL HN hb9 c0
    have HS := HP
    clear HP
    obtain ⟨A, hA⟩ : ∃ A, A = itA ({ zeroI with kind := 1, data := D }) none 0 := ⟨_, rfl⟩
    have HE := Lib.hid (HS.out.fine (by rw [← HRS.out]; exact HRF.out))
    have hs7 := (kept_setRowL w9 N A).keep HS.out.b (by omega)
    have H7 := Lib.hid (And.intro (show w9.heap[N]? = some (.cells A 63 (0, 0)) by rw [hA]; exact HS.out.a) (And.intro (show A.size = 18 by rw [hA]; rfl) (show A.all (·.oneCell') = true by rw [hA]; exact itA_one _ _ _)))
    rw [← hA] at HE
    clear hA
    have d0 : (w9.setRow N A).cell? ⟨N + 1, 0, none⟩ = some (.int .i64 0) := cell_of_row _ _ 0 _ _ _ hs7
    have f0 : (w9.setRow N A).frozen? ⟨N + 1, 0, none⟩ = false := frozen_of_row _ _ _ _ _ hs7
    clear hs7
    go_wp2_with (first
      | (refine wpList_load_row rfl 63 (.tmp 2) rfl N rfl 63 A (0, 0) _ H7.out.1 Tryz.underlying63 rfl (by rw [H7.out.2.1]; kernel_rfl) ?_)
      | (refine wpList_store_row rfl 63 (.tmp 2) (.tmp 96) rfl N A rfl rfl 63 _ H7.out.1 (by rw [H7.out.2.1]; kernel_rfl) rfl H7.out.2.2 ?_))
    refine leaves_cons (f := 40) (args := #[.pointer (some ⟨N, 0, none⟩), .pointer (some ⟨N + 1, 0, none⟩)]) (by simp) (by simp [go_sem]) ?_
    refine (itemD_ret ⟨N, 0, none⟩ ⟨N + 1, 0, none⟩ _).mono ?_
    rintro e u' w'' ⟨rfl, rfl, rfl⟩
    exact ⟨_, HS.out.res A H7.out.2.1 0 (by rfl) (by rfl), HE.out⟩
  · have k0' : w4.cell? ⟨N, 0, none⟩ = some (.int .i64 2) := k0
    clear k0
    have k0 := k0'
    clear k0'
    go_upto_region 5 with (go_at_call 44; refine (bad_no 10 _).mono ?_; rintro e w' ⟨rfl, rfl⟩)
    go_upto_region 6 with (go_at_call 44; refine (bad_no 3 _).mono ?_; rintro e w' ⟨rfl, rfl⟩)
    clear d1 d2
    have HR2 := Lib.hid (show r = andR (rdN 4 l1) fun a l => rdIt2a a l from by rw [HR.out]; rfl)
    clear HR
    have HR := HR2
    clear HR2
    go_upto_region 8 with (fail)
    clear k0
    have HDW := Lib.hid (And.intro (HS.out.below (br w4).drew) (HL.out.below (br w4).drew))
    clear HS HL
    have HS := Lib.hid HDW.out.1
    have HL := Lib.hid HDW.out.2
    clear HDW
    refine wp_region_maskD (ok := itOk) (fun w' => w'.cell? ⟨B, 0, none⟩ = some (.pointer (some ⟨R, 0, none⟩))) 10 7 [true, true, false, false, true, true, false, false, false, false, false] #[true, true, false, false, true, true, false, false, false, false, false] (by kernel_rfl) (by kernel_rfl) (by kernel_rfl) (by kernel_rfl) (fun c a d v w hd h => itemPan hd h) HS.out.ptr ?_
    generalize w4.drew = v1 at *
    refine wpMask_take _ (Or.inl ⟨by rfl, fun w' hS => by (try dsimp only at hS); go_simp; try with_reducible rfl⟩) ?_
    simp only [Act.put, List.setIfInBounds_toArray, List.set_cons_zero, List.set_cons_succ, List.getElem_toArray, List.getElem_cons_succ, List.getElem_cons_zero]
    refine wpMask_take _ (Or.inl ⟨by rfl, fun w' hS => by (try dsimp only at hS); go_simp; try with_reducible rfl⟩) ?_
    simp only [Act.put, List.setIfInBounds_toArray, List.set_cons_zero, List.set_cons_succ, List.getElem_toArray, List.getElem_cons_succ, List.getElem_cons_zero]
    refine wpMask_skip ?_
    refine wpMask_skip ?_
    refine wpMask_take _ (Or.inl ⟨by rfl, fun w' hS => by (try dsimp only at hS); go_simp; try with_reducible rfl⟩) ?_
    simp only [Act.put, List.setIfInBounds_toArray, List.set_cons_zero, List.set_cons_succ, List.getElem_toArray, List.getElem_cons_succ, List.getElem_cons_zero]
    refine wpMask_take _ (Or.inl ⟨by rfl, fun w' hS => by (try dsimp only at hS); go_simp; try with_reducible rfl⟩) ?_
    simp only [Act.put, List.setIfInBounds_toArray, List.set_cons_zero, List.set_cons_succ, List.getElem_toArray, List.getElem_cons_succ, List.getElem_cons_zero]
    refine wpMask_skip (wpMask_skip (wpMask_skip (wpMask_skip (wpMask_skip (wpMask_nil ?_)))))
    refine wpAnyS_ready (rs := [2]) (by kernel_rfl) (by simp) ?_
    refine AllReadyS.cons rfl (fun K hK => ?_) AllReadyS.nil
    have HN := Lib.hid (num_rd HL.out 4 (by omega) (by omega))
    go_simp
    refine HN.out.mono ?_
    intro e v2 h1
    rcases hn : rdN 4 l1 with c | ⟨a, l2⟩
    · rw [hn] at h1
      obtain ⟨rfl, hk⟩ := h1
      have HP := Lib.hid (And.intro (rdN_two hn) (HS.out.kr hk))
      have HQ2 := Lib.hid (show r = .error c from by rw [HR.out]; exact andR_err hn _)
      clear hn hk HN
      have HZ := Lib.hid (HP.out.2)
      have HE := Lib.hid (HZ.out.err (c := c) (by rw [← HRS.out]; exact HQ2.out))
      have HNN := Lib.hid HZ.out.hR
      refine leaves_cons (f := 40) (args := #[.pointer (some ⟨N, 0, none⟩), .pointer (some ⟨N + 1, 0, none⟩)]) (by simp) (by simp [go_sem]) ?_
      refine (itemD_pan N (N + 1) 0 (c) (HP.out.1) [] _ _ HZ.out.a rfl HZ.out.b (by omega)).mono ?_
      rintro e u' w'' ⟨rfl, rfl, rfl⟩
      exact ⟨_, HZ.out.res (itA zeroI none 0) rfl (c) (by rfl) (by rfl), HE.out⟩
    rw [hn] at h1
    have hv : a < 4294967296 := by simpa using (rdN_lt (by omega) hn).1
    have hw : IntKind.u32.wrap (a : Int) = (a : Int) := by rw [IntKind.wrap_u32]; omega
    obtain ⟨rfl, hl, hk⟩ := h1
    have HS2 := Lib.hid (HS.out.kr hk)
    have HL2 := Lib.hid hl
    have HR2 := Lib.hid (show r = andR (rdN 8 l2) fun b l => rdIt2b a b l from by rw [HR.out]; exact andR_ok hn _)
    clear HS HL HR hk hl HN
    have HS := HS2
    have HL := HL2
    have HR := HR2
    clear HS2 HL2 HR2
    clear hn
    refine hK.out _ _ (fun _ => HS.out.ptr) ?_
    clear hK K
    simp only [Act.put, List.setIfInBounds_toArray, List.set_cons_zero, List.set_cons_succ, List.getElem_toArray, List.getElem_cons_succ, List.getElem_cons_zero]
    refine wpAnyS_takeD (ok := itOk) (i := 3) _ (fun c a d v w hd h => itemPan hd h) rfl (by kernel_rfl) (Or.inl ⟨by rfl, fun w' hS => by (try dsimp only at hS); go_simp; try with_reducible rfl⟩) (HS.out.ptr) ?_
    simp only [Act.put, List.setIfInBounds_toArray, List.set_cons_zero, List.set_cons_succ, List.getElem_toArray, List.getElem_cons_succ, List.getElem_cons_zero]
    try rw [hw]
    refine wpAnyS_takeD (ok := itOk) (i := 7) _ (fun c a d v w hd h => itemPan hd h) rfl (by kernel_rfl) (Or.inl ⟨by rfl, fun w' hS => by (try dsimp only at hS); go_simp; try with_reducible rfl⟩) (HS.out.ptr) ?_
    simp only [Act.put, List.setIfInBounds_toArray, List.set_cons_zero, List.set_cons_succ, List.getElem_toArray, List.getElem_cons_succ, List.getElem_cons_zero]
    refine wpAnyS_ready (rs := [6]) (by kernel_rfl) (by simp) ?_
    refine AllReadyS.cons rfl (fun K hK => ?_) AllReadyS.nil
    have HN := Lib.hid (num_rd HL.out 8 (by omega) (by omega))
    go_simp
    refine HN.out.mono ?_
    intro e v3 h1
    rcases hn : rdN 8 l2 with c | ⟨b, l3⟩
    · rw [hn] at h1
      obtain ⟨rfl, hk⟩ := h1
      have HP := Lib.hid (And.intro (rdN_two hn) (HS.out.kr hk))
      have HQ2 := Lib.hid (show r = .error c from by rw [HR.out]; exact andR_err hn _)
      clear hn hk HN
      have HZ := Lib.hid (HP.out.2)
      have HE := Lib.hid (HZ.out.err (c := c) (by rw [← HRS.out]; exact HQ2.out))
      have HNN := Lib.hid HZ.out.hR
      refine leaves_cons (f := 40) (args := #[.pointer (some ⟨N, 0, none⟩), .pointer (some ⟨N + 1, 0, none⟩)]) (by simp) (by simp [go_sem]) ?_
      refine (itemD_pan N (N + 1) 0 (c) (HP.out.1) [] _ _ HZ.out.a rfl HZ.out.b (by omega)).mono ?_
      rintro e u' w'' ⟨rfl, rfl, rfl⟩
      exact ⟨_, HZ.out.res (itA zeroI none 0) rfl (c) (by rfl) (by rfl), HE.out⟩
    rw [hn] at h1
    obtain ⟨rfl, hl, hk⟩ := h1
    have HS2 := Lib.hid (HS.out.kr hk)
    have HL2 := Lib.hid hl
    have HR2 := Lib.hid (show r = andR (rdN 1 l3) fun f l => if 3 < f then .error 1 else rdIt2c a b f l from by rw [HR.out]; exact andR_ok hn _)
    clear HS HL HR hk hl HN
    have HS := HS2
    have HL := HL2
    have HR := HR2
    clear HS2 HL2 HR2
    clear hn
    refine hK.out _ _ (fun _ => HS.out.ptr) ?_
    clear hK K
    simp only [Act.put, List.setIfInBounds_toArray, List.set_cons_zero, List.set_cons_succ, List.getElem_toArray, List.getElem_cons_succ, List.getElem_cons_zero]
    have d2 : v3.cell? ⟨N, 2, none⟩ = some (.int .u32 0) := HS.out.cell 2 rfl
    have f2 : v3.frozen? ⟨N, 2, none⟩ = false := HS.out.free 2
    refine wpAnyS_ready (rs := [8]) (by kernel_rfl) (by simp) ?_
    refine AllReadyS.cons rfl (fun K hK => ?_) AllReadyS.nil
    go_simp
    have HP2 := Lib.hid (HS.out.put (q' := { zeroI with kind := 2, inc := a }) (ad' := none) (cap' := 0) (keptSL v3 ⟨N, 2, none⟩ (.int .u32 (a : Int))) (setCell_block HS.out.a 2 (.int .u32 (a : Int))) HS.out.own)
    have HL2 := Lib.hid (HL.out.kept (keptSL v3 ⟨N, 2, none⟩ (.int .u32 (a : Int))) (show ¬ R = N from by have := HS.out.hR; omega))
    refine hK.out _ _ (fun _ => HP2.out.ptr) ?_
    clear hK K
    simp only [Act.put, List.setIfInBounds_toArray, List.set_cons_zero, List.set_cons_succ, List.getElem_toArray, List.getElem_cons_succ, List.getElem_cons_zero]
    generalize v3.setCell ⟨N, 2, none⟩ (.int .u32 (a : Int)) = v4 at *
    clear HS HL
    have HS := HP2
    have HL := HL2
    clear HP2 HL2
    clear d2 f2
    refine wpAnyS_takeD (ok := itOk) (i := 9) _ (fun c a d v w hd h => itemPan hd h) rfl (by kernel_rfl) (Or.inl ⟨by rfl, fun w' hS => by (try dsimp only at hS); go_simp; try with_reducible rfl⟩) (HS.out.ptr) ?_
    simp only [Act.put, List.setIfInBounds_toArray, List.set_cons_zero, List.set_cons_succ, List.getElem_toArray, List.getElem_cons_succ, List.getElem_cons_zero]
    have d3 : v4.cell? ⟨N, 3, none⟩ = some (.int .u64 0) := HS.out.cell 3 rfl
    have f3 : v4.frozen? ⟨N, 3, none⟩ = false := HS.out.free 3
    refine wpAnyS_ready (rs := [10]) (by kernel_rfl) (by simp) ?_
    refine AllReadyS.cons rfl (fun K hK => ?_) AllReadyS.nil
    go_simp
    refine hK.out _ _ (fun h => absurd h (by decide)) ?_
    clear hK K
    simp only [Act.put, List.setIfInBounds_toArray, List.set_cons_zero, List.set_cons_succ, List.getElem_toArray, List.getElem_cons_succ, List.getElem_cons_zero]
    refine wpAnyS_doneD (by kernel_rfl) ?_ _
    have HP2 := Lib.hid (HS.out.put (q' := { zeroI with kind := 2, inc := a, holds := b }) (ad' := none) (cap' := 0) (keptSL v4 ⟨N, 3, none⟩ (.int .u64 (b : Int))) (setCell_block HS.out.a 3 (.int .u64 (b : Int))) HS.out.own)
    have HL2 := Lib.hid (HL.out.kept (keptSL v4 ⟨N, 3, none⟩ (.int .u64 (b : Int))) (show ¬ R = N from by have := HS.out.hR; omega))
    generalize v4.setCell ⟨N, 3, none⟩ (.int .u64 (b : Int)) = w5 at *
    clear HS HL
    have HS := HP2
    have HL := HL2
    clear HP2 HL2
    clear d3 f3
    clear hw
    have c0 : w5.cell? ⟨B, 0, none⟩ = some (.pointer (some ⟨R, 0, none⟩)) := HS.out.ptr
    have HN := Lib.hid (num_rd HL.out 1 (by omega) (by omega))
    go_wp2_with fail
    refine HN.out.mono ?_
    intro e w6 h1
    rcases hn : rdN 1 l3 with c | ⟨f, l4⟩
    · rw [hn] at h1
      obtain ⟨rfl, hk⟩ := h1
      have HP := Lib.hid (And.intro (rdN_two hn) (HS.out.kr hk))
      have HQ2 := Lib.hid (show r = .error c from by rw [HR.out]; exact andR_err hn _)
      clear hn hk HN
      have HZ := Lib.hid (HP.out.2)
      have HE := Lib.hid (HZ.out.err (c := c) (by rw [← HRS.out]; exact HQ2.out))
      have HNN := Lib.hid HZ.out.hR
      refine leaves_cons (f := 40) (args := #[.pointer (some ⟨N, 0, none⟩), .pointer (some ⟨N + 1, 0, none⟩)]) (by simp) (by simp [go_sem]) ?_
      refine (itemD_pan N (N + 1) 0 (c) (HP.out.1) [] _ _ HZ.out.a rfl HZ.out.b (by omega)).mono ?_
      rintro e u' w'' ⟨rfl, rfl, rfl⟩
      exact ⟨_, HZ.out.res (itA zeroI none 0) rfl (c) (by rfl) (by rfl), HE.out⟩
    rw [hn] at h1
    obtain ⟨rfl, hl, hk⟩ := h1
    have HS2 := Lib.hid (HS.out.kr hk)
    have HL2 := Lib.hid hl
    have HR2 := Lib.hid (show r = if 3 < f then .error 1 else rdIt2c a b f l4 from by rw [HR.out]; exact andR_ok hn _)
    clear HS HL HR hk hl HN
    have HS := HS2
    have HL := HL2
    have HR := HR2
    clear HS2 HL2 HR2
    clear hn c0
    by_cases h3 : 3 < f
    · have HQ2 := Lib.hid (show r = .error 1 from by rw [HR.out]; exact if_pos h3)
      have d1 : decide (3 < f) = true := by simpa using h3
      have d2 : decide ((3 : Int) < (f : Int)) = true := by simp; omega
      clear h3
      go_wp2_with (go_at_call 44; refine (bad_so 1 _).mono ?_; rintro e w' ⟨rfl, rfl⟩)
      have HZ := Lib.hid (HS.out)
      have HE := Lib.hid (HZ.out.err (c := 1) (by rw [← HRS.out]; exact HQ2.out))
      have HNN := Lib.hid HZ.out.hR
      refine leaves_cons (f := 40) (args := #[.pointer (some ⟨N, 0, none⟩), .pointer (some ⟨N + 1, 0, none⟩)]) (by simp) (by simp [go_sem]) ?_
      refine (itemD_pan N (N + 1) 0 (1) (by decide) [] _ _ HZ.out.a rfl HZ.out.b (by omega)).mono ?_
      rintro e u' w'' ⟨rfl, rfl, rfl⟩
      exact ⟨_, HZ.out.res (itA zeroI none 0) rfl (1) (by rfl) (by rfl), HE.out⟩
    have HR2 := Lib.hid (show r = andR (rdRec l4) fun r l => rdFin { zeroI with kind := 2, inc := a, holds := b, has := bits .and .u64 (f : Int) 1 != 0, direct := bits .and .u64 (f : Int) 2 != 0, rc := r.1, pend := r.2 } l from by rw [HR.out]; exact if_neg h3)
    clear HR
    have HR := HR2
    clear HR2
    have d1 : decide (3 < f) = false := by simpa using h3
    have d2 : decide ((3 : Int) < (f : Int)) = false := by simp; omega
    clear h3
    obtain ⟨b1, hb1⟩ : ∃ x : Bool, x = (bits .and .u64 (f : Int) 1 != 0) := ⟨_, rfl⟩
    obtain ⟨b2, hb2⟩ : ∃ x : Bool, x = (bits .and .u64 (f : Int) 2 != 0) := ⟨_, rfl⟩
    rw [← hb1, ← hb2] at HR
    have d4 : w6.cell? ⟨N, 4, none⟩ = some (.bool false) := HS.out.cell 4 rfl
    have f4 : w6.frozen? ⟨N, 4, none⟩ = false := HS.out.free 4
    have d5 : w6.cell? ⟨N, 5, none⟩ = some (.bool false) := HS.out.cell 5 rfl
    have f5 : w6.frozen? ⟨N, 5, none⟩ = false := HS.out.free 5
    go_upto_region 11 with (go_at_call 44; refine (bad_no 1 _).mono ?_; rintro e w' ⟨rfl, rfl⟩)
    clear d1 d2
    obtain ⟨w7, hw7⟩ : ∃ x, x = ((w6.setCell ⟨N, 4, none⟩ (.bool b1)).setCell ⟨N, 5, none⟩ (.bool b2)) := ⟨_, rfl⟩
    have hk6 : Kept (fun b => b = N) w6 w7 := by rw [hw7]; exact ((show Kept (fun b => b = N) w6 w6 from .refl _ _).setCell (p := ⟨N, 4, none⟩) rfl _).setCell (p := ⟨N, 5, none⟩) rfl _
    have HP2 := Lib.hid (HS.out.put (q' := { zeroI with kind := 2, inc := a, holds := b, has := b1, direct := b2 }) (ad' := none) (cap' := 0) hk6 (by rw [hw7]; exact setCell_block (setCell_block HS.out.a 4 _) 5 _) HS.out.own)
    have HL2 := Lib.hid (HL.out.kept hk6 (show ¬ R = N from by have := HS.out.hR; omega))
    clear hk6
    replace hb1 := hb1.symm
    replace hb2 := hb2.symm
    go_upto_region 12 with (fail)
    (try rw [hb1, hb2])
    rw [← hw7]
    clear hw7 HS HL hb1 hb2
    clear d4 f4 d5 f5
    have HS := HP2
    have HL := HL2
    clear HP2 HL2
    have c0 : w7.cell? ⟨B, 0, none⟩ = some (.pointer (some ⟨R, 0, none⟩)) := HS.out.ptr
    have HN := Lib.hid (record_rd HL.out)
    go_wp2_with fail
    refine HN.out.mono ?_
    intro e w8 h1
    rcases hn : rdRec l4 with c | ⟨⟨⟨x1, x2, x3, x4⟩, vs⟩, l5⟩
    · rw [hn] at h1
      obtain ⟨rfl, hk⟩ := h1
      have HP := Lib.hid (And.intro (rdRec_two hn) (HS.out.kr hk))
      have HQ2 := Lib.hid (show r = .error c from by rw [HR.out]; exact andR_err hn _)
      clear hn hk HN
      have HZ := Lib.hid (HP.out.2)
      have HE := Lib.hid (HZ.out.err (c := c) (by rw [← HRS.out]; exact HQ2.out))
      have HNN := Lib.hid HZ.out.hR
      refine leaves_cons (f := 40) (args := #[.pointer (some ⟨N, 0, none⟩), .pointer (some ⟨N + 1, 0, none⟩)]) (by simp) (by simp [go_sem]) ?_
      refine (itemD_pan N (N + 1) 0 (c) (HP.out.1) [] _ _ HZ.out.a rfl HZ.out.b (by omega)).mono ?_
      rintro e u' w'' ⟨rfl, rfl, rfl⟩
      exact ⟨_, HZ.out.res (itA zeroI none 0) rfl (c) (by rfl) (by rfl), HE.out⟩
    rw [hn] at h1
    obtain ⟨⟨ad, cap, he, how⟩, hl, hk⟩ := h1
    have he : e = .returned (.agg #[.int .u64 (x1 : Int), .int .u64 (x2 : Int), .int .i64 (x3 : Int), .int .u64 (x4 : Int), .slice ad vs.length cap]) := he
    subst he
    have how2 : w8.ownsRow (B + 1) 33 4 (.slice ad vs.length cap) vs.length (vwsV vs) := ownMoreL how (by have := (Array.getElem?_eq_some_iff.1 HS.out.x).1; omega)
    have HOW := Lib.hid how2
    clear how how2
    have HS2 := Lib.hid (HS.out.kr hk)
    have HL2 := Lib.hid hl
    have HR2 := Lib.hid (show r = rdFin { zeroI with kind := 2, inc := a, holds := b, has := b1, direct := b2, rc := (x1, x2, x3, x4), pend := vs } l5 from by rw [HR.out]; exact andR_ok hn _)
    clear HS HL HR hk hl HN
    have HS := HS2
    have HL := HL2
    have HR := HR2
    clear HS2 HL2 HR2
    clear hn c0
    have d6 : w8.cell? ⟨N, 6, none⟩ = some (.int .u64 0) := HS.out.cell 6 rfl
    have f6 : w8.frozen? ⟨N, 6, none⟩ = false := HS.out.free 6
    have d7 : w8.cell? ⟨N, 7, none⟩ = some (.int .u64 0) := HS.out.cell 7 rfl
    have f7 : w8.frozen? ⟨N, 7, none⟩ = false := HS.out.free 7
    have d8 : w8.cell? ⟨N, 8, none⟩ = some (.int .i64 0) := HS.out.cell 8 rfl
    have f8 : w8.frozen? ⟨N, 8, none⟩ = false := HS.out.free 8
    have d9 : w8.cell? ⟨N, 9, none⟩ = some (.int .u64 0) := HS.out.cell 9 rfl
    have f9 : w8.frozen? ⟨N, 9, none⟩ = false := HS.out.free 9
    have d10 : w8.cell? ⟨N, 10, none⟩ = some (.slice none 0 0) := HS.out.cell 10 rfl
    have f10 : w8.frozen? ⟨N, 10, none⟩ = false := HS.out.free 10
    obtain ⟨w10, hw10⟩ : ∃ x, x = (((((w8.setCell ⟨N, 6, none⟩ (.int .u64 (x1 : Int))).setCell ⟨N, 7, none⟩ (.int .u64 (x2 : Int))).setCell ⟨N, 8, none⟩ (.int .i64 (x3 : Int))).setCell ⟨N, 9, none⟩ (.int .u64 (x4 : Int))).setCell ⟨N, 10, none⟩ (.slice ad vs.length cap)) := ⟨_, rfl⟩
    have hk6 : Kept (fun b => b = N) w8 w10 := by rw [hw10]; exact ((((((show Kept (fun b => b = N) w8 w8 from .refl _ _).setCell (p := ⟨N, 6, none⟩) rfl _).setCell (p := ⟨N, 7, none⟩) rfl _).setCell (p := ⟨N, 8, none⟩) rfl _).setCell (p := ⟨N, 9, none⟩) rfl _).setCell (p := ⟨N, 10, none⟩) rfl _)
    have HP2 := Lib.hid (HS.out.put (q' := { zeroI with kind := 2, inc := a, holds := b, has := b1, direct := b2, rc := (x1, x2, x3, x4), pend := vs }) (ad' := ad) (cap' := cap) hk6 (by rw [hw10]; exact (setCell_block (setCell_block (setCell_block (setCell_block (setCell_block HS.out.a 6 _) 7 _) 8 _) 9 _) 10 _)) HOW.out)
    have HL2 := Lib.hid (HL.out.kept hk6 (show ¬ R = N from by have := HS.out.hR; omega))
    clear hk6
    go_upto_region 17 with (fail)
    rw [← hw10]
    clear hw10 HS HL HOW
    clear d6 f6 d7 f7 d8 f8 d9 f9 d10 f10
    have HS := HP2
    have HL := HL2
    clear HP2 HL2
    have k0 : w10.cell? ⟨N, 0, none⟩ = some (.int .i64 2) := HS.out.cell 0 rfl
    have c0 : w10.cell? ⟨B, 0, none⟩ = some (.pointer (some ⟨R, 0, none⟩)) := HS.out.ptr
    have HN := Lib.hid (end_rd HL.out)
    go_upto_region 19 with (fail)
    clear k0
    go_wp2_with fail
    refine HN.out.mono ?_
    rintro e w9 ⟨he, hb9⟩
    by_cases hp : 0 < l5.length
    · rw [if_pos hp] at he
      subst he
      have HQ2 := Lib.hid (show r = .error 4 from by rw [HR.out]; exact if_pos hp)
      have HP := Lib.hid (HS.out.below hb9)
      clear hb9 HN hp
      have HZ := Lib.hid (HP.out)
      have HE := Lib.hid (HZ.out.err (c := 4) (by rw [← HRS.out]; exact HQ2.out))
      have HNN := Lib.hid HZ.out.hR
      refine leaves_cons (f := 40) (args := #[.pointer (some ⟨N, 0, none⟩), .pointer (some ⟨N + 1, 0, none⟩)]) (by simp) (by simp [go_sem]) ?_
      refine (itemD_pan N (N + 1) 0 (4) (by decide) [] _ _ HZ.out.a rfl HZ.out.b (by omega)).mono ?_
      rintro e u' w'' ⟨rfl, rfl, rfl⟩
      exact ⟨_, HZ.out.res (itA zeroI none 0) rfl (4) (by rfl) (by rfl), HE.out⟩
    rw [if_neg hp] at he
    subst he
    have HRF := Lib.hid (show r = .ok ({ zeroI with kind := 2, inc := a, holds := b, has := b1, direct := b2, rc := (x1, x2, x3, x4), pend := vs }, l5) from by rw [HR.out]; exact if_neg hp)
    have HP := Lib.hid (HS.out.below hb9)
    clear HS HL HN hb9 hp c0
    have HS := HP
    clear HP
    obtain ⟨A, hA⟩ : ∃ A, A = itA ({ zeroI with kind := 2, inc := a, holds := b, has := b1, direct := b2, rc := (x1, x2, x3, x4), pend := vs }) ad cap := ⟨_, rfl⟩
    have HE := Lib.hid (HS.out.fine (by rw [← HRS.out]; exact HRF.out))
    have hs7 := (kept_setRowL w9 N A).keep HS.out.b (by omega)
    have H7 := Lib.hid (And.intro (show w9.heap[N]? = some (.cells A 63 (0, 0)) by rw [hA]; exact HS.out.a) (And.intro (show A.size = 18 by rw [hA]; rfl) (show A.all (·.oneCell') = true by rw [hA]; exact itA_one _ _ _)))
    rw [← hA] at HE
    clear hA
    have d0 : (w9.setRow N A).cell? ⟨N + 1, 0, none⟩ = some (.int .i64 0) := cell_of_row _ _ 0 _ _ _ hs7
    have f0 : (w9.setRow N A).frozen? ⟨N + 1, 0, none⟩ = false := frozen_of_row _ _ _ _ _ hs7
    clear hs7
    go_wp2_with (first
      | (refine wpList_load_row rfl 63 (.tmp 2) rfl N rfl 63 A (0, 0) _ H7.out.1 Tryz.underlying63 rfl (by rw [H7.out.2.1]; kernel_rfl) ?_)
      | (refine wpList_store_row rfl 63 (.tmp 2) (.tmp 96) rfl N A rfl rfl 63 _ H7.out.1 (by rw [H7.out.2.1]; kernel_rfl) rfl H7.out.2.2 ?_))
    refine leaves_cons (f := 40) (args := #[.pointer (some ⟨N, 0, none⟩), .pointer (some ⟨N + 1, 0, none⟩)]) (by simp) (by simp [go_sem]) ?_
    refine (itemD_ret ⟨N, 0, none⟩ ⟨N + 1, 0, none⟩ _).mono ?_
    rintro e u' w'' ⟨rfl, rfl, rfl⟩
    exact ⟨_, HS.out.res A H7.out.2.1 0 (by rfl) (by rfl), HE.out⟩
  · have k0' : w4.cell? ⟨N, 0, none⟩ = some (.int .i64 3) := k0
    clear k0
    have k0 := k0'
    clear k0'
    go_upto_region 5 with (go_at_call 44; refine (bad_no 10 _).mono ?_; rintro e w' ⟨rfl, rfl⟩)
    go_upto_region 6 with (go_at_call 44; refine (bad_no 3 _).mono ?_; rintro e w' ⟨rfl, rfl⟩)
    clear d1 d2
    have HR2 := Lib.hid (show r = andR (rdView l1) fun v l => rdFin { zeroI with kind := 3, vw := v } l from by rw [HR.out]; rfl)
    clear HR
    have HR := HR2
    clear HR2
    go_upto_region 14 with (fail)
    have c0 : w4.cell? ⟨B, 0, none⟩ = some (.pointer (some ⟨R, 0, none⟩)) := HS.out.ptr
    have HN := Lib.hid (view_rd HL.out)
    clear k0
    go_wp2_with fail
    refine HN.out.mono ?_
    intro e w5 h1
    rcases hn : rdView l1 with c | ⟨⟨a, b, q, m⟩, l2⟩
    · rw [hn] at h1
      obtain ⟨rfl, hk⟩ := h1
      have HP := Lib.hid (And.intro (rdView_two hn) (HS.out.kr hk))
      have HQ2 := Lib.hid (show r = .error c from by rw [HR.out]; exact andR_err hn _)
      clear hn hk HN
      have HZ := Lib.hid (HP.out.2)
      have HE := Lib.hid (HZ.out.err (c := c) (by rw [← HRS.out]; exact HQ2.out))
      have HNN := Lib.hid HZ.out.hR
      refine leaves_cons (f := 40) (args := #[.pointer (some ⟨N, 0, none⟩), .pointer (some ⟨N + 1, 0, none⟩)]) (by simp) (by simp [go_sem]) ?_
      refine (itemD_pan N (N + 1) 0 (c) (HP.out.1) [] _ _ HZ.out.a rfl HZ.out.b (by omega)).mono ?_
      rintro e u' w'' ⟨rfl, rfl, rfl⟩
      exact ⟨_, HZ.out.res (itA zeroI none 0) rfl (c) (by rfl) (by rfl), HE.out⟩
    rw [hn] at h1
    obtain ⟨he, hl, hk⟩ := h1
    have he : e = .returned (.agg #[.int .u64 (a : Int), .int .u64 (b : Int), .int .i64 (q : Int), .int .u64 (m : Int)]) := he
    subst he
    have HS2 := Lib.hid (HS.out.kr hk)
    have HL2 := Lib.hid hl
    have HR2 := Lib.hid (show r = rdFin { zeroI with kind := 3, vw := (a, b, q, m) } l2 from by rw [HR.out]; exact andR_ok hn _)
    clear HS HL HR hk hl HN
    have HS := HS2
    have HL := HL2
    have HR := HR2
    clear HS2 HL2 HR2
    clear hn c0
    have d11 : w5.cell? ⟨N, 11, none⟩ = some (.int .u64 0) := HS.out.cell 11 rfl
    have f11 : w5.frozen? ⟨N, 11, none⟩ = false := HS.out.free 11
    have d12 : w5.cell? ⟨N, 12, none⟩ = some (.int .u64 0) := HS.out.cell 12 rfl
    have f12 : w5.frozen? ⟨N, 12, none⟩ = false := HS.out.free 12
    have d13 : w5.cell? ⟨N, 13, none⟩ = some (.int .i64 0) := HS.out.cell 13 rfl
    have f13 : w5.frozen? ⟨N, 13, none⟩ = false := HS.out.free 13
    have d14 : w5.cell? ⟨N, 14, none⟩ = some (.int .u64 0) := HS.out.cell 14 rfl
    have f14 : w5.frozen? ⟨N, 14, none⟩ = false := HS.out.free 14
    obtain ⟨w6, hw6⟩ : ∃ x, x = ((((w5.setCell ⟨N, 11, none⟩ (.int .u64 (a : Int))).setCell ⟨N, 12, none⟩ (.int .u64 (b : Int))).setCell ⟨N, 13, none⟩ (.int .i64 (q : Int))).setCell ⟨N, 14, none⟩ (.int .u64 (m : Int))) := ⟨_, rfl⟩
    have hk6 : Kept (fun b => b = N) w5 w6 := by rw [hw6]; exact ((((show Kept (fun b => b = N) w5 w5 from .refl _ _).setCell (p := ⟨N, 11, none⟩) rfl _).setCell (p := ⟨N, 12, none⟩) rfl _).setCell (p := ⟨N, 13, none⟩) rfl _).setCell (p := ⟨N, 14, none⟩) rfl _
    have HP2 := Lib.hid (HS.out.put (q' := { zeroI with kind := 3, vw := (a, b, q, m) }) (ad' := none) (cap' := 0) hk6 (by rw [hw6]; exact setCell_block (setCell_block (setCell_block (setCell_block HS.out.a 11 _) 12 _) 13 _) 14 _) HS.out.own)
    have HL2 := Lib.hid (HL.out.kept hk6 (show ¬ R = N from by have := HS.out.hR; omega))
    clear hk6
    go_upto_region 17 with (fail)
    rw [← hw6]
    clear hw6 HS HL
    clear d11 f11 d12 f12 d13 f13 d14 f14
    have HS := HP2
    have HL := HL2
    clear HP2 HL2
    have k0 : w6.cell? ⟨N, 0, none⟩ = some (.int .i64 3) := HS.out.cell 0 rfl
    have c0 : w6.cell? ⟨B, 0, none⟩ = some (.pointer (some ⟨R, 0, none⟩)) := HS.out.ptr
    have HN := Lib.hid (end_rd HL.out)
    go_upto_region 19 with (fail)
    clear k0
    go_wp2_with fail
    refine HN.out.mono ?_
    rintro e w9 ⟨he, hb9⟩
    by_cases hp : 0 < l2.length
    · rw [if_pos hp] at he
      subst he
      have HQ2 := Lib.hid (show r = .error 4 from by rw [HR.out]; exact if_pos hp)
      have HP := Lib.hid (HS.out.below hb9)
      clear hb9 HN hp
      have HZ := Lib.hid (HP.out)
      have HE := Lib.hid (HZ.out.err (c := 4) (by rw [← HRS.out]; exact HQ2.out))
      have HNN := Lib.hid HZ.out.hR
      refine leaves_cons (f := 40) (args := #[.pointer (some ⟨N, 0, none⟩), .pointer (some ⟨N + 1, 0, none⟩)]) (by simp) (by simp [go_sem]) ?_
      refine (itemD_pan N (N + 1) 0 (4) (by decide) [] _ _ HZ.out.a rfl HZ.out.b (by omega)).mono ?_
      rintro e u' w'' ⟨rfl, rfl, rfl⟩
      exact ⟨_, HZ.out.res (itA zeroI none 0) rfl (4) (by rfl) (by rfl), HE.out⟩
    rw [if_neg hp] at he
    subst he
    have HRF := Lib.hid (show r = .ok ({ zeroI with kind := 3, vw := (a, b, q, m) }, l2) from by rw [HR.out]; exact if_neg hp)
    have HP := Lib.hid (HS.out.below hb9)
    clear HS HL HN hb9 hp c0
    have HS := HP
    clear HP
    obtain ⟨A, hA⟩ : ∃ A, A = itA ({ zeroI with kind := 3, vw := (a, b, q, m) }) none 0 := ⟨_, rfl⟩
    have HE := Lib.hid (HS.out.fine (by rw [← HRS.out]; exact HRF.out))
    have hs7 := (kept_setRowL w9 N A).keep HS.out.b (by omega)
    have H7 := Lib.hid (And.intro (show w9.heap[N]? = some (.cells A 63 (0, 0)) by rw [hA]; exact HS.out.a) (And.intro (show A.size = 18 by rw [hA]; rfl) (show A.all (·.oneCell') = true by rw [hA]; exact itA_one _ _ _)))
    rw [← hA] at HE
    clear hA
    have d0 : (w9.setRow N A).cell? ⟨N + 1, 0, none⟩ = some (.int .i64 0) := cell_of_row _ _ 0 _ _ _ hs7
    have f0 : (w9.setRow N A).frozen? ⟨N + 1, 0, none⟩ = false := frozen_of_row _ _ _ _ _ hs7
    clear hs7
    go_wp2_with (first
      | (refine wpList_load_row rfl 63 (.tmp 2) rfl N rfl 63 A (0, 0) _ H7.out.1 Tryz.underlying63 rfl (by rw [H7.out.2.1]; kernel_rfl) ?_)
      | (refine wpList_store_row rfl 63 (.tmp 2) (.tmp 96) rfl N A rfl rfl 63 _ H7.out.1 (by rw [H7.out.2.1]; kernel_rfl) rfl H7.out.2.2 ?_))
    refine leaves_cons (f := 40) (args := #[.pointer (some ⟨N, 0, none⟩), .pointer (some ⟨N + 1, 0, none⟩)]) (by simp) (by simp [go_sem]) ?_
    refine (itemD_ret ⟨N, 0, none⟩ ⟨N + 1, 0, none⟩ _).mono ?_
    rintro e u' w'' ⟨rfl, rfl, rfl⟩
    exact ⟨_, HS.out.res A H7.out.2.1 0 (by rfl) (by rfl), HE.out⟩
  · have k0' : w4.cell? ⟨N, 0, none⟩ = some (.int .i64 4) := k0
    clear k0
    have k0 := k0'
    clear k0'
    go_upto_region 5 with (go_at_call 44; refine (bad_no 10 _).mono ?_; rintro e w' ⟨rfl, rfl⟩)
    go_upto_region 6 with (go_at_call 44; refine (bad_no 3 _).mono ?_; rintro e w' ⟨rfl, rfl⟩)
    clear d1 d2
    have HR2 := Lib.hid (show r = andR (rdN 8 l1) fun a l => rdIt4a a l from by rw [HR.out]; rfl)
    clear HR
    have HR := HR2
    clear HR2
    go_upto_region 16 with (fail)
    clear k0
    have HDW := Lib.hid (And.intro (HS.out.below (br w4).drew) (HL.out.below (br w4).drew))
    clear HS HL
    have HS := Lib.hid HDW.out.1
    have HL := Lib.hid HDW.out.2
    clear HDW
    refine wp_region_maskD (ok := itOk) (fun w' => w'.cell? ⟨B, 0, none⟩ = some (.pointer (some ⟨R, 0, none⟩))) 16 11 [true, true, false, true, true, false, false, true, true, false, false, false, false, false, false, false, false] #[true, true, false, true, true, false, false, true, true, false, false, false, false, false, false, false, false] (by kernel_rfl) (by kernel_rfl) (by kernel_rfl) (by kernel_rfl) (fun c a d v w hd h => itemPan hd h) HS.out.ptr ?_
    generalize w4.drew = v1 at *
    refine wpMask_take _ (Or.inl ⟨by rfl, fun w' hS => by (try dsimp only at hS); go_simp; try with_reducible rfl⟩) ?_
    simp only [Act.put, List.setIfInBounds_toArray, List.set_cons_zero, List.set_cons_succ, List.getElem_toArray, List.getElem_cons_succ, List.getElem_cons_zero]
    refine wpMask_take _ (Or.inl ⟨by rfl, fun w' hS => by (try dsimp only at hS); go_simp; try with_reducible rfl⟩) ?_
    simp only [Act.put, List.setIfInBounds_toArray, List.set_cons_zero, List.set_cons_succ, List.getElem_toArray, List.getElem_cons_succ, List.getElem_cons_zero]
    refine wpMask_skip ?_
    refine wpMask_take _ (Or.inl ⟨by rfl, fun w' hS => by (try dsimp only at hS); go_simp; try with_reducible rfl⟩) ?_
    simp only [Act.put, List.setIfInBounds_toArray, List.set_cons_zero, List.set_cons_succ, List.getElem_toArray, List.getElem_cons_succ, List.getElem_cons_zero]
    refine wpMask_take _ (Or.inl ⟨by rfl, fun w' hS => by (try dsimp only at hS); go_simp; try with_reducible rfl⟩) ?_
    simp only [Act.put, List.setIfInBounds_toArray, List.set_cons_zero, List.set_cons_succ, List.getElem_toArray, List.getElem_cons_succ, List.getElem_cons_zero]
    refine wpMask_skip ?_
    refine wpMask_skip ?_
    refine wpMask_take _ (Or.inl ⟨by rfl, fun w' hS => by (try dsimp only at hS); go_simp; try with_reducible rfl⟩) ?_
    simp only [Act.put, List.setIfInBounds_toArray, List.set_cons_zero, List.set_cons_succ, List.getElem_toArray, List.getElem_cons_succ, List.getElem_cons_zero]
    refine wpMask_take _ (Or.inl ⟨by rfl, fun w' hS => by (try dsimp only at hS); go_simp; try with_reducible rfl⟩) ?_
    simp only [Act.put, List.setIfInBounds_toArray, List.set_cons_zero, List.set_cons_succ, List.getElem_toArray, List.getElem_cons_succ, List.getElem_cons_zero]
    refine wpMask_skip (wpMask_skip (wpMask_skip (wpMask_skip (wpMask_skip (wpMask_skip (wpMask_skip (wpMask_skip (wpMask_nil ?_))))))))
    refine wpAnyS_ready (rs := [2]) (by kernel_rfl) (by simp) ?_
    refine AllReadyS.cons rfl (fun K hK => ?_) AllReadyS.nil
    have HN := Lib.hid (num_rd HL.out 8 (by omega) (by omega))
    go_simp
    refine HN.out.mono ?_
    intro e v2 h1
    rcases hn : rdN 8 l1 with c | ⟨a, l2⟩
    · rw [hn] at h1
      obtain ⟨rfl, hk⟩ := h1
      have HP := Lib.hid (And.intro (rdN_two hn) (HS.out.kr hk))
      have HQ2 := Lib.hid (show r = .error c from by rw [HR.out]; exact andR_err hn _)
      clear hn hk HN
      have HZ := Lib.hid (HP.out.2)
      have HE := Lib.hid (HZ.out.err (c := c) (by rw [← HRS.out]; exact HQ2.out))
      have HNN := Lib.hid HZ.out.hR
      refine leaves_cons (f := 40) (args := #[.pointer (some ⟨N, 0, none⟩), .pointer (some ⟨N + 1, 0, none⟩)]) (by simp) (by simp [go_sem]) ?_
      refine (itemD_pan N (N + 1) 0 (c) (HP.out.1) [] _ _ HZ.out.a rfl HZ.out.b (by omega)).mono ?_
      rintro e u' w'' ⟨rfl, rfl, rfl⟩
      exact ⟨_, HZ.out.res (itA zeroI none 0) rfl (c) (by rfl) (by rfl), HE.out⟩
    rw [hn] at h1
    obtain ⟨rfl, hl, hk⟩ := h1
    have HS2 := Lib.hid (HS.out.kr hk)
    have HL2 := Lib.hid hl
    have HR2 := Lib.hid (show r = andR (rdN 2 l2) fun b l => rdIt4b a b l from by rw [HR.out]; exact andR_ok hn _)
    clear HS HL HR hk hl HN
    have HS := HS2
    have HL := HL2
    have HR := HR2
    clear HS2 HL2 HR2
    clear hn
    refine hK.out _ _ (fun _ => HS.out.ptr) ?_
    clear hK K
    simp only [Act.put, List.setIfInBounds_toArray, List.set_cons_zero, List.set_cons_succ, List.getElem_toArray, List.getElem_cons_succ, List.getElem_cons_zero]
    refine wpAnyS_takeD (ok := itOk) (i := 11) _ (fun c a d v w hd h => itemPan hd h) rfl (by kernel_rfl) (Or.inl ⟨by rfl, fun w' hS => by (try dsimp only at hS); go_simp; try with_reducible rfl⟩) (HS.out.ptr) ?_
    simp only [Act.put, List.setIfInBounds_toArray, List.set_cons_zero, List.set_cons_succ, List.getElem_toArray, List.getElem_cons_succ, List.getElem_cons_zero]
    refine wpAnyS_ready (rs := [5]) (by kernel_rfl) (by simp) ?_
    refine AllReadyS.cons rfl (fun K hK => ?_) AllReadyS.nil
    have HN := Lib.hid (num_rd HL.out 2 (by omega) (by omega))
    go_simp
    refine HN.out.mono ?_
    intro e v3 h1
    rcases hn : rdN 2 l2 with c | ⟨b, l3⟩
    · rw [hn] at h1
      obtain ⟨rfl, hk⟩ := h1
      have HP := Lib.hid (And.intro (rdN_two hn) (HS.out.kr hk))
      have HQ2 := Lib.hid (show r = .error c from by rw [HR.out]; exact andR_err hn _)
      clear hn hk HN
      have HZ := Lib.hid (HP.out.2)
      have HE := Lib.hid (HZ.out.err (c := c) (by rw [← HRS.out]; exact HQ2.out))
      have HNN := Lib.hid HZ.out.hR
      refine leaves_cons (f := 40) (args := #[.pointer (some ⟨N, 0, none⟩), .pointer (some ⟨N + 1, 0, none⟩)]) (by simp) (by simp [go_sem]) ?_
      refine (itemD_pan N (N + 1) 0 (c) (HP.out.1) [] _ _ HZ.out.a rfl HZ.out.b (by omega)).mono ?_
      rintro e u' w'' ⟨rfl, rfl, rfl⟩
      exact ⟨_, HZ.out.res (itA zeroI none 0) rfl (c) (by rfl) (by rfl), HE.out⟩
    rw [hn] at h1
    have hv : b < 65536 := by simpa using (rdN_lt (by omega) hn).1
    have hw : IntKind.i64.wrap (b : Int) = (b : Int) := IntWalk.i64_in _ (by omega)
    obtain ⟨rfl, hl, hk⟩ := h1
    have HS2 := Lib.hid (HS.out.kr hk)
    have HL2 := Lib.hid hl
    have HR2 := Lib.hid (show r = andR (rdN 2 l3) fun c l => .ok ({ zeroI with kind := 4, num := a, idx := b, tot := c, data := ⟨l.toArray⟩ }, []) from by rw [HR.out]; exact andR_ok hn _)
    clear HS HL HR hk hl HN
    have HS := HS2
    have HL := HL2
    have HR := HR2
    clear HS2 HL2 HR2
    clear hn
    refine hK.out _ _ (fun _ => HS.out.ptr) ?_
    clear hK K
    simp only [Act.put, List.setIfInBounds_toArray, List.set_cons_zero, List.set_cons_succ, List.getElem_toArray, List.getElem_cons_succ, List.getElem_cons_zero]
    refine wpAnyS_takeD (ok := itOk) (i := 6) _ (fun c a d v w hd h => itemPan hd h) rfl (by kernel_rfl) (Or.inl ⟨by rfl, fun w' hS => by (try dsimp only at hS); go_simp; try with_reducible rfl⟩) (HS.out.ptr) ?_
    simp only [Act.put, List.setIfInBounds_toArray, List.set_cons_zero, List.set_cons_succ, List.getElem_toArray, List.getElem_cons_succ, List.getElem_cons_zero]
    try rw [hw]
    refine wpAnyS_ready (rs := [9]) (by kernel_rfl) (by simp) ?_
    refine AllReadyS.cons rfl (fun K hK => ?_) AllReadyS.nil
    have HN := Lib.hid (num_rd HL.out 2 (by omega) (by omega))
    go_simp
    refine HN.out.mono ?_
    intro e v4 h1
    rcases hn : rdN 2 l3 with c | ⟨c2, l4⟩
    · rw [hn] at h1
      obtain ⟨rfl, hk⟩ := h1
      have HP := Lib.hid (And.intro (rdN_two hn) (HS.out.kr hk))
      have HQ2 := Lib.hid (show r = .error c from by rw [HR.out]; exact andR_err hn _)
      clear hn hk HN
      have HZ := Lib.hid (HP.out.2)
      have HE := Lib.hid (HZ.out.err (c := c) (by rw [← HRS.out]; exact HQ2.out))
      have HNN := Lib.hid HZ.out.hR
      refine leaves_cons (f := 40) (args := #[.pointer (some ⟨N, 0, none⟩), .pointer (some ⟨N + 1, 0, none⟩)]) (by simp) (by simp [go_sem]) ?_
      refine (itemD_pan N (N + 1) 0 (c) (HP.out.1) [] _ _ HZ.out.a rfl HZ.out.b (by omega)).mono ?_
      rintro e u' w'' ⟨rfl, rfl, rfl⟩
      exact ⟨_, HZ.out.res (itA zeroI none 0) rfl (c) (by rfl) (by rfl), HE.out⟩
    rw [hn] at h1
    have hv2 : c2 < 65536 := by simpa using (rdN_lt (by omega) hn).1
    have hw2 : IntKind.i64.wrap (c2 : Int) = (c2 : Int) := IntWalk.i64_in _ (by omega)
    obtain ⟨rfl, hl, hk⟩ := h1
    have HS2 := Lib.hid (HS.out.kr hk)
    have HL2 := Lib.hid hl
    have HR2 := Lib.hid (show r = .ok ({ zeroI with kind := 4, num := a, idx := b, tot := c2, data := ⟨l4.toArray⟩ }, []) from by rw [HR.out]; exact andR_ok hn _)
    clear HS HL HR hk hl HN
    have HS := HS2
    have HL := HL2
    have HR := HR2
    clear HS2 HL2 HR2
    clear hn
    refine hK.out _ _ (fun _ => HS.out.ptr) ?_
    clear hK K
    simp only [Act.put, List.setIfInBounds_toArray, List.set_cons_zero, List.set_cons_succ, List.getElem_toArray, List.getElem_cons_succ, List.getElem_cons_zero]
    refine wpAnyS_takeD (ok := itOk) (i := 10) _ (fun c a d v w hd h => itemPan hd h) rfl (by kernel_rfl) (Or.inl ⟨by rfl, fun w' hS => by (try dsimp only at hS); go_simp; try with_reducible rfl⟩) (HS.out.ptr) ?_
    simp only [Act.put, List.setIfInBounds_toArray, List.set_cons_zero, List.set_cons_succ, List.getElem_toArray, List.getElem_cons_succ, List.getElem_cons_zero]
    try rw [hw2]
    have d15 : v4.cell? ⟨N, 15, none⟩ = some (.int .u64 0) := HS.out.cell 15 rfl
    have f15 : v4.frozen? ⟨N, 15, none⟩ = false := HS.out.free 15
    refine wpAnyS_ready (rs := [12]) (by kernel_rfl) (by simp) ?_
    refine AllReadyS.cons rfl (fun K hK => ?_) AllReadyS.nil
    go_simp
    have HP2 := Lib.hid (HS.out.put (q' := { zeroI with kind := 4, num := a }) (ad' := none) (cap' := 0) (keptSL v4 ⟨N, 15, none⟩ (.int .u64 (a : Int))) (setCell_block HS.out.a 15 (.int .u64 (a : Int))) HS.out.own)
    have HL2 := Lib.hid (HL.out.kept (keptSL v4 ⟨N, 15, none⟩ (.int .u64 (a : Int))) (show ¬ R = N from by have := HS.out.hR; omega))
    refine hK.out _ _ (fun _ => HP2.out.ptr) ?_
    clear hK K
    simp only [Act.put, List.setIfInBounds_toArray, List.set_cons_zero, List.set_cons_succ, List.getElem_toArray, List.getElem_cons_succ, List.getElem_cons_zero]
    generalize v4.setCell ⟨N, 15, none⟩ (.int .u64 (a : Int)) = v5 at *
    clear HS HL
    have HS := HP2
    have HL := HL2
    clear HP2 HL2
    clear d15 f15
    refine wpAnyS_takeD (ok := itOk) (i := 13) _ (fun c a d v w hd h => itemPan hd h) rfl (by kernel_rfl) (Or.inl ⟨by rfl, fun w' hS => by (try dsimp only at hS); go_simp; try with_reducible rfl⟩) (HS.out.ptr) ?_
    simp only [Act.put, List.setIfInBounds_toArray, List.set_cons_zero, List.set_cons_succ, List.getElem_toArray, List.getElem_cons_succ, List.getElem_cons_zero]
    have d16 : v5.cell? ⟨N, 16, none⟩ = some (.int .i64 0) := HS.out.cell 16 rfl
    have f16 : v5.frozen? ⟨N, 16, none⟩ = false := HS.out.free 16
    refine wpAnyS_ready (rs := [14]) (by kernel_rfl) (by simp) ?_
    refine AllReadyS.cons rfl (fun K hK => ?_) AllReadyS.nil
    go_simp
    have HP2 := Lib.hid (HS.out.put (q' := { zeroI with kind := 4, num := a, idx := b }) (ad' := none) (cap' := 0) (keptSL v5 ⟨N, 16, none⟩ (.int .i64 (b : Int))) (setCell_block HS.out.a 16 (.int .i64 (b : Int))) HS.out.own)
    have HL2 := Lib.hid (HL.out.kept (keptSL v5 ⟨N, 16, none⟩ (.int .i64 (b : Int))) (show ¬ R = N from by have := HS.out.hR; omega))
    refine hK.out _ _ (fun _ => HP2.out.ptr) ?_
    clear hK K
    simp only [Act.put, List.setIfInBounds_toArray, List.set_cons_zero, List.set_cons_succ, List.getElem_toArray, List.getElem_cons_succ, List.getElem_cons_zero]
    generalize v5.setCell ⟨N, 16, none⟩ (.int .i64 (b : Int)) = v6 at *
    clear HS HL
    have HS := HP2
    have HL := HL2
    clear HP2 HL2
    clear d16 f16
    refine wpAnyS_takeD (ok := itOk) (i := 15) _ (fun c a d v w hd h => itemPan hd h) rfl (by kernel_rfl) (Or.inl ⟨by rfl, fun w' hS => by (try dsimp only at hS); go_simp; try with_reducible rfl⟩) (HS.out.ptr) ?_
    simp only [Act.put, List.setIfInBounds_toArray, List.set_cons_zero, List.set_cons_succ, List.getElem_toArray, List.getElem_cons_succ, List.getElem_cons_zero]
    have d17 : v6.cell? ⟨N, 17, none⟩ = some (.int .i64 0) := HS.out.cell 17 rfl
    have f17 : v6.frozen? ⟨N, 17, none⟩ = false := HS.out.free 17
    refine wpAnyS_ready (rs := [16]) (by kernel_rfl) (by simp) ?_
    refine AllReadyS.cons rfl (fun K hK => ?_) AllReadyS.nil
    go_simp
    refine hK.out _ _ (fun h => absurd h (by decide)) ?_
    clear hK K
    simp only [Act.put, List.setIfInBounds_toArray, List.set_cons_zero, List.set_cons_succ, List.getElem_toArray, List.getElem_cons_succ, List.getElem_cons_zero]
    refine wpAnyS_doneD (by kernel_rfl) ?_ _
    have HP2 := Lib.hid (HS.out.put (q' := { zeroI with kind := 4, num := a, idx := b, tot := c2 }) (ad' := none) (cap' := 0) (keptSL v6 ⟨N, 17, none⟩ (.int .i64 (c2 : Int))) (setCell_block HS.out.a 17 (.int .i64 (c2 : Int))) HS.out.own)
    have HL2 := Lib.hid (HL.out.kept (keptSL v6 ⟨N, 17, none⟩ (.int .i64 (c2 : Int))) (show ¬ R = N from by have := HS.out.hR; omega))
    generalize v6.setCell ⟨N, 17, none⟩ (.int .i64 (c2 : Int)) = w5 at *
    clear HS HL
    have HS := HP2
    have HL := HL2
    clear HP2 HL2
    clear d17 f17
    have k0 : w5.cell? ⟨N, 0, none⟩ = some (.int .i64 4) := HS.out.cell 0 rfl
    clear hw hw2
    go_upto_region 18 with (fail)
    clear k0
    have HDW := Lib.hid (And.intro (HS.out.below (br w5).drew) (HL.out.below (br w5).drew))
    clear HS HL
    have HS := Lib.hid HDW.out.1
    have HL := Lib.hid HDW.out.2
    clear HDW
    refine wp_region_maskD (ok := itOk) (fun w' => w'.cell? ⟨B, 0, none⟩ = some (.pointer (some ⟨R, 0, none⟩))) 7 4 [true, true, true, true, false, false, false, false] #[true, true, true, true, false, false, false, false] (by kernel_rfl) (by kernel_rfl) (by kernel_rfl) (by kernel_rfl) (fun c a d v w hd h => itemPan hd h) HS.out.ptr ?_
    generalize w5.drew = x1 at *
    refine wpMask_take _ (Or.inl ⟨by rfl, fun w' hS => by (try dsimp only at hS); go_simp; try with_reducible rfl⟩) ?_
    simp only [Act.put, List.setIfInBounds_toArray, List.set_cons_zero, List.set_cons_succ, List.getElem_toArray, List.getElem_cons_succ, List.getElem_cons_zero]
    refine wpMask_take _ (Or.inl ⟨by rfl, fun w' hS => by (try dsimp only at hS); go_simp; try with_reducible rfl⟩) ?_
    simp only [Act.put, List.setIfInBounds_toArray, List.set_cons_zero, List.set_cons_succ, List.getElem_toArray, List.getElem_cons_succ, List.getElem_cons_zero]
    refine wpMask_take _ (Or.inl ⟨by rfl, fun w' hS => by (try dsimp only at hS); go_simp; try with_reducible rfl⟩) ?_
    simp only [Act.put, List.setIfInBounds_toArray, List.set_cons_zero, List.set_cons_succ, List.getElem_toArray, List.getElem_cons_succ, List.getElem_cons_zero]
    refine wpMask_take _ (Or.inl ⟨by rfl, fun w' hS => by (try dsimp only at hS); go_simp; try with_reducible rfl⟩) ?_
    simp only [Act.put, List.setIfInBounds_toArray, List.set_cons_zero, List.set_cons_succ, List.getElem_toArray, List.getElem_cons_succ, List.getElem_cons_zero]
    refine wpMask_skip (wpMask_skip (wpMask_skip (wpMask_skip (wpMask_nil ?_))))
    refine wpAnyS_ready (rs := [4]) (by kernel_rfl) (by simp) ?_
    refine AllReadyS.cons rfl (fun K hK => ?_) AllReadyS.nil
    have HN := Lib.hid (left_rd HL.out)
    go_simp
    refine HN.out.mono ?_
    rintro e x2 ⟨rfl, hb⟩
    have HDW := Lib.hid (And.intro (HS.out.below hb) (HL.out.below hb))
    clear HS HL HN hb
    have HS := Lib.hid HDW.out.1
    have HL := Lib.hid HDW.out.2
    clear HDW
    refine hK.out _ _ (fun _ => HS.out.ptr) ?_
    clear hK K
    simp only [Act.put, List.setIfInBounds_toArray, List.set_cons_zero, List.set_cons_succ, List.getElem_toArray, List.getElem_cons_succ, List.getElem_cons_zero]
    refine wpAnyS_ready (rs := [5]) (by kernel_rfl) (by simp) ?_
    refine AllReadyS.cons rfl (fun K hK => ?_) AllReadyS.nil
    have HN := Lib.hid (text_rd HL.out l4.length)
    go_simp
    refine HN.out.mono ?_
    intro e x3 h1
    rw [rdT_all] at h1
    obtain ⟨he, hl, hk⟩ := h1
    have he : e = .returned (.string ⟨l4.toArray⟩) := he
    subst he
    have HS2 := Lib.hid (HS.out.kr hk)
    have HL2 := Lib.hid (show RdL x3 R s [] from hl)
    clear HS HL hk hl HN
    have HS := HS2
    have HL := HL2
    clear HS2 HL2
    refine hK.out _ _ (fun _ => HS.out.ptr) ?_
    clear hK K
    simp only [Act.put, List.setIfInBounds_toArray, List.set_cons_zero, List.set_cons_succ, List.getElem_toArray, List.getElem_cons_succ, List.getElem_cons_zero]
    refine wpAnyS_takeD (ok := itOk) (i := 6) _ (fun c a d v w hd h => itemPan hd h) rfl (by kernel_rfl) (Or.inl ⟨by rfl, fun w' hS => by (try dsimp only at hS); go_simp; try with_reducible rfl⟩) (HS.out.ptr) ?_
    simp only [Act.put, List.setIfInBounds_toArray, List.set_cons_zero, List.set_cons_succ, List.getElem_toArray, List.getElem_cons_succ, List.getElem_cons_zero]
    have d1 : x3.cell? ⟨N, 1, none⟩ = some (.string ⟨#[]⟩) := HS.out.cell 1 rfl
    have f1 : x3.frozen? ⟨N, 1, none⟩ = false := HS.out.free 1
    obtain ⟨D, hD⟩ : ∃ D : ByteArray, D = ⟨l4.toArray⟩ := ⟨_, rfl⟩
    rw [← hD]
    rw [← hD] at HR
    have HD := Lib.hid hD
    clear hD
    refine wpAnyS_ready (rs := [7]) (by kernel_rfl) (by simp) ?_
    refine AllReadyS.cons rfl (fun K hK => ?_) AllReadyS.nil
    go_simp
    refine hK.out _ _ (fun h => absurd h (by decide)) ?_
    clear hK K
    simp only [Act.put, List.setIfInBounds_toArray, List.set_cons_zero, List.set_cons_succ, List.getElem_toArray, List.getElem_cons_succ, List.getElem_cons_zero]
    refine wpAnyS_doneD (by kernel_rfl) ?_ _
    have HP2 := Lib.hid (HS.out.put (q' := { zeroI with kind := 4, num := a, idx := b, tot := c2, data := D }) (ad' := none) (cap' := 0) (keptSL x3 ⟨N, 1, none⟩ (.string D)) (setCell_block HS.out.a 1 (.string D)) HS.out.own)
    have HL2 := Lib.hid (HL.out.kept (keptSL x3 ⟨N, 1, none⟩ (.string D)) (show ¬ R = N from by have := HS.out.hR; omega))
    generalize x3.setCell ⟨N, 1, none⟩ (.string D) = x4 at *
    clear HS HL
    have HS := HP2
    have HL := HL2
    clear HP2 HL2
    clear d1 f1
    have HRF := Lib.hid HR.out
    have c0 : x4.cell? ⟨B, 0, none⟩ = some (.pointer (some ⟨R, 0, none⟩)) := HS.out.ptr
    have HN := Lib.hid (end_rd HL.out)
    go_upto_region 19 with (fail)
    go_wp2_with fail
    refine HN.out.mono ?_
    rintro e w9 ⟨he, hb9⟩
    have he : e = .returned (.tuple #[]) := he
    subst he
    have HP := Lib.hid (HS.out.below hb9)
    clear HS HL HN hb9 c0
    have HS := HP
    clear HP
    obtain ⟨A, hA⟩ : ∃ A, A = itA ({ zeroI with kind := 4, num := a, idx := b, tot := c2, data := D }) none 0 := ⟨_, rfl⟩
    have HE := Lib.hid (HS.out.fine (by rw [← HRS.out]; exact HRF.out))
    have hs7 := (kept_setRowL w9 N A).keep HS.out.b (by omega)
    have H7 := Lib.hid (And.intro (show w9.heap[N]? = some (.cells A 63 (0, 0)) by rw [hA]; exact HS.out.a) (And.intro (show A.size = 18 by rw [hA]; rfl) (show A.all (·.oneCell') = true by rw [hA]; exact itA_one _ _ _)))
    rw [← hA] at HE
    clear hA
    have d0 : (w9.setRow N A).cell? ⟨N + 1, 0, none⟩ = some (.int .i64 0) := cell_of_row _ _ 0 _ _ _ hs7
    have f0 : (w9.setRow N A).frozen? ⟨N + 1, 0, none⟩ = false := frozen_of_row _ _ _ _ _ hs7
    clear hs7
    go_wp2_with (first
      | (refine wpList_load_row rfl 63 (.tmp 2) rfl N rfl 63 A (0, 0) _ H7.out.1 Tryz.underlying63 rfl (by rw [H7.out.2.1]; kernel_rfl) ?_)
      | (refine wpList_store_row rfl 63 (.tmp 2) (.tmp 96) rfl N A rfl rfl 63 _ H7.out.1 (by rw [H7.out.2.1]; kernel_rfl) rfl H7.out.2.2 ?_))
    refine leaves_cons (f := 40) (args := #[.pointer (some ⟨N, 0, none⟩), .pointer (some ⟨N + 1, 0, none⟩)]) (by simp) (by simp [go_sem]) ?_
    refine (itemD_ret ⟨N, 0, none⟩ ⟨N + 1, 0, none⟩ _).mono ?_
    rintro e u' w'' ⟨rfl, rfl, rfl⟩
    exact ⟨_, HS.out.res A H7.out.2.1 0 (by rfl) (by rfl), HE.out⟩
end Go.Proofs.YtogagkgkmoppmaaGreatDoor
