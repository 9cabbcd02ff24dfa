/-
  The judge's views of a trace: what they are, in plain, and that views finds them.
  Conditions: those that each theorem names.
-/
import Derived.Test.YtogagkgkmoppmaaGreatDoorApFZs
import Derived.Test.YtogagkgkmoppmaaGreatDoorApC
namespace Go.Proofs.YtogagkgkmoppmaaGreatDoor
set_option linter.unusedVariables false
set_option linter.unusedSimpArgs false
open Go.RowKit GM Go.Shelf
def evD : Ev := ⟨0, 0, 0, 0, 0, 0, 0, zeroM, 0, 0, 0, 0, none, 0, 0, ⟨#[]⟩⟩
/-- the event at a place -/
def evAt (l : List Ev) (j : Nat) : Ev := (l[j]?).getD evD
theorem evAt_of {l : List Ev} {j : Nat} {x : Ev} (h : l[j]? = some x) : evAt l j = x := by unfold evAt; rw [h]; rfl
/-- one event more: the places of views by their numbers, and whether two of one number are alike -/
def vstep (l : List Ev) (nm : Nat → List NameK) (s : List (Int × Nat) × Bool) (i : Nat) : List (Int × Nat) × Bool :=
  if (evAt l i).kind = 7 then (put s.1 ((evAt l i).vn : Int) i, s.2 && (match get s.1 ((evAt l i).vn : Int) with
    | none => true
    | some j => decide (viewK (evAt l j) = viewK (evAt l i)) && decide (nm j = nm i))) else s
def vrun (l : List Ev) (nm : Nat → List NameK) : Nat → List (Int × Nat) × Bool
  | 0 => ([], true)
  | n + 1 => vstep l nm (vrun l nm n) n
def VOk (l : List Ev) (n : Nat) (P : List (Int × Nat)) : Prop := (P.map (·.1)).Nodup ∧ P.length ≤ n ∧ ∀ p ∈ P, p.2 < n ∧ p.1 = ((evAt l p.2).vn : Int) ∧ (evAt l p.2).kind = 7
theorem put_len {β : Type} (P : List (Int × β)) (k : Int) (v : β) : (put P k v).length ≤ P.length + 1 := by
  unfold put
  split <;> simp
theorem put_keys {β : Type} (P : List (Int × β)) (k : Int) (v : β) (h : (P.map (·.1)).Nodup) : ((put P k v).map (·.1)).Nodup := by
  unfold put
  split
  · have : (P.map (fun x => if x.1 = k then (k, v) else x)).map (·.1) = P.map (·.1) := by
      rw [List.map_map]
      refine List.map_congr_left fun x _ => ?_
      simp only [Function.comp]
      split
      · rename_i h; exact h.symm
      · rfl
    rw [this]
    exact h
  · rename_i hh
    rw [List.map_append, List.nodup_append]
    refine ⟨h, by simp, fun a ha b hb => ?_⟩
    simp only [List.map_cons, List.map_nil, List.mem_singleton] at hb
    obtain ⟨p, hp, rfl⟩ := List.mem_map.1 ha
    have hn : has P k = false := by simpa using hh
    rw [has_get] at hn
    exact fun e => get_none (i := k) (by simpa using hn) p hp (e.trans hb)
theorem putMemV {β : Type} {P : List (Int × β)} {k : Int} {v : β} {p : Int × β} (h : p ∈ put P k v) : p ∈ P ∨ p = (k, v) := by
  unfold put at h
  split at h
  · obtain ⟨x, hx, rfl⟩ := List.mem_map.1 h
    split
    · exact .inr rfl
    · exact .inl hx
  · rcases List.mem_append.1 h with h | h
    · exact .inl h
    · exact .inr (List.mem_singleton.1 h)
theorem vrun_ok (l : List Ev) (nm : Nat → List NameK) : ∀ n, VOk l n (vrun l nm n).1
  | 0 => ⟨by simp [vrun], by simp [vrun], fun p hp => by simp [vrun] at hp⟩
  | n + 1 => by
    obtain ⟨h1, h2, h3⟩ := vrun_ok l nm n
    show VOk l (n + 1) (vstep l nm (vrun l nm n) n).1
    unfold vstep
    by_cases hk : (evAt l n).kind = 7
    · rw [if_pos hk]
      refine ⟨put_keys _ _ _ h1, Nat.le_trans (put_len _ _ _) (by omega), fun p hp => ?_⟩
      rcases putMemV hp with hp | rfl
      · obtain ⟨a, b, c⟩ := h3 p hp
        exact ⟨by omega, b, c⟩
      · exact ⟨by show n < n + 1; omega, rfl, hk⟩
    · rw [if_neg hk]
      exact ⟨h1, by omega, fun p hp => by obtain ⟨a, b, c⟩ := h3 p hp; exact ⟨by omega, b, c⟩⟩
/-- the views' places, by rising numbers -/
def vplaces (l : List Ev) (nm : Nat → List NameK) : List Nat := (sortZ ((vrun l nm l.length).1.map fun p => (evAt l p.2).vn)).map fun k : Nat => ((get (vrun l nm l.length).1 (k : Int)).getD 0)
abbrev evVP (l : List Ev) (j : Nat) : Value := evV (evAt l j)
def evsVP (l : List Ev) (P : List (Int × Nat)) : List (Int × Ev) := P.map fun p => (p.1, evAt l p.2)
theorem vals_evsVP (l : List Ev) (P : List (Int × Nat)) : vals (evVP l) P = vals evV (evsVP l P) := by
  unfold vals evsVP
  rw [List.map_map]
  rfl
theorem getP_mem {β : Type} {P : List (Int × β)} (hn : (P.map (·.1)).Nodup) {p : Int × β} (hp : p ∈ P) : get P p.1 = some p.2 := by
  obtain ⟨i, hi, rfl⟩ := List.mem_iff_getElem.1 hp
  unfold GM.get
  rw [GM.find_some hn (j := i) (i := (P[i]).1) (v := (P[i]).2) (by simp [hi])]
  rfl
theorem sorted_places (l : List Ev) (nm : Nat → List NameK) : sortedE (evsVP l (vrun l nm l.length).1) = (vplaces l nm).map (evAt l) := by
  obtain ⟨h1, h2, h3⟩ := vrun_ok l nm l.length
  obtain ⟨P, hP⟩ : ∃ P, P = (vrun l nm l.length).1 := ⟨_, rfl⟩
  unfold sortedE vplaces
  rw [← hP] at h1 h2 h3 ⊢
  have e1 : (evsVP l P).map (fun p => p.2.vn) = P.map fun p => (evAt l p.2).vn := by unfold evsVP; rw [List.map_map]; rfl
  have e2 : (evsVP l P).map (·.1) = P.map (·.1) := by unfold evsVP; rw [List.map_map]; rfl
  rw [e1, List.map_map]
  refine List.map_congr_left fun k hk => ?_
  obtain ⟨p, hp, rfl⟩ := List.mem_map.1 ((sortZ_perm _).mem_iff.1 hk)
  have hm : (p.1, evAt l p.2) ∈ evsVP l P := List.mem_map.2 ⟨p, hp, rfl⟩
  have h4 := (evK_of (L := evsVP l P) (by rw [e2]; exact h1) (fun q hq => by
    obtain ⟨r, hr, rfl⟩ := List.mem_map.1 hq
    exact (h3 r hr).2.1) hm).2
  rw [h4]
  show evAt l p.2 = evAt l ((get P ((evAt l p.2).vn : Int)).getD 0)
  rw [← (h3 p hp).2.1, getP_mem h1 hp]
  rfl
theorem vplaces_len (l : List Ev) (nm : Nat → List NameK) : (vplaces l nm).length = (vrun l nm l.length).1.length := by
  unfold vplaces
  rw [List.length_map, (sortZ_perm _).length_eq, List.length_map]
theorem vplaces_mem {l : List Ev} {nm : Nat → List NameK} {j : Nat} (h : j ∈ vplaces l nm) : j < l.length ∧ (evAt l j).kind = 7 := by
  obtain ⟨h1, h2, h3⟩ := vrun_ok l nm l.length
  unfold vplaces at h
  obtain ⟨k, hk, rfl⟩ := List.mem_map.1 h
  obtain ⟨p, hp, rfl⟩ := List.mem_map.1 ((sortZ_perm _).mem_iff.1 hk)
  rw [← (h3 p hp).2.1, getP_mem h1 hp]
  exact ⟨(h3 p hp).1, (h3 p hp).2.2⟩
theorem viewEql (w : World) (a0 a1 a2 a3 b0 b1 b2 b3 : Int) : (Go.binOp .eql 33 (.agg #[.int .u64 a0, .int .u64 a1, .int .i64 a2, .int .u64 a3]) (.agg #[.int .u64 b0, .int .u64 b1, .int .i64 b2, .int .u64 b3])).run Tryz.prog w = .ok (.bool (((a0 == b0 && a1 == b1) && a2 == b2) && a3 == b3)) w := by
  by_cases h0 : a0 = b0
  rotate_left
  · have d : (a0 == b0) = false := by simpa using h0
    rw [d]
    (try simp only [Bool.and_false, Bool.false_and])
    go_simp
  subst h0
  have e0 : (a0 == a0) = true := by simp
  by_cases h1 : a1 = b1
  rotate_left
  · have d : (a1 == b1) = false := by simpa using h1
    rw [d]
    (try simp only [Bool.and_false, Bool.false_and])
    go_simp
  subst h1
  have e1 : (a1 == a1) = true := by simp
  by_cases h2 : a2 = b2
  rotate_left
  · have d : (a2 == b2) = false := by simpa using h2
    rw [d]
    (try simp only [Bool.and_false, Bool.false_and])
    go_simp
  subst h2
  have e2 : (a2 == a2) = true := by simp
  by_cases h3 : a3 = b3
  rotate_left
  · have d : (a3 == b3) = false := by simpa using h3
    rw [d]
    (try simp only [Bool.and_false, Bool.false_and])
    go_simp
  subst h3
  have e3 : (a3 == a3) = true := by simp
  rw [e0, e1, e2, e3]
  (try simp only [Bool.and_self])
  go_simp
def VEnd (w : World) (l : List Ev) (nm : Nat → List NameK) (e : Ending) (w' : World) : Prop := ∃ v, (e = .returned (.tuple #[v, .bool (vrun l nm l.length).2]) ∧ w'.ownsRow w.heap.size 36 19 v (vplaces l nm).length (rowsE ((vplaces l nm).map (evAt l)))) ∧ Below w.heap.size w w'
/-- the state ahead of a place -/
def VAt (w : World) (l : List Ev) (nm : Nat → List NameK) (mb j : Nat) (ok : Bool) (W : World) : Prop := Below w.heap.size w W ∧ GMap uV W mb (vals (evVP l) (vrun l nm j).1) ∧ ok = (vrun l nm j).2
set_option maxRecDepth 100000 in
set_option maxHeartbeats 8000000 in
theorem views_gen {w : World} {g o : Nat} {l : List Ev} {nm : Nat → List NameK} (hT : Tr w g o l nm) (ad : Option Addr) (had : 0 < l.length → ad = some ⟨g, o, none⟩) (cap : Nat) (hl : l.length ≤ 500) :
    Calls Tryz.prog 28 #[.slice ad l.length cap] w (VEnd w l nm) := by
  obtain ⟨n, hn⟩ : ∃ n, n = l.length := ⟨_, rfl⟩
  obtain ⟨w1, hw1⟩ : ∃ w1, w1 = w.alloc (.map #[] 0) := ⟨_, rfl⟩
  obtain ⟨mb, hmb⟩ : ∃ mb, mb = w.heap.size := ⟨_, rfl⟩
  have hb1 : Below w.heap.size w w1 := by rw [hw1]; exact ba (br w) _
  have hm1 : GMap uV w1 mb (vals (evVP l) []) := by rw [hw1, hmb]; exact GMap.made uV w
  have H0 := Lib.hid (show VAt w l nm mb 0 true w1 from ⟨hb1, hm1, rfl⟩)
  have HH := Lib.hid (And.intro hT (And.intro had (And.intro hl (And.intro hn hmb))))
  have hn9 : n ≤ 500 := by rw [hn]; exact hl
  have hmm := @run_makeMap Tryz.prog
  rw [← hn]
  clear hT had hl hn hb1 hm1
  go_enter Tryz.func28, Tryz.ntmps28
  go_upto_region 2 with (fail)
  rw [← hw1, ← hmb]
  clear hw1 hmb hmm
  go_wp2_with fail
  go_loopw [5, 13] (fun b i wr => ∃ j : Nat, ∃ ok : Bool, j ≤ n ∧ b = .bool ok ∧ i = .int .i64 (j : Int) ∧ Hid (VAt w l nm mb j ok wr)) (fun _ i _ => n - (intOf i).toNat)
  case atStart => exact ⟨0, true, by omega, rfl, rfl, H0⟩
  case round =>
    obtain ⟨j, ok, hj, rfl, rfl, HW⟩ := hrel
    by_cases hlt : j < n
    · have hd1 : decide ((j : Int) < (n : Int)) = true := by rw [decide_eq_true_eq]; omega
      have hd2 : decide (j < n) = true := by rw [decide_eq_true_eq]; omega
      have hd3 : (j : Int) < (n : Int) := by omega
      have hjl : j < l.length := by rw [← HH.out.2.2.2.1]; exact hlt
      obtain ⟨x, hx⟩ : ∃ x, l[j]? = some x := ⟨_, List.getElem?_eq_getElem hjl⟩
      have hTr := HH.out.1.below HW.out.1
      have hr : wr.rangeAt g (o + j * 19) (evA x).toList := by
        have h := (hTr.ev j hjl).2.1
        rwa [show l[j] = x from by rw [List.getElem?_eq_getElem hjl] at hx; injection hx] at h
      have had := HH.out.2.1 (by omega)
      obtain ⟨cx, hcx⟩ : ∃ cx, cx = evA x := ⟨_, rfl⟩
      rw [← hcx] at hr
      have y1 : cx.size = 19 := by rw [hcx]; rfl
      have p1 : cx.all (·.oneCell') = true := by rw [hcx]; simp [evA, Value.oneCell']
      have hc1 : cx.toList.toArray = cx := by simp
      obtain ⟨X, hX⟩ : ∃ X, X = wr.heap.size := ⟨_, rfl⟩
      have hz := heap_alloc_new wr (.cells zEv 36)
      have hbz := ba (br wr) (.cells zEv 36)
      rw [← hX] at hz
      obtain ⟨w2, hw2⟩ : ∃ w2, w2 = (wr.alloc (.cells zEv 36)).setRow X cx := ⟨_, rfl⟩
      have hb2 : Below wr.heap.size wr w2 := by rw [hw2]; exact (kept_setRow' (wr.alloc (.cells zEv 36)) X cx).out hbz hbz.size (fun k hk' e => by omega)
      have hx2 : w2.heap[X]? = some (.cells cx 36 (0, 0)) := by rw [hw2]; exact setRow_heap _ _ _ _ _ _ hz
      have hz2 : w2.heap.size = X + 1 := by rw [hw2, hX]; simp
      have HZ := Lib.hid (And.intro hz hX)
      have HG := Lib.hid (And.intro hr (And.intro y1 (And.intro p1 (And.intro hcx (And.intro hlt hx)))))
      have H2 := Lib.hid (show VAt w l nm mb j ok w2 from ⟨bt HW.out.1 hb2, HW.out.2.1.below hb2 HW.out.2.1.lt, HW.out.2.2⟩)
      have HX := Lib.hid (And.intro hx2 hz2)
      rw [hcx] at hx2
      have e0 : w2.cell? ⟨X, 0, none⟩ = some (.int .i64 x.kind) := cell_of_row _ _ 0 _ _ _ hx2
      have e13 : w2.cell? ⟨X, 13, none⟩ = some (.int .u64 x.vn) := cell_of_row _ _ 13 _ _ _ hx2
      rw [had]
      clear hr hz hbz hX hx2 y1 p1 hcx hx hlt hjl hTr hb2 HW H0 had hz2
      unfold zEv at hw2 HZ
      go_upto_region 6 with (first
        | (with_reducible refine wpList_load_mid rfl 36 (.tmp 15) rfl g (o + j * 19) rfl cx.toList _ HG.out.1 Tryz.underlying36 rfl (by rw [Array.length_toList, HG.out.2.1]; kernel_rfl) ?_)
        | (refine wpList_store_row rfl 36 (.tmp 7) (.tmp 16) rfl X cx (by rw [HZ.out.2]; rfl) (by rw [← hc1]; rfl) 36 _ HZ.out.1 (by rw [HG.out.2.1]; kernel_rfl) (by rw [HG.out.2.1]; rfl) HG.out.2.2.1 ?_)
        | fail)
      rw [← hw2, ← HZ.out.2]
      clear hw2 hc1 HZ
      by_cases k7 : x.kind = 7
      · rw [k7] at e0
        obtain ⟨P, hP⟩ : ∃ P, P = (vrun l nm j).1 := ⟨_, rfl⟩
        have hvr := vrun_ok l nm j
        rw [← hP] at hvr
        have hvs : ∀ b : Bool, ok = b → ∀ q : Bool, q = (match get P (x.vn : Int) with
            | none => true
            | some i => decide (viewK (evAt l i) = viewK x) && decide (nm i = nm j)) → vrun l nm (j + 1) = (put P (x.vn : Int) j, b && q) := by
          intro b hb q hq
          show vstep l nm (vrun l nm j) j = _
          unfold vstep
          rw [evAt_of HG.out.2.2.2.2.2, if_pos k7, ← hP, ← H2.out.2.2, hb, hq]
        obtain ⟨hb2, hgm, hok⟩ := H2.out
        rw [← hP] at hgm
        have hlk : ∃ (cy : Array Value) (there : Bool), (Instr.lookup 132 (.map (some mb)) (.int .u64 (x.vn : Int)) true).run Tryz.prog w2 = .ok (.tuple #[.agg cy, .bool there]) w2 ∧ cy.size = 19 ∧ cy.all (·.oneCell') = true ∧
            (there = false ∧ get P (x.vn : Int) = none ∨ there = true ∧ ∃ i, get P (x.vn : Int) = some i ∧ cy = evA (evAt l i)) := by
          have h := hgm.lookup_ok (P := Tryz.prog) Tryz.underlying132 uLaw (Tryz.zeroValue36 w2) (x.vn : Int)
          rw [get_vals, has_vals, has_get] at h
          rcases hget : get P (x.vn : Int) with _ | i
          · rw [hget] at h
            exact ⟨_, false, h, rfl, by simp [Value.oneCell'], .inl ⟨rfl, rfl⟩⟩
          · rw [hget] at h
            exact ⟨evA (evAt l i), true, h, rfl, by simp [evA, Value.oneCell'], .inr ⟨rfl, i, rfl, rfl⟩⟩
        obtain ⟨cy, there, hlk, yy1, yp1, hth⟩ := hlk
        have HU := Lib.hid (show ∀ W, Below w2.heap.size w2 W → ∃ W', (Instr.mapUpdate 132 (.map (some mb)) (.int .u64 (x.vn : Int)) (.agg cx)).run Tryz.prog W = .ok () W' ∧ GMap uV W' mb (vals (evVP l) (put P (x.vn : Int) j)) ∧ Below w.heap.size w W' from by
          intro W hW
          obtain ⟨W', h1, h2, h3, h4⟩ := (hgm.below hW hgm.lt).update (P := Tryz.prog) Tryz.underlying132 uLaw (x.vn : Int) (.agg cx)
          refine ⟨W', h1, ?_, (bt hb2 hW).grown h3 (bt hb2 hW).size (fun k e => by injection e with e; rw [← e, HH.out.2.2.2.2]; exact Nat.le_refl _)⟩
          rw [show (.agg cx : Value) = evVP l j from by rw [HG.out.2.2.2.1]; unfold evVP; rw [evAt_of HG.out.2.2.2.2.2], put_vals (evVP l)] at h2
          exact h2)
        obtain ⟨Y, hY⟩ : ∃ Y, Y = w2.heap.size := ⟨_, rfl⟩
        have hz := heap_alloc_new w2 (.cells zEv 36)
        have hbz := ba (br w2) (.cells zEv 36)
        rw [← hY] at hz
        obtain ⟨w3, hw3⟩ : ∃ w3, w3 = (w2.alloc (.cells zEv 36)).setRow Y cy := ⟨_, rfl⟩
        have hb3 : Below w2.heap.size w2 w3 := by rw [hw3]; exact (kept_setRow' (w2.alloc (.cells zEv 36)) Y cy).out hbz hbz.size (fun k hk' e => by omega)
        have hy3 : w3.heap[Y]? = some (.cells cy 36 (0, 0)) := by rw [hw3]; exact setRow_heap _ _ _ _ _ _ hz
        have hx3 : w3.heap[X]? = some (.cells cx 36 (0, 0)) := (hb3.block X (Array.getElem?_eq_some_iff.1 HX.out.1).1).trans HX.out.1
        have hcy1 : cy.toList.toArray = cy := by simp
        have HZ := Lib.hid (And.intro hz hY)
        have HQ := Lib.hid (And.intro yy1 yp1)
        have H3 := Lib.hid (And.intro hb3 (And.intro hx3 hy3))
        have HS := Lib.hid (And.intro hvs (And.intro hth (And.intro hvr (And.intro hb2 hok))))
        clear hvs hth hvr hb2 hok hgm hz hbz hb3 hx3 hy3 hY yy1 yp1 H2 k7 hP
        unfold zEv at hw3 HZ
        go_upto_region 8 with (first
          | (refine wpList_store_row rfl 36 (.tmp 8) (.tmp 26) rfl Y cy (by rw [HZ.out.2]; rfl) (by rw [← hcy1]; rfl) 36 _ HZ.out.1 (by rw [HQ.out.1]; kernel_rfl) (by rw [HQ.out.1]; rfl) HQ.out.2 ?_)
          | fail)
        rw [← hw3, ← HZ.out.2]
        clear hw3 hlk e0 e13 hcy1 HZ
        have HF := Lib.hid (show ∀ W, Below w2.heap.size w2 W → ∀ q : Bool, q = (match get P (x.vn : Int) with
            | none => true
            | some i => decide (viewK (evAt l i) = viewK x) && decide (nm i = nm j)) → ∃ W', (Instr.mapUpdate 132 (.map (some mb)) (.int .u64 (x.vn : Int)) (.agg cx)).run Tryz.prog W = .ok () W' ∧ VAt w l nm mb (j + 1) (ok && q) W' from by
          intro W hW q hq
          obtain ⟨W', h1, h2, h3⟩ := HU.out W hW
          have h4 := HS.out.1 ok rfl q hq
          exact ⟨W', h1, h3, by rw [h4]; exact h2, by rw [h4]⟩)
        have hx3 := H3.out.2.1
        have hy3 := H3.out.2.2
        have hx3' : w3.heap[X]? = some (.cells (evA x) 36 (0, 0)) := by rw [← HG.out.2.2.2.1]; exact hx3
        have x13 : w3.cell? ⟨X, 13, none⟩ = some (.int .u64 x.vn) := cell_of_row _ _ 13 _ _ _ hx3'
        clear hx3'
        rcases HS.out.2.1 with ⟨rfl, hg⟩ | ⟨rfl, i, hg, hcy⟩
        · rw [hg] at HF
          clear hy3 HU HS
          cases ok
          · clear hx3
            obtain ⟨W', hrun, hE⟩ := HF.out w3 H3.out.1 true rfl
            have HE := Lib.hid hE
            clear hE
            go_wp2_with (first
            | (with_reducible refine wpList_load_row rfl 36 (.tmp 7) rfl X rfl 36 cx (0, 0) _ H3.out.2.1 Tryz.underlying36 rfl (by rw [HG.out.2.1]; kernel_rfl) ?_)
            | fail)
            exact ⟨⟨j + 1, false, HG.out.2.2.2.2.1, rfl, by go_num, HE⟩, by have := HG.out.2.2.2.2.1; simp [intOf]; omega⟩
          · clear hx3
            obtain ⟨W', hrun, hE⟩ := HF.out w3 H3.out.1 true rfl
            have HE := Lib.hid hE
            clear hE
            go_wp2_with (first
            | (with_reducible refine wpList_load_row rfl 36 (.tmp 7) rfl X rfl 36 cx (0, 0) _ H3.out.2.1 Tryz.underlying36 rfl (by rw [HG.out.2.1]; kernel_rfl) ?_)
            | fail)
            exact ⟨⟨j + 1, true, HG.out.2.2.2.2.1, rfl, by go_num, HE⟩, by have := HG.out.2.2.2.2.1; simp [intOf]; omega⟩
        · rw [hg] at HF
          cases ok
          · clear hx3 hy3 HU HS
            obtain ⟨W', hrun, hE⟩ := HF.out w3 H3.out.1 _ rfl
            have HE := Lib.hid hE
            clear hE
            go_wp2_with (first
            | (with_reducible refine wpList_load_row rfl 36 (.tmp 7) rfl X rfl 36 cx (0, 0) _ H3.out.2.1 Tryz.underlying36 rfl (by rw [HG.out.2.1]; kernel_rfl) ?_)
            | fail)
            exact ⟨⟨j + 1, false, HG.out.2.2.2.2.1, rfl, by go_num, HE⟩, by have := HG.out.2.2.2.2.1; simp [intOf]; omega⟩
          · obtain ⟨y, hy⟩ : ∃ y, y = evAt l i := ⟨_, rfl⟩
            dsimp only at HF
            rw [← hy] at hcy HF
            rw [hcy] at hy3
            have hxc := hx3
            rw [HG.out.2.2.2.1] at hxc
            have hil : i < l.length := by
              have h6 : ((x.vn : Int), i) ∈ P := by
                obtain ⟨z, hz1, hz2⟩ : ∃ z, P.find? (fun q => decide (q.1 = (x.vn : Int))) = some z ∧ z.2 = i := by
                  have := hg
                  unfold GM.get at this
                  cases hf : P.find? (fun q => decide (q.1 = (x.vn : Int))) with
                  | none => rw [hf] at this; cases this
                  | some z => rw [hf] at this; exact ⟨z, rfl, by simpa using this⟩
                have h7 := List.find?_some hz1
                have h8 := List.mem_of_find?_eq_some hz1
                have h9 : z.1 = (x.vn : Int) := by simpa using h7
                rw [← h9, ← hz2]
                exact h8
              have h5 := (HS.out.2.2.1.2.2 _ h6).1
              have h8 := HG.out.2.2.2.2.1
              have h9 := HH.out.2.2.2.1
              simp only at h5
              omega
            have hjl : j < l.length := by rw [← HH.out.2.2.2.1]; exact HG.out.2.2.2.2.1
            have hyl : l[i]? = some y := by rw [hy]; unfold evAt; rw [List.getElem?_eq_getElem hil]; rfl
            have hTr := HH.out.1.below (bt HS.out.2.2.2.1 H3.out.1)
            obtain ⟨n1, n2⟩ := hTr.nms i hil
            obtain ⟨m1, m2⟩ := hTr.nms j hjl
            rw [show l[i] = y from by rw [List.getElem?_eq_getElem hil] at hyl; injection hyl] at n1 n2
            rw [show l[j] = x from by have h := HG.out.2.2.2.2.2; rw [List.getElem?_eq_getElem hjl] at h; injection h] at m1 m2
            have hyk := (HH.out.1.ok hyl)
            have hxk := (HH.out.1.ok HG.out.2.2.2.2.2)
            have x14 : w3.cell? ⟨X, 14, none⟩ = some (.int .u64 x.vce) := cell_of_row _ _ 14 _ _ _ hxc
            have x15 : w3.cell? ⟨X, 15, none⟩ = some (.int .i64 x.vcr) := cell_of_row _ _ 15 _ _ _ hxc
            have x16 : w3.cell? ⟨X, 16, none⟩ = some (.int .u64 x.vm) := cell_of_row _ _ 16 _ _ _ hxc
            have x17 : w3.cell? ⟨X, 17, none⟩ = some (.slice x.na (nm j).length x.nc) := by rw [m1]; exact cell_of_row _ _ 17 _ _ _ hxc
            have y13 : w3.cell? ⟨Y, 13, none⟩ = some (.int .u64 y.vn) := cell_of_row _ _ 13 _ _ _ hy3
            have y14 : w3.cell? ⟨Y, 14, none⟩ = some (.int .u64 y.vce) := cell_of_row _ _ 14 _ _ _ hy3
            have y15 : w3.cell? ⟨Y, 15, none⟩ = some (.int .i64 y.vcr) := cell_of_row _ _ 15 _ _ _ hy3
            have y16 : w3.cell? ⟨Y, 16, none⟩ = some (.int .u64 y.vm) := cell_of_row _ _ 16 _ _ _ hy3
            have y17 : w3.cell? ⟨Y, 17, none⟩ = some (.slice y.na (nm i).length y.nc) := by rw [n1]; exact cell_of_row _ _ 17 _ _ _ hy3
            have HEQ := Lib.hid (eqName_any y.na x.na y.nc x.nc (nm i) (nm j) w3 (by rw [n1]; exact n2) (by rw [m1]; exact m2) (by rw [n1]; have := hyk.nl; omega) (by rw [m1]; have := hxk.nl; omega))
            have hve := fun W : World => viewEql W (y.vn : Int) (y.vce : Int) y.vcr (y.vm : Int) (x.vn : Int) (x.vce : Int) x.vcr (x.vm : Int)
            obtain ⟨bb, hbb⟩ : ∃ bb, bb = ((((y.vn : Int) == (x.vn : Int) && (y.vce : Int) == (x.vce : Int)) && y.vcr == x.vcr) && (y.vm : Int) == (x.vm : Int)) := ⟨_, rfl⟩
            have hbd : decide (viewK y = viewK x) = bb := by
              rw [hbb, Bool.eq_iff_iff]
              simp [viewK, Prod.ext_iff, and_assoc]
              omega
            rw [← hbb] at hve
            rw [hbd] at HF
            clear hbb hbd hxc hx3 hy3 hil hjl hyl hTr n1 n2 m1 m2 hyk hxk hcy hy HU HS hg
            cases bb
            · clear HEQ
              obtain ⟨W', hrun, hE⟩ := HF.out w3 H3.out.1 _ rfl
              have HE := Lib.hid hE
              clear hE
              go_wp2_with (first
            | (with_reducible refine wpList_load_row rfl 36 (.tmp 7) rfl X rfl 36 cx (0, 0) _ H3.out.2.1 Tryz.underlying36 rfl (by rw [HG.out.2.1]; kernel_rfl) ?_)
            | fail)
              exact ⟨⟨j + 1, false, HG.out.2.2.2.2.1, rfl, by go_num, HE⟩, by have := HG.out.2.2.2.2.1; simp [intOf]; omega⟩
            · go_wp2_with fail
              refine HEQ.out.mono ?_
              rintro e w5 ⟨rfl, hB5⟩
              have x13' : w5.cell? ⟨X, 13, none⟩ = some (.int .u64 x.vn) := (hB5.cell (p := ⟨X, 13, none⟩) (Array.getElem?_eq_some_iff.1 H3.out.2.1).1).trans x13
              have H5 := Lib.hid ((hB5.block X (Array.getElem?_eq_some_iff.1 H3.out.2.1).1).trans H3.out.2.1)
              have HB5 := Lib.hid (bt H3.out.1 hB5)
              clear hB5 x13 x14 x15 x16 x17 y13 y14 y15 y16 y17 HEQ hve
              obtain ⟨qq, hqq⟩ : ∃ qq, qq = decide (nm i = nm j) := ⟨_, rfl⟩
              rw [← hqq] at HF ⊢
              obtain ⟨W', hrun, hE⟩ := HF.out w5 HB5.out qq (Bool.true_and qq).symm
              have HE := Lib.hid hE
              clear hE
              go_wp2_with (first
            | (with_reducible refine wpList_load_row rfl 36 (.tmp 7) rfl X rfl 36 cx (0, 0) _ H5.out Tryz.underlying36 rfl (by rw [HG.out.2.1]; kernel_rfl) ?_)
            | fail)
              exact ⟨⟨j + 1, qq, HG.out.2.2.2.2.1, by first | rfl | rw [hqq], by go_num, HE⟩, by have := HG.out.2.2.2.2.1; simp [intOf]; omega⟩
      · have dk : (x.kind != 7) = true := by simpa using k7
        have HE := Lib.hid (show VAt w l nm mb (j + 1) ok w2 from ⟨H2.out.1, by
          show GMap uV w2 mb (vals (evVP l) (vstep l nm (vrun l nm j) j).1)
          unfold vstep
          rw [evAt_of HG.out.2.2.2.2.2, if_neg k7]
          exact H2.out.2.1, by
          show ok = (vstep l nm (vrun l nm j) j).2
          unfold vstep
          rw [evAt_of HG.out.2.2.2.2.2, if_neg k7]
          exact H2.out.2.2⟩)
        clear H2 HX k7
        go_wp2_with fail
        exact ⟨⟨j + 1, ok, HG.out.2.2.2.2.1, rfl, by go_num, HE⟩, by have := HG.out.2.2.2.2.1; simp [intOf]; omega⟩
    · have hd1 : decide ((j : Int) < (n : Int)) = false := by rw [decide_eq_false_iff_not]; omega
      have hd2 : decide (j < n) = false := by rw [decide_eq_false_iff_not]; omega
      have hjn : j = l.length := by rw [← HH.out.2.2.2.1]; omega
      obtain ⟨h1, h2, h3⟩ := HW.out
      rw [hjn] at h2 h3
      have hvr := vrun_ok l nm l.length
      have HV := Lib.hid (fun W => values_any (some mb) W)
      have HE := Lib.hid (show Calls Tryz.prog 60 #[.func (.func 82) #[] #[.pointer (some ⟨wr.heap.size, 0, none⟩)], .func (.func 62) #[] #[]] (wr.alloc (.cells #[.map (some mb)] 132)) fun e w' => ∃ v, (e = .returned v ∧ w'.ownsRow w.heap.size 36 19 v (vplaces l nm).length (rowsE ((vplaces l nm).map (evAt l)))) ∧ Below w.heap.size w w' from
        (sorted_any wr.heap.size mb (evsVP l (vrun l nm l.length).1) (by unfold evsVP; rw [List.length_map]; exact Nat.le_trans hvr.2.1 HH.out.2.2.1) (fun q hq => by
          obtain ⟨r, hr, rfl⟩ := List.mem_map.1 hq
          exact (hvr.2.2 r hr).2.1) (wr.alloc (.cells #[.map (some mb)] 132)) (by simp) (cell_of_row _ _ 0 _ _ _ (heap_alloc_new wr _)) (by rw [← vals_evsVP]; exact h2.below (ba (br wr) _) h2.lt)).mono fun e w' ⟨v, e1, e2, e3⟩ =>
            ⟨v, ⟨e1, by
              rw [sorted_places] at e2
              have hlen : (evsVP l (vrun l nm l.length).1).length = (vplaces l nm).length := by unfold evsVP; rw [List.length_map, vplaces_len]
              rw [hlen] at e2
              exact e2.mono (by simp; exact Nat.le_succ_of_le h1.size)⟩, bt h1 (bt (ba (br wr) _) e3)⟩)
      have HK := Lib.hid h3
      clear HW H0 hlt h1 h2 h3 hvr hjn
      go_wp2_with fail
      refine (HV.out _).mono ?_
      rintro e w3 ⟨rfl, rfl⟩
      go_wp2_with fail
      refine HE.out.mono ?_
      rintro e w4 ⟨v, ⟨rfl, hV⟩, hB⟩
      have HB := Lib.hid (And.intro hV hB)
      clear hV hB HE HV
      go_wp2_with fail
      go_ret2
      exact ⟨_, ⟨by rw [HK.out]; rfl, HB.out.1⟩, HB.out.2⟩
end Go.Proofs.YtogagkgkmoppmaaGreatDoor
