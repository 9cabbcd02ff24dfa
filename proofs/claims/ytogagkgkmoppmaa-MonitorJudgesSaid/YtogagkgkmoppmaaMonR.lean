/-
  EvRegular: regular.
  Conditions: those that each theorem names.
-/
import Derived.Test.YtogagkgkmoppmaaMonQ
import Derived.Test.YtogagkgkmoppmaaMonT
import Derived.Deep.CutBlock
namespace Go.Proofs.Ytogagkgkmoppmaa
set_option linter.unusedVariables false
set_option linter.unusedSimpArgs false
open Go.RowKit GM
def newS (S C : Nat) (x : Ev) : SX := ⟨S, ⟨x.proc, x.ce, x.cr, x.mem, [], none, 0, [], none, 0, C, none, false⟩, [], x⟩
theorem new_stay {w : World} {b0 : Nat} {l : List Pc} (h : Own w b0 l) (hb0 : b0 ≤ w.heap.size) (x : Ev) :
    Own ((w.alloc (.map #[] 0)).alloc (.cells (stC (newS (w.heap.size + 1) w.heap.size x).s) 66)) b0 (stP (newS (w.heap.size + 1) w.heap.size x) ++ l) := by
  have h1 : Own (w.alloc (.map #[] 0)) b0 (mapPc intV w.heap.size (vals intV []) :: l) := own_new _ h hb0 (ba (br w) _) (GMap.made intV w) (fun b e => by injection e with e; omega)
  have hs : (w.alloc (.map #[] 0)).heap.size = w.heap.size + 1 := by simp
  have h2 := own_new (w' := (w.alloc (.map #[] 0)).alloc (.cells (stC (newS (w.heap.size + 1) w.heap.size x).s) 66)) (stayPc (w.heap.size + 1) (newS (w.heap.size + 1) w.heap.size x).s x) h1 (by rw [hs]; omega) (ba (br _) _)
    ⟨by show _ = _; rw [← hs]; exact heap_alloc_new _ _, fun b' e => by cases e⟩ (fun b e => by injection e with e; rw [hs]; omega)
  have hnil : ∀ W : World, RowOk W ⟨[], none, 0⟩ := fun W => ⟨⟨rfl, .inl ⟨rfl, rfl⟩⟩, fun m hm => by cases hm⟩
  have h3 := own_new (w' := (w.alloc (.map #[] 0)).alloc (.cells (stC (newS (w.heap.size + 1) w.heap.size x).s) 66)) (rowPc ⟨[], none, 0⟩) h2 (by simp; omega) (br _) (hnil _) (fun b e => by cases e)
  have h4 := own_new (w' := (w.alloc (.map #[] 0)).alloc (.cells (stC (newS (w.heap.size + 1) w.heap.size x).s) 66)) (rowPc ⟨[], none, 0⟩) h3 (by simp; omega) (br _) (hnil _) (fun b e => by cases e)
  refine h4.perm ?_
  show (rowPc ⟨[], none, 0⟩ :: rowPc ⟨[], none, 0⟩ :: _ :: _ :: l).Perm (_ :: _ :: rowPc ⟨[], none, 0⟩ :: rowPc ⟨[], none, 0⟩ :: l)
  exact List.Perm.append_right l (l₁ := [rowPc ⟨[], none, 0⟩, rowPc ⟨[], none, 0⟩, _, _]) (l₂ := [_, _, rowPc ⟨[], none, 0⟩, rowPc ⟨[], none, 0⟩]) (List.perm_append_comm (l₁ := [_, _]) (l₂ := [_, _]))
/-- of a configuration's members that were told twice, and of a process's stay that comes twice -/
def toldB (l : List (ConfK × Nat)) (x : Ev) : Bool := match get l (conf x) with
  | some n => !(n == x.mem)
  | none => false
def dupB (x : Ev) (o : PS) : Bool := decide (o.conf = conf x) && decide (o.proc = x.proc)
def dupZ (x : Ev) (l : List PS) (z : Int) : Int := l.foldl (fun z o => brk 1 z (dupB x o)) z
/-- what the way there breaks -/
def wayB (x : Ev) (o : PS) : Bool := match o.tr with
  | none => true
  | some t => (!decide (t.1 = conf x) || !inB t.2 x.mem) || !hasB t.2 x.proc
def wayZ (x : Ev) (o : PS) (z : Int) : Int := brk 1 (brk 1 z (decide (keyZ (x.ce : Int) x.cr o.conf.1 o.conf.2 ≤ 0))) (wayB x o)
def MM.tell (M : MM) (x : Ev) : MM := { M with mems := put M.mems (conf x) x.mem }
def goneM (M : MM) (k : Nat) (z : Int) : MM := if hk : k < M.stays.length then (M.setS k (went M.stays[k])).bz (closeTo (proj (M.setS k (went M.stays[k]))).stays (projS (went M.stays[k])) k M.stays.length (z)) else M.bz z
def regMid (M : MM) (x : Ev) (z : Int) : MM := match get M.now x.proc with
  | none => M.bz z
  | some k => match (proj M).stays[k]? with
    | none => M.bz z
    | some o => goneM M k (wayZ x o z)
theorem regMid_keep (M : MM) (x : Ev) (z : Int) : (regMid M x z).now = M.now ∧ (regMid M x z).stays.length = M.stays.length ∧ (regMid M x z).c.n = M.c.n := by
  unfold regMid goneM
  split
  · exact ⟨rfl, rfl, rfl⟩
  · split
    · exact ⟨rfl, rfl, rfl⟩
    · split
      · exact ⟨rfl, by simp [MM.bz, MM.setS], rfl⟩
      · exact ⟨rfl, rfl, rfl⟩
theorem vals_now (l : List SX) (s : SX) (L : List (Int × Nat)) (h : ∀ p ∈ L, p.2 < l.length) : vals (nthV l) L = vals (nthV (l ++ [s])) L := by
  unfold vals
  refine List.map_congr_left fun p hp => ?_
  have := h p hp
  unfold nthV
  congr 2
  rw [List.map_append, List.getD_eq_getElem?_getD, List.getD_eq_getElem?_getD, List.getElem?_append_left (by simpa using this)]
def finM (M : MM) (s : SX) (p : Int) (sa : Option Addr) (sc : Nat) : MM := { M with now := put M.now p M.stays.length, stays := M.stays ++ [s], c := { M.c with sa := sa, n := M.c.n + 1, sc := sc } }
theorem put_mem {β : Type} {L : List (Int × β)} {i : Int} {v : β} {p : Int × β} (h : p ∈ put L i v) : p ∈ L ∨ p = (i, v) := by
  unfold put at h
  split at h
  · obtain ⟨y, hy, e⟩ := List.mem_map.1 h
    split at e
    · exact .inr e.symm
    · exact .inl (e ▸ hy)
  · rcases List.mem_append.1 h with h | h
    · exact .inl h
    · exact .inr (List.mem_singleton.1 h)
theorem finM_ok {M : MM} (h : MOk M) (s : SX) (p : Int) (sa : Option Addr) (sc : Nat) : MOk (finM M s p sa sc) := by
  refine ⟨by simp [finM, h.n], fun q hq => ?_⟩
  rcases put_mem hq with hq | rfl
  · have := h.now q hq
    simp [finM]
    omega
  · simp [finM]
theorem own_fin {w : World} {B b0 : Nat} {M : MM} {s : SX} {p : Int} {sa : Option Addr} {sc : Nat} {E : List Pc}
    (h : Own w b0 ((((parts B M ++ (stP s ++ E)).set 5 (nowPc (finM M s p sa sc))).set 6 (rowP (finM M s p sa sc))).set 0 (monPc B (finM M s p sa sc).c))) : Own w b0 (parts B (finM M s p sa sc) ++ E) := by
  refine h.perm ?_
  show ([monPc B (finM M s p sa sc).c, sendsPc M, seenPc M, memsPc M, livePc M, nowPc (finM M s p sa sc), rowP (finM M s p sa sc)] ++ ((M.stays.flatMap stP ++ M.sends.map fun p => rowPc p.2) ++ (stP s ++ E))).Perm
    ([monPc B (finM M s p sa sc).c, sendsPc M, seenPc M, memsPc M, livePc M, nowPc (finM M s p sa sc), rowP (finM M s p sa sc)] ++ (((M.stays ++ [s]).flatMap stP ++ M.sends.map fun p => rowPc p.2) ++ E))
  refine List.Perm.append_left _ ?_
  rw [List.flatMap_append, List.flatMap_cons, List.flatMap_nil, List.append_nil, List.append_assoc, List.append_assoc, List.append_assoc]
  refine List.Perm.append_left _ ?_
  exact List.perm_append_comm_assoc _ _ _
def regM (M : MM) (x : Ev) : MM := regMid (M.tell x) x (dupZ x (proj M).stays (brk 1 (brk 1 M.c.broken (!(get M.live x.proc).getD false || !hasB x.mem x.proc)) (toldB M.mems x)))
/-- what EvRegular leaves -/
def RegEnd (w : World) (B b0 : Nat) (M : MM) (R : List Pc) (x : Ev) (w' : World) : Prop := ∃ S C sa sc, Now w B b0 (finM (regM M x) (newS S C x) x.proc sa sc) R w'
set_option maxRecDepth 100000 in
set_option maxHeartbeats 16000000 in
theorem regular_any (w : World) (B b0 : Nat) (M : MM) (R : List Pc) (hO : Own w b0 (parts B M ++ R)) (hM : MOk M) (hb0 : b0 ≤ w.heap.size) (hl : ∀ x ∈ M.stays, x.s.p0.length ≤ 10000 ∧ x.s.p1.length ≤ 10000) (hn9 : M.stays.length ≤ 10000) (x : Ev) :
    Calls Try.prog 16 #[.pointer (some ⟨B, 0, none⟩), .agg (evA x)] w fun e w' => e = .returned (.tuple #[]) ∧ RegEnd w B b0 M R x w' := by
  obtain ⟨w1, hw1⟩ : ∃ w1, w1 = w.alloc (.cells (evA x) 39) := ⟨_, rfl⟩
  have hb1 : Below w.heap.size w w1 := by rw [hw1]; exact ba (br w) _
  have hx1 : w1.heap[w.heap.size]? = some (.cells (evA x) 39 (0, 0)) := by rw [hw1]; exact heap_alloc_new w _
  obtain ⟨X, hX⟩ : ∃ X, X = w.heap.size := ⟨_, rfl⟩
  rw [← hX] at hx1
  have N1 : Now w B b0 (M.bz M.c.broken) (evPc X x :: R) w1 := ⟨(own_new (evPc X x) hO hb0 hb1 hx1 (fun _ h => by cases h)).mid1, .of_below hb1, Nat.le_trans hb0 hb1.size⟩
  have H1 := Lib.hid N1
  have e1 : w1.cell? ⟨X, 1, none⟩ = some (.int .i64 x.proc) := cell_of_row _ _ 1 _ _ _ hx1
  have e2 : w1.cell? ⟨X, 2, none⟩ = some (.int .u64 (x.ce : Int)) := cell_of_row _ _ 2 _ _ _ hx1
  have e3 : w1.cell? ⟨X, 3, none⟩ = some (.int .i64 x.cr) := cell_of_row _ _ 3 _ _ _ hx1
  have e6 : w1.cell? ⟨X, 6, none⟩ = some (.int .u64 (x.mem : Int)) := cell_of_row _ _ 6 _ _ _ hx1
  obtain ⟨cx, hcx⟩ : ∃ cx, cx = evA x := ⟨_, rfl⟩
  have z1 : cx.all (·.oneCell') = true := by rw [hcx]; simp [evA, Value.oneCell']
  have z2 : cx.size = 19 := by rw [hcx]; rfl
  rw [← hcx] at hw1 ⊢
  clear hcx N1 hO hb0 hb1 hx1
  go_enter Try.func16, Try.ntmps16
  go_upto_region 1 with (fail)
  rw [← hw1, ← hX]
  clear hw1 hX z1 z2
  have hmm := @run_makeMap Try.prog
  obtain ⟨C, hC⟩ : ∃ C, C = w1.heap.size := ⟨_, rfl⟩
  obtain ⟨S, hS⟩ : ∃ S, S = w1.heap.size + 1 := ⟨_, rfl⟩
  obtain ⟨w3, hw3⟩ : ∃ w3, w3 = (w1.alloc (.map #[] 0)).alloc (.cells (stC (newS (w1.heap.size + 1) w1.heap.size x).s) 66) := ⟨_, rfl⟩
  have N3 : Now w B b0 (M.bz M.c.broken) (stP (newS (w1.heap.size + 1) w1.heap.size x) ++ (evPc X x :: R)) w3 := by
    have hb : Below w1.heap.size w1 w3 := by rw [hw3]; exact ba (ba (br _) _) _
    refine ⟨?_, H1.out.kept.trans (Kept.of_below hb), Nat.le_trans H1.out.low hb.size⟩
    rw [hw3]
    exact (new_stay H1.out.own H1.out.low x).mid
  rw [← hS, ← hC] at N3
  have H3 := Lib.hid N3
  simp only [newS, stC, Option.map_none, List.length_nil, Int.ofNat_zero, Int.natCast_zero] at hw3
  clear N3 H1
  go_wp2_with fail
  rw [← hw3, ← hS, ← hC]
  clear hw3 hmm e1 e2 e3 e6 hS hC
  go_cut [] (fun wx => Now w B b0 (M.bz (brk 1 M.c.broken (!(get M.live x.proc).getD false || !hasB x.mem x.proc))) (stP (newS S C x) ++ (evPc X x :: R)) wx)
  case first =>
    as_aux_lemma =>
      have hev : EvAt w3 X x := own_r H3.out.own (p := evPc X x) (by simp)
      have hst : StAt w3 S (newS S C x).s := (own_r H3.out.own (p := stayPc S (newS S C x).s x) (by simp [stP, newS])).1
      have c4 := mcell H3.out.own 4 (v := .map (some M.c.lb)) rfl
      have x1 := ecell hev 1 (v := .int .i64 x.proc) rfl
      have s3 := scell hst 3 (v := .int .u64 (x.mem : Int)) rfl
      have hlv : ∀ y : Bel w3, (Instr.lookup 51 (.map (some M.c.lb)) (.int .i64 x.proc) false).run Try.prog y.val = .ok (.bool ((get M.live x.proc).getD false)) y.val := fun y => live_look (M := M.bz M.c.broken) (H3.out.own.below y.prop) _
      have HBR := Lib.hid (H3.out.breaks 1)
      clear hev hst H3
      generalize (get M.live x.proc).getD false = L at *
      cases L
      · refine wp_region_bel_tail 19 (by kernel_rfl) (by kernel_rfl) ?_
        simp only [List.take_succ_cons, List.take_zero, List.drop_succ_cons, List.drop_zero]
        repeat (go_big_quiet_step ((go_at_call 30; exact bel_same (setHas_any _ _ _))))
        refine wpQuiet_nil ?_
        intro w4 hw4
        have HC := Lib.hid (HBR.out w4 (bel_out hw4) true)
        clear hw4 c4 x1 s3 hlv HBR
        go_wp2_with fail
        refine HC.out.mono ?_
        rintro e w5 ⟨rfl, hE⟩
        have HE := Lib.hid hE
        clear hE HC
        go_wp2_with fail
        go_meet
        exact HE.out
      · refine wp_region_bel_tail 19 (by kernel_rfl) (by kernel_rfl) ?_
        simp only [List.take_succ_cons, List.take_zero, List.drop_succ_cons, List.drop_zero]
        repeat (go_big_quiet_step ((go_at_call 30; exact bel_same (setHas_any _ _ _))))
        refine wpQuiet_nil ?_
        intro w4 hw4
        have HC := Lib.hid (HBR.out w4 (bel_out hw4) (!hasB x.mem x.proc))
        clear hw4 c4 x1 s3 hlv HBR
        go_wp2_with fail
        refine HC.out.mono ?_
        rintro e w5 ⟨rfl, hE⟩
        have HE := Lib.hid hE
        clear hE HC
        go_wp2_with fail
        go_meet
        exact HE.out
  case rest =>
  have H4 := Lib.hid hcut
  clear hcut H3
  have HREG := Lib.hid (show regM M x = regMid (M.tell x) x (dupZ x (proj M).stays (brk 1 (brk 1 M.c.broken (!(get M.live x.proc).getD false || !hasB x.mem x.proc)) (toldB M.mems x))) from rfl)
  generalize brk 1 M.c.broken (!(get M.live x.proc).getD false || !hasB x.mem x.proc) = za at *
  go_upto_region 3 with (fail)
  go_cut [5, 6] (fun s5 s6 wx => s5 = ((get M.mems (conf x)).map (fun n : Nat => Value.int .u64 (n : Int))).getD (.int .u64 0) ∧ s6 = .bool (has M.mems (conf x)) ∧ Now w B b0 (M.bz za) (stP (newS S C x) ++ (evPc X x :: R)) wx)
  case first =>
    as_aux_lemma =>
      have hev : EvAt wc X x := own_r H4.out.own (p := evPc X x) (by simp)
      have c2 := mcell H4.out.own 2 (v := .map (some M.c.eb)) rfl
      have x2 := ecell hev 2 (v := .int .u64 (x.ce : Int)) rfl
      have x3 := ecell hev 3 (v := .int .i64 x.cr) rfl
      have hlv : ∀ y : Bel wc, (Instr.lookup 47 (.map (some M.c.eb)) (.agg #[.int .u64 (x.ce : Int), .int .i64 x.cr]) true).run Try.prog y.val = .ok (.tuple #[((get M.mems (conf x)).map (fun n : Nat => Value.int .u64 (n : Int))).getD (.int .u64 0), .bool (has M.mems (conf x))]) y.val := fun y => mems_look (M := M.bz za) (H4.out.own.below y.prop) (conf x)
      clear hev
      generalize ((get M.mems (conf x)).map (fun n : Nat => Value.int .u64 (n : Int))).getD (.int .u64 0) = V at *
      generalize has M.mems (conf x) = D at *
      refine wp_region_bel (by kernel_rfl) (by kernel_rfl) ?_
      repeat (go_big_quiet_step ((fail)))
      refine wpQuiet_nil ?_
      intro w4 hw4
      have HE := Lib.hid (H4.out.below (bel_out hw4))
      clear hw4 c2 x2 x3 hlv
      go_wp2_with fail
      go_meet
      exact ⟨rfl, rfl, HE.out⟩
  case rest =>
  obtain ⟨rfl, rfl, hcut⟩ := hcut
  have H5 := Lib.hid hcut
  clear hcut H4
  obtain ⟨w5, rfl⟩ : ∃ z, z = wc := ⟨_, rfl⟩
  go_upto_region 4 with (fail)
  go_cut [5, 6] (fun s5 s6 wx => Now w B b0 (M.bz (brk 1 za (toldB M.mems x))) (stP (newS S C x) ++ (evPc X x :: R)) wx)
  case first =>
    as_aux_lemma =>
      have hst : StAt w5 S (newS S C x).s := (own_r H5.out.own (p := stayPc S (newS S C x).s x) (by simp [stP, newS])).1
      have s3 := at0 (scell hst 3 (v := .int .u64 (x.mem : Int)) rfl)
      have HBR := Lib.hid (H5.out.breaks 1 w5 (br _))
      have HTB := Lib.hid (show toldB M.mems x = match get M.mems (conf x) with
        | some n => !(n == x.mem)
        | none => false from rfl)
      clear hst H5
      rw [has_get]
      generalize get M.mems (conf x) = G at *
      cases G with
      | none =>
        simp only [Option.map_none, Option.getD_none, Option.isSome_none] at HTB ⊢
        go_wp2_with fail
        refine (HBR.out false).mono ?_
        rintro e w6 ⟨rfl, hE⟩
        rw [← HTB.out] at hE
        have HE := Lib.hid hE
        clear hE HBR s3
        go_wp2_with fail
        go_meet
        exact HE.out
      | some n =>
        simp only [Option.map_some, Option.getD_some, Option.isSome_some] at HTB ⊢
        have HNN := Lib.hid (show ((n : Int) != (x.mem : Int)) = !(n == x.mem) from by
          rw [Bool.eq_iff_iff]
          simp [bne_iff_ne, Int.natCast_inj])
        have HN2 := Lib.hid (HNN.out.trans HTB.out.symm)
        clear HNN HTB
        generalize toldB M.mems x = TB at *
        generalize (n : Int) = n' at *
        go_wp2_with fail
        refine (HBR.out _).mono ?_
        rintro e w6 ⟨rfl, hE⟩
        rw [HN2.out] at hE
        have HE := Lib.hid hE
        clear hE HBR s3
        go_wp2_with fail
        go_meet
        exact HE.out
  case rest =>
  have H6 := Lib.hid hcut
  clear hcut H5
  generalize brk 1 za (toldB M.mems x) = zb at *
  obtain ⟨w6, rfl⟩ : ∃ z, z = wc := ⟨_, rfl⟩
  go_upto_region 5 with (fail)
  go_cut [] (fun wx => Now w B b0 ((M.tell x).bz zb) (stP (newS S C x) ++ (evPc X x :: R)) wx)
  case first =>
    as_aux_lemma =>
      have hev : EvAt w6 X x := own_r H6.out.own (p := evPc X x) (by simp)
      have hst : StAt w6 S (newS S C x).s := (own_r H6.out.own (p := stayPc S (newS S C x).s x) (by simp [stP, newS])).1
      have c2 := mcell H6.out.own 2 (v := .map (some M.c.eb)) rfl
      have x2 := ecell hev 2 (v := .int .u64 (x.ce : Int)) rfl
      have x3 := ecell hev 3 (v := .int .i64 x.cr) rfl
      have s3 := scell hst 3 (v := .int .u64 (x.mem : Int)) rfl
      clear hev hst
      refine wp_region_bel_tail 11 (by kernel_rfl) (by kernel_rfl) ?_
      simp only [List.take_succ_cons, List.take_zero, List.drop_succ_cons, List.drop_zero]
      repeat (go_big_quiet_step ((fail)))
      refine wpQuiet_nil ?_
      intro w7 hw7
      have N7 := H6.out.below (bel_out hw7)
      obtain ⟨w8, hrun, hg, hgr, hsz⟩ := (own_mems N7.own).update (P := Try.prog) Try.underlying47 confLaw (conf x) (.int .u64 (x.mem : Int))
      rw [put_vals (fun n : Nat => Value.int .u64 (n : Int))] at hg
      have N8 := own_at 3 (memsPc (M.tell x)) N7.own N7.low (p := memsPc M) rfl ((Kept.of_grown hgr).more (fun k _ e => by rw [e]; rfl)) hg (fun b e => .inl e)
      have HE := Lib.hid (N7.next (M' := (M.tell x).bz zb) N8.1 N8.2)
      have hrun : (Instr.mapUpdate 47 (.map (some M.c.eb)) (.agg #[.int .u64 (x.ce : Int), .int .i64 x.cr]) (.int .u64 (x.mem : Int))).run Try.prog w7 = .ok () w8 := hrun
      clear hw7 c2 x2 x3 s3 N7 N8 hg hgr hsz H6
      go_wp2_with fail
      go_meet
      exact HE.out
  case rest =>
  have H7 := Lib.hid hcut
  clear hcut H6
  obtain ⟨w7, rfl⟩ : ∃ z, z = wc := ⟨_, rfl⟩
  obtain ⟨n, hn⟩ : ∃ n, n = M.stays.length := ⟨_, rfl⟩
  obtain ⟨sa, hsa⟩ : ∃ sa, sa = M.c.sa := ⟨_, rfl⟩
  obtain ⟨sc, hsc⟩ : ∃ sc, sc = M.c.sc := ⟨_, rfl⟩
  have c3 : w7.cell? ⟨B, 3, none⟩ = some (.slice sa n sc) := at0 (mcell H7.out.own 3 (by rw [hsa, hsc, hn, ← hM.n]; rfl))
  have hn1 : n ≤ 10000 := by omega
  have HN := Lib.hid (And.intro hn (And.intro hsa (And.intro hM (And.intro hl hn9))))
  clear hn hsa hsc hM hl hn9
  go_upto_block 0 with (fail)
  go_cut [] (fun wx => Now w B b0 ((M.tell x).bz (dupZ x (proj M).stays zb)) (stP (newS S C x) ++ (evPc X x :: R)) wx)
  case first =>
    as_aux_lemma =>
      clear c3
      go_wp2_with fail
      go_loopw [78] (fun i wr => ∃ j : Nat, j ≤ n ∧ i = .int .i64 (j : Int) ∧ Hid (Now w B b0 ((M.tell x).bz (dupZ x ((proj M).stays.take j) zb)) (stP (newS S C x) ++ (evPc X x :: R)) wr)) (fun i _ => n - (intOf i).toNat)
      case atStart => exact ⟨0, by omega, rfl, H7⟩
      case round =>
        obtain ⟨j, hj, rfl, HW⟩ := hrel
        by_cases hlt : j < n
        · have hd : decide ((j : Int) < (n : Int)) = true := by simpa using hlt
          have hi1 : (j : Int) < (n : Int) := by omega
          have hjl : j < M.stays.length := by rw [← HN.out.1]; exact hlt
          obtain ⟨g, hg0, hgl, hgc0⟩ := own_ptr (M := (M.tell x).bz (dupZ x ((proj M).stays.take j) zb)) HW.out.own ⟨HN.out.2.2.1.n, HN.out.2.2.1.now⟩ hjl
          have hg : sa = some ⟨g, 0, none⟩ := HN.out.2.1.trans hg0
          subst hg
          have hgc : wr.cell? ⟨g, j, none⟩ = some (.pointer (some ⟨M.stays[j].b, 0, none⟩)) := hgc0
          have hSo := own_stay HW.out.own (x := M.stays[j]) (List.getElem_mem hjl)
          have hst : StAt wr S (newS S C x).s := (own_r HW.out.own (p := stayPc S (newS S C x).s x) (by simp [stP, newS])).1
          have HST := Lib.hid (show dupZ x ((proj M).stays.take (j + 1)) zb = brk 1 (dupZ x ((proj M).stays.take j) zb) (dupB x (projS M.stays[j])) from by
            unfold dupZ
            rw [List.take_succ_eq_append_getElem (by simp [proj]; exact hjl), List.foldl_append]
            simp [proj])
          have HDB := Lib.hid (show dupB x (projS M.stays[j]) = (((M.stays[j].s.ce : Int) == (x.ce : Int) && M.stays[j].s.cr == x.cr) && (M.stays[j].s.proc == x.proc)) from by
            unfold dupB
            rw [Bool.eq_iff_iff]
            simp [projS, conf, Prod.mk.injEq]
            exact fun _ _ => decide_eq_true_iff)
          have HBR := Lib.hid (HW.out.breaks 1)
          have o0 := scell hSo 0 (v := .int .i64 M.stays[j].s.proc) rfl
          have o1 := scell hSo 1 (v := .int .u64 (M.stays[j].s.ce : Int)) rfl
          have o2 := scell hSo 2 (v := .int .i64 M.stays[j].s.cr) rfl
          have s0 := scell hst 0 (v := .int .i64 x.proc) rfl
          have s1 := scell hst 1 (v := .int .u64 (x.ce : Int)) rfl
          have s2 := scell hst 2 (v := .int .i64 x.cr) rfl
          clear hgc0 hgl hg0 hst
          obtain ⟨o, ho⟩ : ∃ o, o = M.stays[j] := ⟨_, rfl⟩
          rw [← ho] at hgc HST HDB o0 o1 o2
          clear hSo ho hjl
          generalize dupB x (projS o) = DD at *
          generalize o.b = So at *
          generalize o.s.proc = op at *
          generalize (o.s.ce : Int) = oe at *
          generalize o.s.cr = oc at *
          have hce := fun W => confEq W oe oc (x.ce : Int) x.cr
          generalize (oe == (x.ce : Int) && oc == x.cr) = D at *
          go_wp2_with fail
          clear hgc
          cases D
          · refine wp_region_bel_tail 21 (by kernel_rfl) (by kernel_rfl) ?_
            simp only [List.take_succ_cons, List.take_zero, List.drop_succ_cons, List.drop_zero]
            repeat (go_big_quiet_step ((fail)))
            refine wpQuiet_nil ?_
            intro w8 hw8
            have HC := Lib.hid (HBR.out w8 (bel_out hw8) false)
            clear hw8 o0 o1 o2 s0 s1 s2 hce HBR
            go_wp2_with fail
            refine HC.out.mono ?_
            rintro e w9 ⟨rfl, hE⟩
            rw [show false = DD from by rw [HDB.out]; rfl, ← HST.out] at hE
            have HE := Lib.hid hE
            clear hE HC
            go_wp2_with fail
            exact ⟨⟨j + 1, by omega, by go_num, HE⟩, by simp [intOf]; omega⟩
          · refine wp_region_bel_tail 21 (by kernel_rfl) (by kernel_rfl) ?_
            simp only [List.take_succ_cons, List.take_zero, List.drop_succ_cons, List.drop_zero]
            repeat (go_big_quiet_step ((fail)))
            refine wpQuiet_nil ?_
            intro w8 hw8
            have HC := Lib.hid (HBR.out w8 (bel_out hw8) (op == x.proc))
            clear hw8 o0 o1 o2 s0 s1 s2 hce HBR
            go_wp2_with fail
            refine HC.out.mono ?_
            rintro e w9 ⟨rfl, hE⟩
            rw [show (op == x.proc) = DD from by rw [HDB.out]; rfl, ← HST.out] at hE
            have HE := Lib.hid hE
            clear hE HC
            go_wp2_with fail
            exact ⟨⟨j + 1, by omega, by go_num, HE⟩, by simp [intOf]; omega⟩
        · have hd : decide ((j : Int) < (n : Int)) = false := by simpa using hlt
          obtain rfl : j = n := by omega
          have HE := Lib.hid (show Now w B b0 ((M.tell x).bz (dupZ x (proj M).stays zb)) (stP (newS S C x) ++ (evPc X x :: R)) wr from by
            have h := HW.out
            rwa [List.take_of_length_le (by simp [proj, HN.out.1])] at h)
          go_wp2_with fail
          go_meet
          exact HE.out
  case rest =>
  obtain ⟨w8, rfl⟩ : ∃ z, z = wc := ⟨_, rfl⟩
  have H8 := Lib.hid hcut
  clear hcut H7 c3
  generalize dupZ x (proj M).stays zb = zc at *
  go_upto_region 11 with (fail)
  go_cut [9] (fun s9 wx => s9 = ((get M.now x.proc).map (nthV M.stays)).getD (.pointer none) ∧ Now w B b0 ((M.tell x).bz zc) (stP (newS S C x) ++ (evPc X x :: R)) wx)
  case first =>
    as_aux_lemma =>
      have hev : EvAt w8 X x := own_r H8.out.own (p := evPc X x) (by simp)
      have c5 := mcell H8.out.own 5 (v := .map (some M.c.nb)) rfl
      have x1 := ecell hev 1 (v := .int .i64 x.proc) rfl
      have hlv : ∀ y : Bel w8, (Instr.lookup 52 (.map (some M.c.nb)) (.int .i64 x.proc) false).run Try.prog y.val = .ok (((get M.now x.proc).map (nthV M.stays)).getD (.pointer none)) y.val := fun y => now_look (M := (M.tell x).bz zc) (H8.out.own.below y.prop) _
      clear hev
      generalize ((get M.now x.proc).map (nthV M.stays)).getD (.pointer none) = V at *
      refine wp_region_bel (by kernel_rfl) (by kernel_rfl) ?_
      repeat (go_big_quiet_step ((fail)))
      refine wpQuiet_nil ?_
      intro w9 hw9
      have HE := Lib.hid (H8.out.below (bel_out hw9))
      clear hw9 c5 x1 hlv
      go_wp2_with fail
      go_meet
      exact ⟨rfl, HE.out⟩
  case rest =>
  obtain ⟨rfl, hcut⟩ := hcut
  obtain ⟨w9, rfl⟩ : ∃ z, z = wc := ⟨_, rfl⟩
  have H9 := Lib.hid hcut
  clear hcut H8
  go_upto_region 12 with (fail)
  go_cut [9, 113] (fun s9 s113 wx => s9 = ((get M.now x.proc).map (nthV M.stays)).getD (.pointer none) ∧ s113 = .bool (get M.now x.proc).isSome ∧ wx = w9)
  case first =>
    as_aux_lemma =>
      generalize get M.now x.proc = G at *
      cases G with
      | none =>
        simp only [Option.map_none, Option.getD_none, Option.isSome_none]
        go_wp2_with fail
        go_meet
        exact ⟨rfl, rfl, rfl⟩
      | some k =>
        simp only [Option.map_some, Option.getD_some, Option.isSome_some]
        unfold nthV ptrV
        go_wp2_with fail
        go_meet
        exact ⟨rfl, rfl, rfl⟩
  case rest =>
  obtain ⟨rfl, rfl, rfl⟩ := hcut
  go_upto_if 113 with (fail)
  go_cut [9, 113] (fun s9 s113 wx => Now w B b0 (regMid (M.tell x) x zc) (stP (newS S C x) ++ (evPc X x :: R)) wx)
  case first =>
    as_aux_lemma =>
      cases hG : get M.now x.proc with
      | none =>
        have HE := Lib.hid (show Now w B b0 (regMid (M.tell x) x zc) (stP (newS S C x) ++ (evPc X x :: R)) wc from by
          have h := H9.out
          unfold regMid
          rw [show get (M.tell x).now x.proc = none from hG]
          exact h)
        clear H9 hG
        simp only [Option.map_none, Option.getD_none, Option.isSome_none]
        go_wp2_with fail
        go_meet
        exact HE.out
      | some k =>
        have hkl := now_lt HN.out.2.2.1 hG
        simp only [Option.map_some, Option.getD_some, Option.isSome_some, nth_at hkl]
        have HR := Lib.hid (show regMid (M.tell x) x zc = goneM (M.tell x) k (wayZ x (projS M.stays[k]) zc) from by
          unfold regMid
          rw [show get (M.tell x).now x.proc = some k from hG]
          simp only [show (proj (M.tell x)).stays[k]? = some (projS M.stays[k]) from by simp [proj, MM.tell, hkl]])
        have HM := Lib.hid (show M.stays[k] ∈ M.stays from List.getElem_mem hkl)
        have HCL := Lib.hid (show ∀ (z : Int) (w1 : World), Now w B b0 ((M.tell x).bz z) (stP (newS S C x) ++ (evPc X x :: R)) w1 → Calls Try.prog 33 #[.pointer (some ⟨B, 0, none⟩), .pointer (some ⟨M.stays[k].b, 0, none⟩)] w1 fun e w' => e = .returned (.tuple #[]) ∧ Now w B b0 (goneM (M.tell x) k z) (stP (newS S C x) ++ (evPc X x :: R)) w' from fun z w1 h =>
          (close_any w1 B b0 k ((M.tell x).bz z) _ h.own ⟨HN.out.2.2.1.n, HN.out.2.2.1.now⟩ h.low hkl HN.out.2.2.2.1 HN.out.2.2.2.2).mono fun e w' ⟨h1, h2, h3⟩ => ⟨h1, h.next (by
            unfold goneM
            rw [dif_pos (show k < (M.tell x).stays.length from hkl)]
            exact h2) h3⟩)
        obtain ⟨o, ho⟩ : ∃ o, o = M.stays[k] := ⟨_, rfl⟩
        rw [← ho] at HR HM HCL
        rw [← ho]
        clear ho hG hkl
        unfold ptrV
        go_upto_region 13 with (fail)
        go_cut [] (fun wx => Now w B b0 ((M.tell x).bz (brk 1 zc (decide (keyZ (x.ce : Int) x.cr (o.s.ce : Int) o.s.cr ≤ 0)))) (stP (newS S C x) ++ (evPc X x :: R)) wx)
        case first =>
          have hev : EvAt wc X x := own_r H9.out.own (p := evPc X x) (by simp)
          have hSo := own_stay H9.out.own HM.out
          have x2 := ecell hev 2 (v := .int .u64 (x.ce : Int)) rfl
          have x3 := ecell hev 3 (v := .int .i64 x.cr) rfl
          have o1 := scell hSo 1 (v := .int .u64 (o.s.ce : Int)) rfl
          have o2 := scell hSo 2 (v := .int .i64 o.s.cr) rfl
          have HBR := Lib.hid (H9.out.breaks 1)
          have HKZ := Lib.hid (show decide (keyZ (x.ce : Int) x.cr (o.s.ce : Int) o.s.cr ≤ 0) = decide (keyZ (x.ce : Int) x.cr (o.s.ce : Int) o.s.cr ≤ 0) from rfl)
          clear hev hSo H9
          generalize (o.s.ce : Int) = oe at *
          generalize o.s.cr = oc at *
          refine wp_region_bel_tail 9 (by kernel_rfl) (by kernel_rfl) ?_
          simp only [List.take_succ_cons, List.take_zero, List.drop_succ_cons, List.drop_zero]
          repeat (go_big_quiet_step ((go_at_call 31; with_reducible exact bel_call (kConf_any _ _ _ _ _))))
          refine wpQuiet_nil ?_
          intro w4 hw4
          have HC := Lib.hid (HBR.out w4 (bel_out hw4) (decide (keyZ (x.ce : Int) x.cr oe oc ≤ 0)))
          clear hw4 HBR x2 x3 o1 o2
          go_wp2_with fail
          refine HC.out.mono ?_
          rintro e w5 ⟨rfl, hE⟩
          have HE := Lib.hid hE
          clear hE HC
          go_wp2_with fail
          go_meet
          exact HE.out
        case rest =>
        obtain ⟨wd, rfl⟩ : ∃ z, z = wc := ⟨_, rfl⟩
        have HD := Lib.hid hcut
        clear hcut H9
        have HWZ := Lib.hid (show wayZ x (projS o) zc = brk 1 (brk 1 zc (decide (keyZ (x.ce : Int) x.cr (o.s.ce : Int) o.s.cr ≤ 0))) (wayB x (projS o)) from rfl)
        generalize brk 1 zc (decide (keyZ (x.ce : Int) x.cr (o.s.ce : Int) o.s.cr ≤ 0)) = zd at *
        go_upto_region 14 with (fail)
        go_cut [] (fun wx => Now w B b0 ((M.tell x).bz (brk 1 zd (wayB x (projS o)))) (stP (newS S C x) ++ (evPc X x :: R)) wx)
        case first =>
          have hev : EvAt wd X x := own_r HD.out.own (p := evPc X x) (by simp)
          have hst : StAt wd S (newS S C x).s := (own_r HD.out.own (p := stayPc S (newS S C x).s x) (by simp [stP, newS])).1
          have hSo := own_stay HD.out.own HM.out
          have x1 := ecell hev 1 (v := .int .i64 x.proc) rfl
          have x2 := ecell hev 2 (v := .int .u64 (x.ce : Int)) rfl
          have x3 := ecell hev 3 (v := .int .i64 x.cr) rfl
          have s3 := scell hst 3 (v := .int .u64 (x.mem : Int)) rfl
          have o7 := scell hSo 7 (v := .pointer (o.s.tr.map fun b => ⟨b, 0, none⟩)) rfl
          have HBR := Lib.hid (HD.out.breaks 1)
          clear hev hst hSo
          cases htr : o.s.tr with
          | none =>
            have HWB := Lib.hid (show wayB x (projS o) = true from by
              unfold wayB
              simp [projS, trOf, htr])
            rw [htr] at o7
            simp only [Option.map_none] at o7
            clear htr HD
            refine wp_region_bel_tail 46 (by kernel_rfl) (by kernel_rfl) ?_
            simp only [List.take_succ_cons, List.take_zero, List.drop_succ_cons, List.drop_zero]
            repeat (go_big_quiet_step ((first | (go_at_call 30; with_reducible exact bel_same (setHas_any _ _ _)) | (go_at_call 32; with_reducible exact bel_same (setIn_any _ _ _)))))
            refine wpQuiet_nil ?_
            intro w4 hw4
            have HC := Lib.hid (HBR.out w4 (bel_out hw4) (true))
            clear hw4 HBR x1 x2 x3 s3 o7
            go_wp2_with fail
            refine HC.out.mono ?_
            rintro e w5 ⟨rfl, hE⟩
            rw [show (true : Bool) = wayB x (projS o) from by rw [HWB.out]; try rfl] at hE
            have HE := Lib.hid hE
            clear hE HC
            go_wp2_with fail
            go_meet
            exact HE.out
          | some tb =>
            have hev := own_tr HD.out.own HM.out htr
            have t4 := ecell hev 4 (v := .int .u64 (o.ev.ne : Int)) rfl
            have t5 := ecell hev 5 (v := .int .i64 o.ev.nr) rfl
            have t6 := ecell hev 6 (v := .int .u64 (o.ev.mem : Int)) rfl
            have HWB := Lib.hid (show wayB x (projS o) = ((!((o.ev.ne : Int) == (x.ce : Int) && o.ev.nr == x.cr)) || !inB o.ev.mem x.mem || !hasB o.ev.mem x.proc) from by
              unfold wayB
              simp only [projS, trOf, htr, Option.isSome_some, if_true]
              congr 2
              congr 1
              rw [Bool.eq_iff_iff]
              simp [next, conf, Prod.mk.injEq])
            rw [htr] at o7
            simp only [Option.map_some] at o7
            have hcn := fun W => confNeq W (o.ev.ne : Int) o.ev.nr (x.ce : Int) x.cr
            generalize ((o.ev.ne : Int) == (x.ce : Int) && o.ev.nr == x.cr) = D at *
            generalize o.ev.mem = om at *
            generalize (o.ev.ne : Int) = one at *
            generalize o.ev.nr = onr at *
            clear hev htr HD
            cases D
            · refine wp_region_bel_tail 46 (by kernel_rfl) (by kernel_rfl) ?_
              simp only [List.take_succ_cons, List.take_zero, List.drop_succ_cons, List.drop_zero]
              repeat (go_big_quiet_step ((first | (go_at_call 30; with_reducible exact bel_same (setHas_any _ _ _)) | (go_at_call 32; with_reducible exact bel_same (setIn_any _ _ _)))))
              refine wpQuiet_nil ?_
              intro w4 hw4
              have HC := Lib.hid (HBR.out w4 (bel_out hw4) (true))
              clear hw4 HBR x1 x2 x3 s3 o7 t4 t5 t6 hcn
              go_wp2_with fail
              refine HC.out.mono ?_
              rintro e w5 ⟨rfl, hE⟩
              rw [show (true : Bool) = wayB x (projS o) from by rw [HWB.out]; try rfl] at hE
              have HE := Lib.hid hE
              clear hE HC
              go_wp2_with fail
              go_meet
              exact HE.out
            · cases hin : inB om x.mem
              · have HIN := Lib.hid hin
                rw [hin] at HWB
                refine wp_region_bel_tail 46 (by kernel_rfl) (by kernel_rfl) ?_
                simp only [List.take_succ_cons, List.take_zero, List.drop_succ_cons, List.drop_zero]
                repeat (go_big_quiet_step ((first | (go_at_call 30; with_reducible exact bel_same (setHas_any _ _ _)) | (go_at_call 32; with_reducible exact bel_same (setIn_any _ _ _)))))
                refine wpQuiet_nil ?_
                intro w4 hw4
                have HC := Lib.hid (HBR.out w4 (bel_out hw4) (true))
                clear hw4 HBR x1 x2 x3 s3 o7 t4 t5 t6 hcn
                go_wp2_with fail
                refine HC.out.mono ?_
                rintro e w5 ⟨rfl, hE⟩
                rw [show (true : Bool) = wayB x (projS o) from by rw [HWB.out]; try rfl] at hE
                have HE := Lib.hid hE
                clear hE HC
                go_wp2_with fail
                go_meet
                exact HE.out
              · rw [hin] at HWB
                refine wp_region_bel_tail 46 (by kernel_rfl) (by kernel_rfl) ?_
                simp only [List.take_succ_cons, List.take_zero, List.drop_succ_cons, List.drop_zero]
                repeat (go_big_quiet_step ((first | (go_at_call 30; with_reducible exact bel_same (setHas_any _ _ _)) | (go_at_call 32; with_reducible exact bel_same (setIn_any _ _ _)))))
                refine wpQuiet_nil ?_
                intro w4 hw4
                have HC := Lib.hid (HBR.out w4 (bel_out hw4) (!hasB om x.proc))
                clear hw4 HBR x1 x2 x3 s3 o7 t4 t5 t6 hcn
                go_wp2_with fail
                refine HC.out.mono ?_
                rintro e w5 ⟨rfl, hE⟩
                rw [show (!hasB om x.proc : Bool) = wayB x (projS o) from by rw [HWB.out]; try rfl] at hE
                have HE := Lib.hid hE
                clear hE HC
                go_wp2_with fail
                go_meet
                exact HE.out
        case rest =>
        obtain ⟨we, rfl⟩ : ∃ z, z = wc := ⟨_, rfl⟩
        rw [← HWZ.out] at hcut
        have HC := Lib.hid (HCL.out _ _ hcut)
        clear hcut HD HCL
        go_wp2_with fail
        refine HC.out.mono ?_
        rintro e w5 ⟨rfl, hE⟩
        rw [← HR.out] at hE
        have HE := Lib.hid hE
        clear hE HC
        go_wp2_with fail
        go_meet
        exact HE.out
  case rest =>
  obtain ⟨wa, rfl⟩ : ∃ z, z = wc := ⟨_, rfl⟩
  have HA := Lib.hid hcut
  clear hcut H9
  rw [← HREG.out] at HA
  clear HREG
  have HMR := Lib.hid (show (regM M x).now = M.now ∧ (regM M x).stays.length = n ∧ (regM M x).c.n = n from by
    have h := regMid_keep (M.tell x) x (dupZ x (proj M).stays (brk 1 (brk 1 M.c.broken (!(get M.live x.proc).getD false || !hasB x.mem x.proc)) (toldB M.mems x)))
    exact ⟨h.1, h.2.1.trans HN.out.1.symm, h.2.2.trans (HN.out.2.2.1.n.trans HN.out.1.symm)⟩)
  have HMO := Lib.hid (show MOk (regM M x) from ⟨by rw [HMR.out.2.1, HMR.out.2.2], fun p hp => by rw [HMR.out.1] at hp; rw [HMR.out.2.1, HN.out.1]; exact HN.out.2.2.1.now p hp⟩)
  clear HN
  obtain ⟨M5, hM5⟩ : ∃ M5, M5 = regM M x := ⟨_, rfl⟩
  rw [← hM5] at HA HMR HMO
  have HM5 := Lib.hid hM5
  clear hM5
  obtain ⟨L6, hL6⟩ : ∃ L6, L6 = (parts B M5 ++ (stP (newS S C x) ++ (evPc X x :: R))).set 5 (nowPc (finM M5 (newS S C x) x.proc none 0)) := ⟨_, rfl⟩
  have HL6 := Lib.hid hL6
  clear hL6
  go_upto_region 16 with (fail)
  go_cut [] (fun wx => Hid (Own wx b0 L6 ∧ Kept (fun k => b0 ≤ k) w wx ∧ b0 ≤ wx.heap.size))
  case first =>
    as_aux_lemma =>
      have hev : EvAt wa X x := own_r HA.out.own (p := evPc X x) (by simp)
      have c5 := mcell HA.out.own 5 (v := .map (some M5.c.nb)) rfl
      have x1 := ecell hev 1 (v := .int .i64 x.proc) rfl
      clear hev
      refine wp_region_bel_tail 7 (by kernel_rfl) (by kernel_rfl) ?_
      simp only [List.take_succ_cons, List.take_zero, List.drop_succ_cons, List.drop_zero]
      repeat (go_big_quiet_step ((fail)))
      refine wpQuiet_nil ?_
      intro wb hwb
      have N7 := HA.out.below (bel_out hwb)
      obtain ⟨we, hrun, hg, hgr, hsz⟩ := (own_now N7.own).update (P := Try.prog) Try.underlying52 intLaw x.proc (.pointer (some ⟨S, 0, none⟩))
      rw [vals_now M5.stays (newS S C x) M5.now HMO.out.now, show Value.pointer (some ⟨S, 0, none⟩) = nthV (M5.stays ++ [newS S C x]) M5.stays.length from by simp [nthV, newS, ptrV], put_vals (nthV (M5.stays ++ [newS S C x]))] at hg
      have N8 := own_at 5 (nowPc (finM M5 (newS S C x) x.proc none 0)) N7.own N7.low (p := nowPc M5) rfl ((Kept.of_grown hgr).more (fun k _ e => by rw [e]; rfl)) hg (fun b e => .inl e)
      rw [← HL6.out] at N8
      have HE := Lib.hid (And.intro N8.1 (And.intro (N7.kept.trans N8.2) (Nat.le_trans N7.low N8.2.size)))
      clear hwb c5 x1 N7 N8 hg hgr hsz HA HL6
      have hrun : (Instr.mapUpdate 52 (.map (some M5.c.nb)) (.int .i64 x.proc) (.pointer (some ⟨S, 0, none⟩))).run Try.prog wb = .ok () we := hrun
      go_wp2_with fail
      go_meet
      exact HE
  case rest =>
  have HB := hcut
  clear hcut HA
  have hown := HB.out.1.ok (rowP M5) (by
    rw [HL6.out]
    exact List.mem_of_getElem? (i := 6) rfl)
  have hmon : MAt wc B M5.c := HB.out.1.ok (monPc B M5.c) (by
    rw [HL6.out]
    exact List.mem_of_getElem? (i := 0) rfl)
  have hown : wc.ownsRow 0 57 1 (.slice M5.c.sa n M5.c.sc) n (M5.stays.map fun x => ptrV x.b) := by
    have h := hown
    unfold rowP ptrsPc at h
    simp only [HMR.out.2.2] at h
    exact h
  have c3 : wc.cell? ⟨B, 3, none⟩ = some (.slice M5.c.sa n M5.c.sc) := by
    have h := cell_of_row _ _ 3 _ _ _ hmon
    rw [h, ← HMR.out.2.2]
    rfl
  obtain ⟨i0, hi, hz0, hz1, hz2⟩ := info_parts info57
  have HO := Lib.hid (hown.alloc (.cells #[.pointer (some ⟨S, 0, none⟩)] 57))
  have HR1 := Lib.hid (reads_one wc (.pointer (some ⟨S, 0, none⟩)) 57)
  clear hown hmon
  go_wp2_with (at_builtin; refine wpList_append_any _ rfl (.tmp 186) (.tmp 188) 48 rfl 0 57 i0 _ 1 8 Try.underlying48 hi hz0 hz1 hz2 rfl (by decide) _ n _ rfl HO.out _ _ 1 _ _ rfl HR1.out (by simp [Value.oneCell']) (by unfold maxLen; omega) (by omega) (by simp) ?_)
  intro v' wg ho hg hu
  obtain ⟨sa', sc', rfl⟩ := ownForm ho
  have hKg : Kept (fun k => (rowP M5).blk = some k) wc wg := ((Kept.refl _ _).alloc _).trans ((Kept.of_grown' hg).more fun k _ e => by
    obtain ⟨b, hb, rfl⟩ := e
    show (Value.slice M5.c.sa M5.c.n M5.c.sc).ownBlock = _
    rw [HMR.out.2.2]
    exact hb)
  have hsz : (wc.alloc (.cells #[.pointer (some ⟨S, 0, none⟩)] 57)).heap.size = wc.heap.size + 1 := by simp
  have O1 := own_at 6 (rowP (finM M5 (newS S C x) x.proc sa' sc')) HB.out.1 HB.out.2.2 (p := rowP M5) (by rw [HL6.out]; rfl) hKg (by
      show wg.ownsRow 0 57 1 (.slice sa' (M5.c.n + 1) sc') (M5.c.n + 1) ((M5.stays ++ [newS S C x]).map fun x => ptrV x.b)
      rw [List.map_append, HMR.out.2.2]
      exact ho) (fun b e => by
      have e : (Value.slice sa' (n + 1) sc').ownBlock = some b := by rw [← HMR.out.2.2]; exact e
      rcases hu with h | h
      · left
        show (Value.slice M5.c.sa M5.c.n M5.c.sc).ownBlock = _
        rw [HMR.out.2.2, ← h]
        exact e
      · rw [h] at e
        injection e with e
        right
        omega)
  have hmon : MAt wg B M5.c := O1.1.ok (monPc B M5.c) (by
    rw [HL6.out]
    exact List.mem_of_getElem? (i := 0) rfl)
  have hKs := keptS wg ⟨B, 3, none⟩ (.slice sa' (n + 1) sc')
  have O2 := own_at 0 (monPc B (finM M5 (newS S C x) x.proc sa' sc').c) O1.1 (Nat.le_trans HB.out.2.2 O1.2.size) (p := monPc B M5.c) (by rw [HL6.out]; rfl) (hKs.more fun k _ e => by rw [e]; rfl) (by
      have h := setCell_block hmon 3 (.slice sa' (n + 1) sc')
      show MAt _ B _
      unfold MAt
      rw [h, ← HMR.out.2.2]
      rfl) (fun b e => .inl e)
  have f3 : wg.frozen? ⟨B, 3, none⟩ = false := frozen_of_row _ _ _ _ _ hmon
  have g3 : wg.cell? ⟨B, 3, none⟩ = some (.slice M5.c.sa M5.c.n M5.c.sc) := cell_of_row _ _ 3 _ _ _ hmon
  have HF := Lib.hid (show RegEnd w B b0 M R x (wg.setCell ⟨B, 3, none⟩ (.slice sa' (n + 1) sc')) from by
    refine ⟨S, C, sa', sc', ?_, HB.out.2.1.trans (O1.2.trans O2.2), Nat.le_trans HB.out.2.2 (Nat.le_trans O1.2.size O2.2.size)⟩
    rw [← HM5.out]
    have h := O2.1
    rw [HL6.out] at h
    exact (own_fin h).drop (Q := [evPc X x]))
  clear O1 O2 hmon hKs hKg hsz ho hg hu HL6 HO HR1 c3
  go_wp2_with fail
  go_end0
  exact ⟨rfl, HF.out⟩
end Go.Proofs.Ytogagkgkmoppmaa
