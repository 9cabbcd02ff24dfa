/-
  What stream.Take returns.
  Conditions: counts below 1000000.
-/
import Derived.Test.YtodlmboagbjcbaaStreamM
import Derived.Deep.RegionHeld3
namespace Go.Proofs.Ytodlmboagbjcbaa
set_option linter.unusedVariables false
open Go.RowKit IM
def STakePost (w : World) (D M : Nat) (z : Int) (c : Nat) (H : Hel) (m : Msg) (e : Ending) (w' : World) : Prop := ∃ v, e = .returned (.tuple #[v, .int .i64 (codeS z c H m)]) ∧
  w'.ownsRow w.heap.size 37 6 v (takeS z c H m).2.2.length (rowsM (takeS z c H m).2.2) ∧ StrAt w' D M z (takeS z c H m).1 (takeS z c H m).2.1 ∧ Kept (Two D M) w w'
theorem STakePost.no {w w' : World} {D M c : Nat} {z : Int} {H : Hel} {m : Msg} {k : Int} (hk : codeS z c H m = k) (h0 : k ≠ 0) (h : StrAt w' D M z c H) (hb : Below w.heap.size w w') : STakePost w D M z c H m (.returned (.tuple #[.slice none 0 0, .int .i64 k])) w' := by
  unfold STakePost takeS
  rw [hk, if_neg h0]
  exact ⟨_, rfl, World.ownsRow_nil _ _ _ _, h, .of_below hb⟩
theorem u64_small (a : Int) (h : 0 ≤ a) (h2 : a < 18446744073709551616) : IntKind.u64.wrap a = a := by
  rw [IntKind.wrap_u64]
  omega
theorem hown_below {w w' : World} {base : Nat} {e : TypeId} {size : Nat} {v : Value} {n : Nat} {xs : List Value} (h : w.ownsRow base e size v n xs) (hb : Below w.heap.size w w') : w'.ownsRow base e size v n xs := by
  refine h.kept (row := none) ⟨hb.os, hb.tape, hb.output, hb.size, fun k hk _ => hb.block k hk⟩ ?_
  cases hv : v.ownBlock <;> simp
theorem strAt_count {w : World} {D M c : Nat} {z : Int} {H : Hel} (h : StrAt w D M z c H) (c' : Nat) : StrAt (w.setCell ⟨D, 1, none⟩ (.int .u32 (c' : Int))) D M z c' H :=
  ⟨setCell_block h.1 1 _, h.2.setCell h.ne _⟩
theorem own_setCell {w : World} {base : Nat} {e : TypeId} {size : Nat} {v : Value} {n : Nat} {xs : List Value} (h : w.ownsRow base e size v n xs) {p : Addr} (hp : p.block < base) (u : Value) : (w.setCell p u).ownsRow base e size v n xs := by
  refine h.kept (row := some p.block) ⟨rfl, rfl, rfl, by simp [World.setCell], fun k hk hne => Below.heap_setCell _ _ _ _ (fun e => hne (by rw [e]))⟩ ?_
  cases hv : v.ownBlock with
  | none => exact .inl rfl
  | some b => exact .inr (fun e => by injection e with e; have := (h.lt b hv).1; omega)
theorem new_cells (w : World) (l : List Value) (t : TypeId) (j : Nat) (u : Value) (h : l[j]? = some u) : (w.alloc (.cells l.toArray t)).cell? ((⟨w.heap.size, 0, none⟩ : Addr).add j) = some u := by
  have ha : (⟨w.heap.size, 0, none⟩ : Addr).add j = ⟨w.heap.size, j, none⟩ := by unfold Addr.add; split <;> simp_all
  rw [ha, cell_of_row _ _ j l.toArray t (0, 0) (heap_alloc_new w _)]
  simpa using h
theorem Kept.of_grown' {w w' : World} {row : Option Nat} (h : w.grownBy w' row) : Kept (fun k => ∃ b, row = some b ∧ k = b) w w' := ⟨h.os, h.tape, h.output, h.size, fun i hi hs => h.block i hi (fun e => hs ⟨i, e.symm, rfl⟩)⟩
theorem kept_new {S : Nat → Prop} {w w1 w2 : World} (h : Kept S w w1) (k : Kept (fun b => w.heap.size ≤ b) w1 w2) : Kept S w w2 :=
  ⟨k.os.trans h.os, k.tape.trans h.tape, k.output.trans h.output, Nat.le_trans h.size k.size, fun i hi hs => (k.block i (Nat.lt_of_lt_of_le hi h.size) (by omega)).trans (h.block i hi hs)⟩
/-- delete, its run being known -/
theorem wpList_delete_run {P : Program} {w w' : World} {ops : Array Oper} {rest : List Oper} {o : Oper} {a : Act} {Q : Exit → Act → World → Prop} {v u r : Value} (hgd : o.guard = none) (s x : Operand) (t k : TypeId)
    (ho : o.op = .call { callee := .builtin .delete, args := #[s, x], argTypes := #[t, k] }) (hrun : (Builtin.delete_ #[t, k] o.type #[v, u]).run P w = .ok r w') (hs : a.eval s = v) (hx : a.eval x = u)
    (h : wpList P ops Q rest (a.put o.dst r) w') : wpList P ops Q (o :: rest) a w := by
  refine wpList_plain hgd fun K hK => ?_
  unfold Oper.wp
  simp [execOp, ho, resolve, invoke, builtin, hs, hx, hrun, Result.andThen]
  exact hK _ _ h
theorem wp_named {P : Program} {c : Code} {Q : Exit → Act → World → Prop} {a : Act} {w : World} (h : ∀ w', w = w' → c.wp P Q a w') : c.wp P Q a w := h w rfl
set_option maxRecDepth 100000 in
set_option maxHeartbeats 4000000 in
theorem sTake_any (D M c : Nat) (z : Int) (H : Hel) (m : Msg) (w : World) (h : StrAt w D M z c H) (hk : Keys H) (hc : c ≤ 1000000) (hz : 1 ≤ z ∧ z ≤ 64) (hH : H.length ≤ 1000) (hm : m.seq < 4294967296) :
    Calls Try.prog 17 #[.pointer (some ⟨D, 0, none⟩), .agg (msgA m)] w (STakePost w D M z c H m) := by
  have c0 : w.cell? ⟨D, 0, none⟩ = some (.int .i64 z) := cell_of_row _ _ 0 _ _ _ h.1
  have c1 : w.cell? ⟨D, 1, none⟩ = some (.int .u32 (c : Int)) := cell_of_row _ _ 1 _ _ _ h.1
  have c2 : w.cell? ⟨D, 2, none⟩ = some (.map (some M)) := cell_of_row _ _ 2 _ _ _ h.1
  have hbox := heap_alloc_new w (.cells (msgA m) 37)
  have hb0 := ba (br w) (.cells (msgA m) 37)
  have hA0 := h.below hb0
  have hwl : w.heap.size < (w.alloc (.cells (msgA m) 37)).heap.size := by simp
  have hDl := h.lt.1
  have hMl := h.lt.2
  go_enter Try.func17, Try.ntmps17
  go_upto_region 1 with (fail)
  generalize w.alloc (.cells (msgA m) 37) = W at *
  have a2 : W.cell? ⟨D, 2, none⟩ = some (.map (some M)) := cell_of_row _ _ 2 _ _ _ hA0.1
  have b1 : W.cell? ⟨w.heap.size, 1, none⟩ = some (.int .u32 (m.seq : Int)) := cell_of_row _ _ 1 _ _ _ hbox
  have hlk : ∀ W' : World, StrAt W' D M z c H → (Instr.lookup 75 (.map (some M)) (.int .u32 (m.seq : Int)) true).run Try.prog W' = .ok (.tuple #[.agg (msgA (getH H m.seq)), .bool (hasH H m.seq)]) W' := by
    intro W' hW'
    have := hW'.2.lookup_ok Try.underlying75 Try.underlying23 (z := .agg (msgA zeroM)) (by kernel_rfl) (m.seq : Int)
    rwa [heldL_get, heldL_has] at this
  have HS := Lib.hid (show ∀ W' : World, Below W.heap.size W W' → W'.cell? ⟨D, 2, none⟩ = some (.map (some M)) ∧ W'.cell? ⟨w.heap.size, 1, none⟩ = some (.int .u32 (m.seq : Int)) ∧ (Instr.lookup 75 (.map (some M)) (.int .u32 (m.seq : Int)) true).run Try.prog W' = .ok (.tuple #[.agg (msgA (getH H m.seq)), .bool (hasH H m.seq)]) W' from fun W' hb =>
    ⟨(hb.cell (p := ⟨D, 2, none⟩) hA0.lt.1).trans a2, (hb.cell (p := ⟨w.heap.size, 1, none⟩) hwl).trans b1, hlk _ (hA0.below hb)⟩)
  have hl0 := hlk _ hA0
  clear c0 c1 c2 h
  generalize getH H m.seq = y at *
  generalize hth : hasH H m.seq = there at *
  have HTH := Lib.hid hth
  clear hth
  unfold msgA at *
  go_cut [7] (fun s7 wx => s7 = .bool there ∧ Below W.heap.size W wx)
  case first =>
    go_region_held3 (fun w' => w'.cell? ⟨D, 2, none⟩ = some (.map (some M)) ∧ w'.cell? ⟨w.heap.size, 1, none⟩ = some (.int .u32 (m.seq : Int)) ∧ (Instr.lookup 75 (.map (some M)) (.int .u32 (m.seq : Int)) true).run Try.prog w' = .ok (.tuple #[.agg #[.int .i64 y.frm, .int .u32 (y.seq : Int), .int .u64 (y.stamp : Int), .int .i64 y.service, .slice y.da y.ds.length y.dc, .string y.pay], .bool there]) w')
      (first | exact HS.out _ (by repeat first | exact br _ | assumption | apply ba | apply Below.drew | apply bs) | go_keep) ((fail))
    all_goals
      go_wp2_with fail
      go_meet
      refine ⟨rfl, ?_⟩
      repeat first
        | exact br _
        | apply ba
        | apply Below.drew
        | (refine bs ?_ (by simp) _)
  case rest =>
    obtain ⟨rfl, hb1⟩ := hcut
    have hA1 := hA0.below hb1
    have hbox1 := (hb1.block _ hwl).trans hbox
    have hbw := bt hb0 hb1
    have e0 : wc.cell? ⟨D, 0, none⟩ = some (.int .i64 z) := cell_of_row _ _ 0 _ _ _ hA1.1
    have e1 : wc.cell? ⟨D, 1, none⟩ = some (.int .u32 (c : Int)) := cell_of_row _ _ 1 _ _ _ hA1.1
    have e2 : wc.cell? ⟨D, 2, none⟩ = some (.map (some M)) := cell_of_row _ _ 2 _ _ _ hA1.1
    have g1 : wc.cell? ⟨w.heap.size, 1, none⟩ = some (.int .u32 (m.seq : Int)) := cell_of_row _ _ 1 _ _ _ hbox1
    clear hlk hl0 a2 b1 hbox hA0 hb0 hb1 hwl HS
    have HA := Lib.hid (And.intro hA1 (And.intro hbox1 hbw))
    clear hA1 hbox1 hbw
    by_cases s0 : m.seq = 0
    · have hcode : codeS z c H m = 1 := by unfold codeS; rw [if_pos s0]
      have d0 : ((m.seq : Int) == 0) = true := by simp; omega
      have HN := Lib.hid (fun (w' : World) (h1 : StrAt w' D M z c H) (h2 : Below w.heap.size w w') => STakePost.no hcode (by decide) h1 h2)
      generalize STakePost w D M z c H m = Q at *
      clear s0 hcode
      go_wp2
      exact HN.out _ HA.out.1 HA.out.2.2
    have d0 : ((m.seq : Int) == 0) = false := by simp; omega
    by_cases s1 : m.seq ≤ c
    · have hcode : codeS z c H m = 12 := by unfold codeS; rw [if_neg s0, if_pos (.inl s1)]
      have d1 : decide ((m.seq : Int) ≤ (c : Int)) = true := by simp; omega
      have d1n : decide (m.seq ≤ c) = true := by simpa using s1
      have HN := Lib.hid (fun (w' : World) (h1 : StrAt w' D M z c H) (h2 : Below w.heap.size w w') => STakePost.no hcode (by decide) h1 h2)
      generalize STakePost w D M z c H m = Q at *
      clear s0 s1 hcode
      go_wp2
      go_quiet (fail)
      go_wp2
      exact HN.out _ (HA.out.1.below (bn (br _) _)) (bn HA.out.2.2 _)
    have d1 : decide ((m.seq : Int) ≤ (c : Int)) = false := by simp; omega
    have d1n : decide (m.seq ≤ c) = false := by simpa using s1
    cases there
    · by_cases s2 : (c : Int) + z < (m.seq : Int)
      · have hcode : codeS z c H m = 6 := by unfold codeS; rw [if_neg s0, if_neg (by rw [HTH.out]; simp; omega), if_pos s2]
        have HN := Lib.hid (fun (w' : World) (h1 : StrAt w' D M z c H) (h2 : Below w.heap.size w w') => STakePost.no hcode (by decide) h1 h2)
        generalize STakePost w D M z c H m = Q at *
        have u1 := u64_small (m.seq : Int) (by omega) (by omega)
        have u2 := u64_small (c : Int) (by omega) (by omega)
        have u3 := u64_small z (by omega) (by omega)
        have u4 := u64_small ((c : Int) + z) (by omega) (by omega)
        have d2 : decide ((c : Int) + z < (m.seq : Int)) = true := by simpa using s2
        clear s0 s1 s2 hcode
        go_wp2
        go_quiet (fail)
        go_wp2
        go_quiet (fail)
        go_wp2
        exact HN.out _ (HA.out.1.below (bn (bn (br _) _) _)) (bn (bn HA.out.2.2 _) _)
      · have u1 := u64_small (m.seq : Int) (by omega) (by omega)
        have u2 := u64_small (c : Int) (by omega) (by omega)
        have u3 := u64_small z (by omega) (by omega)
        have u4 := u64_small ((c : Int) + z) (by omega) (by omega)
        have d2 : decide ((c : Int) + z < (m.seq : Int)) = false := by simpa using s2
        have hcode : codeS z c H m = 0 := by unfold codeS; rw [if_neg s0, if_neg (by rw [HTH.out]; simp; omega), if_neg s2]
        have HCO := Lib.hid hcode
        clear s0 s1 s2 hcode
        go_wp2
        go_quiet (fail)
        go_wp2
        go_quiet (fail)
        go_wp2
        clear u1 u2 u3 u4 d0 d1 d1n d2
        refine wp_named ?_
        intro w4 hw4
        have hA4 : StrAt w4 D M z c H := by rw [← hw4]; exact HA.out.1.below (bn (bn (br _) _) _)
        have hbox4 : w4.heap[w.heap.size]? = some (.cells (msgA m) 37 (0, 0)) := by rw [← hw4]; exact HA.out.2.1
        have hb4 : Below w.heap.size w w4 := by rw [← hw4]; exact bn (bn HA.out.2.2 _) _
        clear hw4 e0 e1 e2 g1 HA
        have e2 : w4.cell? ⟨D, 2, none⟩ = some (.map (some M)) := cell_of_row _ _ 2 _ _ _ hA4.1
        have g0 : w4.cell? ⟨w.heap.size, 0, none⟩ = some (.int .i64 m.frm) := cell_of_row _ _ 0 _ _ _ hbox4
        have g1 : w4.cell? ⟨w.heap.size, 1, none⟩ = some (.int .u32 (m.seq : Int)) := cell_of_row _ _ 1 _ _ _ hbox4
        have g2 : w4.cell? ⟨w.heap.size, 2, none⟩ = some (.int .u64 (m.stamp : Int)) := cell_of_row _ _ 2 _ _ _ hbox4
        have g3 : w4.cell? ⟨w.heap.size, 3, none⟩ = some (.int .i64 m.service) := cell_of_row _ _ 3 _ _ _ hbox4
        have g4 : w4.cell? ⟨w.heap.size, 4, none⟩ = some (.slice m.da m.ds.length m.dc) := cell_of_row _ _ 4 _ _ _ hbox4
        have g5 : w4.cell? ⟨w.heap.size, 5, none⟩ = some (.string m.pay) := cell_of_row _ _ 5 _ _ _ hbox4
        have H4 := Lib.hid (And.intro hA4 hb4)
        clear hA4 hb4 hbox4
        refine wp_region_drew_tail 7 (by kernel_rfl) (by kernel_rfl) ?_
        simp only [List.take_succ_cons, List.take_zero, List.drop_succ_cons, List.drop_zero]
        repeat (go_big_quiet_step ((fail)))
        refine wpQuiet_nil ?_
        intro w5 hw5
        have hb45 : Below w4.heap.size w4 w5 := by obtain ⟨q, rfl⟩ := hw5; exact bn (br _) _
        have hA5 := H4.out.1.below hb45
        have hb5 := H4.out.2.trans (hb45.mono H4.out.2.size)
        clear hw5 e2 g0 g1 g2 g3 g4 g5 H4 hb45
        obtain ⟨w6, hup, hm6, hg6, hz6⟩ := hA5.2.update Try.underlying75 Try.underlying23 (m.seq : Int) (.agg (msgA m))
        rw [heldL_put H m.seq m HTH.out] at hm6
        have hA6 : StrAt w6 D M z c (H ++ [(m.seq, m)]) := ⟨(Kept.of_grown hg6).keep hA5.1 hA5.ne, hm6⟩
        have hk6 : Kept (Two D M) w w6 := (Kept.of_below hb5).trans ((Kept.of_grown hg6).more (fun q _ e => .inr e))
        have hkey := hk.add HTH.out m
        unfold msgA at hup
        have H6 := Lib.hid (And.intro hA6 (And.intro hk6 hkey))
        clear hA5 hb5 hm6 hg6 hz6 hA6 hk6 hkey hk HTH
        go_wp2_with fail
        clear hup
        obtain ⟨FIN, hFIN⟩ : ∃ FIN, FIN = drainF (H ++ [(m.seq, m)]).length c (H ++ [(m.seq, m)]) [] := ⟨_, rfl⟩
        have HF := Lib.hid hFIN
        clear hFIN
        have HP := Lib.hid (show ∀ (v : Value) (w' : World), w'.ownsRow w.heap.size 37 6 v FIN.2.2.length (rowsM FIN.2.2) → StrAt w' D M z FIN.1 FIN.2.1 → Kept (Two D M) w w' → STakePost w D M z c H m (.returned (.tuple #[v, .int .i64 0])) w' from by
          intro v w' h1 h2 h3
          unfold STakePost takeS
          rw [HCO.out, if_pos rfl]
          have he : H.length + 1 = (H ++ [(m.seq, m)]).length := by simp
          rw [he, ← HF.out]
          exact ⟨v, rfl, h1, h2, h3⟩)
        generalize STakePost w D M z c H m = Q at *
        clear HCO
        obtain ⟨i0, hi, hz0, hz1, hz2⟩ := info_parts info37
        have hwD : D < w.heap.size := hDl
        go_loopg [8] (H.length + 1) (fun g v wr => ∃ (c' : Nat) (H' : Hel) (O : List Msg), g = H'.length ∧ Keys H' ∧ c' + H'.length ≤ c + H.length + 1 ∧ O.length + H'.length ≤ H.length + 1 ∧ FIN = drainF H'.length c' H' O ∧ StrAt wr D M z c' H' ∧ wr.ownsRow w.heap.size 37 6 v O.length (rowsM O) ∧ Kept (Two D M) w wr)
        case atStart => exact ⟨c, H ++ [(m.seq, m)], [], by simp, H6.out.2.2, by simp; omega, by simp, HF.out, H6.out.1, World.ownsRow_nil _ _ _ _, H6.out.2.1⟩
        case round =>
          obtain ⟨c', H', O, rfl, hkey, hcb, hOb, hfin, hA, hown, hkw⟩ := hrel
          have hsz := hkw.size
          have HR := Lib.hid (And.intro hkey (And.intro hfin (And.intro hA (And.intro hown hkw))))
          have hlk : ∀ W' : World, StrAt W' D M z c' H' → (Instr.lookup 75 (.map (some M)) (.int .u32 ((c' : Int) + 1)) true).run Try.prog W' = .ok (.tuple #[.agg (msgA (getH H' (c' + 1))), .bool (hasH H' (c' + 1))]) W' := by
            intro W' hW'
            have := hW'.2.lookup_ok Try.underlying75 Try.underlying23 (z := .agg (msgA zeroM)) (by kernel_rfl) ((c' + 1 : Nat) : Int)
            rwa [heldL_get, heldL_has] at this
          have e1 : wr.cell? ⟨D, 1, none⟩ = some (.int .u32 (c' : Int)) := cell_of_row _ _ 1 _ _ _ hA.1
          have e2 : wr.cell? ⟨D, 2, none⟩ = some (.map (some M)) := cell_of_row _ _ 2 _ _ _ hA.1
          have HS := Lib.hid (show ∀ W' : World, Below wr.heap.size wr W' → W'.cell? ⟨D, 2, none⟩ = some (.map (some M)) ∧ W'.cell? ⟨D, 1, none⟩ = some (.int .u32 (c' : Int)) ∧ (Instr.lookup 75 (.map (some M)) (.int .u32 ((c' : Int) + 1)) true).run Try.prog W' = .ok (.tuple #[.agg (msgA (getH H' (c' + 1))), .bool (hasH H' (c' + 1))]) W' from fun W' hb =>
            ⟨(hb.cell (p := ⟨D, 2, none⟩) hA.lt.1).trans e2, (hb.cell (p := ⟨D, 1, none⟩) hA.lt.1).trans e1, hlk _ (hA.below hb)⟩)
          have hl0 := hlk _ hA
          clear hkey hfin hA hown hkw hlk
          generalize hy : getH H' (c' + 1) = y at *
          generalize hth : hasH H' (c' + 1) = there at *
          have HTH := Lib.hid (And.intro hth hy)
          clear hth hy
          unfold msgA at hl0 HS
          have hsum : IntKind.u32.wrap ((c' : Int) + 1) = (c' : Int) + 1 := by rw [IntKind.wrap_u32]; omega
          go_upto_region 10 with (fail)
          go_cut [9, 10] (fun s9 s10 wx => s10 = .bool there ∧ ∃ X, s9 = .pointer (some ⟨X, 0, none⟩) ∧ wx.heap[X]? = some (.cells (msgA y) 37 (0, 0)) ∧ wr.heap.size ≤ X ∧ Below wr.heap.size wr wx)
          case first =>
            go_region_held3 (fun w' => w'.cell? ⟨D, 2, none⟩ = some (.map (some M)) ∧ w'.cell? ⟨D, 1, none⟩ = some (.int .u32 (c' : Int)) ∧ (Instr.lookup 75 (.map (some M)) (.int .u32 ((c' : Int) + 1)) true).run Try.prog w' = .ok (.tuple #[.agg #[.int .i64 y.frm, .int .u32 (y.seq : Int), .int .u64 (y.stamp : Int), .int .i64 y.service, .slice y.da y.ds.length y.dc, .string y.pay], .bool there]) w')
              (first | exact HS.out _ (by repeat first | exact br _ | assumption | apply ba | apply Below.drew | apply bs) | go_keep) ((fail))
            all_goals
              go_wp2_with fail
              go_meet
              refine ⟨rfl, wr.heap.size, rfl, heap_alloc_new _ _, Nat.le_refl _, ?_⟩
              repeat first
                | exact br _
                | apply ba
                | apply Below.drew
                | (refine bs ?_ (by simp) _)
          case rest =>
            obtain ⟨rfl, X, rfl, hX, hXw, hbc⟩ := hcut
            clear HS hl0 e1 e2 hsum
            have hA7 := HR.out.2.2.1.below hbc
            have e1 : wc.cell? ⟨D, 1, none⟩ = some (.int .u32 (c' : Int)) := cell_of_row _ _ 1 _ _ _ hA7.1
            cases there
            · have hf := HR.out.2.1
              rw [drainF_stop HTH.out.1] at hf
              have HO := Lib.hid (hown_below HR.out.2.2.2.1 hbc)
              have HK := Lib.hid (HR.out.2.2.2.2.trans (Kept.of_below hbc))
              have HA7 := Lib.hid hA7
              subst hf
              clear hA7 hbc hX
              go_wp2
              exact HP.out _ _ HO.out HA7.out HK.out
            · have hf := HR.out.2.1
              rw [drainF_step HR.out.1 HTH.out.1, HTH.out.2] at hf
              have hdl := delH_length HR.out.1 HTH.out.1
              have hkd := HR.out.1.del (c' + 1)
              have HO := Lib.hid (hown_below HR.out.2.2.2.1 hbc)
              have HK := Lib.hid (HR.out.2.2.2.2.trans (Kept.of_below hbc))
              have hf1 : wc.frozen? ⟨D, 1, none⟩ = false := frozen_of_row _ _ 1 _ _ hA7.1
              have dz : ((c' : Int) + 1 == 0) = false := by simp; omega
              have HF2 := Lib.hid (And.intro hf hkd)
              have HA7 := Lib.hid (And.intro hA7 hX)
              clear hf hkd hA7 hX hbc
              go_upto_region 14 with (fail)
              refine wp_named ?_
              intro w8 hw8
              have hS8 := strAt_count HA7.out.1 (c' + 1)
              rw [show ((c' + 1 : Nat) : Int) = (c' : Int) + 1 from by omega] at hS8
              have hA8 : StrAt w8 D M z (c' + 1) H' := by rw [← hw8]; exact hS8
              have hK8 : Kept (Two D M) w w8 := by rw [← hw8]; exact HK.out.setCell (.inl rfl) _
              have hO8 : w8.ownsRow w.heap.size 37 6 u8 O.length (rowsM O) := by rw [← hw8]; exact own_setCell HO.out hwD _
              have hX8 : w8.heap[X]? = some (.cells (msgA y) 37 (0, 0)) := by
                rw [← hw8]
                exact (Below.heap_setCell _ _ _ _ (by show X ≠ D; omega)).trans HA7.out.2
              have H8 := Lib.hid (And.intro hA8 (And.intro hK8 (And.intro hO8 hX8)))
              have e1 : w8.cell? ⟨D, 1, none⟩ = some (.int .u32 ((c' + 1 : Nat) : Int)) := cell_of_row _ _ 1 _ _ _ hA8.1
              have e2 : w8.cell? ⟨D, 2, none⟩ = some (.map (some M)) := cell_of_row _ _ 2 _ _ _ hA8.1
              clear hw8 hS8 hA8 hK8 hO8 hX8 hf1 dz HA7 HK HO
              refine wp_region_drew_tail 8 (by kernel_rfl) (by kernel_rfl) ?_
              simp only [List.take_succ_cons, List.take_zero, List.drop_succ_cons, List.drop_zero]
              repeat (go_big_quiet_step ((fail)))
              refine wpQuiet_nil ?_
              intro w9 hw9
              have hb9 : Below w8.heap.size w8 w9 := by obtain ⟨q, rfl⟩ := hw9; exact bn (br _) _
              have hA9 := H8.out.1.below hb9
              have hK9 := H8.out.2.1.trans (Kept.of_below (S := Two D M) hb9)
              have hO9 := hown_below H8.out.2.2.1 hb9
              have hX9 := (hb9.block X (Array.getElem?_eq_some_iff.1 H8.out.2.2.2).1).trans H8.out.2.2.2
              clear hw9 e1 e2 hb9 H8
              obtain ⟨w10, hdel, hm10, hg10, hz10⟩ := hA9.2.drop Try.underlying75 Try.underlying23 0 ((c' + 1 : Nat) : Int)
              rw [heldL_del] at hm10
              have hk10 := Kept.of_grown hg10
              have hA10 : StrAt w10 D M z (c' + 1) (delH H' (c' + 1)) := ⟨hk10.keep hA9.1 hA9.ne, hm10⟩
              have hK10 : Kept (Two D M) w w10 := hK9.trans (hk10.more (fun q _ e => .inr e))
              have hO10 := hO9.kept hg10 (by
                cases hv : u8.ownBlock with
                | none => exact .inl rfl
                | some b => exact .inr (fun e => by injection e with e; have := (hO9.lt b hv).1; omega))
              have hX10 := hk10.keep hX9 (show X ≠ M by omega)
              refine wpList_delete_run rfl (.tmp 93) (.tmp 97) 75 23 rfl hdel rfl rfl ?_
              have H10 := Lib.hid (And.intro hA10 hK10)
              clear hA9 hK9 hO9 hX9 hdel hm10 hg10 hz10 hk10 hA10 hK10
              have x0 : w10.cell? ⟨X, 0, none⟩ = some (.int .i64 y.frm) := cell_of_row _ _ 0 _ _ _ hX10
              have x1 : w10.cell? ⟨X, 1, none⟩ = some (.int .u32 (y.seq : Int)) := cell_of_row _ _ 1 _ _ _ hX10
              have x2 : w10.cell? ⟨X, 2, none⟩ = some (.int .u64 (y.stamp : Int)) := cell_of_row _ _ 2 _ _ _ hX10
              have x3 : w10.cell? ⟨X, 3, none⟩ = some (.int .i64 y.service) := cell_of_row _ _ 3 _ _ _ hX10
              have x4 : w10.cell? ⟨X, 4, none⟩ = some (.slice y.da y.ds.length y.dc) := cell_of_row _ _ 4 _ _ _ hX10
              have x5 : w10.cell? ⟨X, 5, none⟩ = some (.string y.pay) := cell_of_row _ _ 5 _ _ _ hX10
              have hbase : w.heap.size ≤ w10.heap.size := H10.out.2.size
              have hown' := Lib.hid hO10
              clear hX10 hO10
              go_wp2_with (at_builtin; refine wpList_append_own _ rfl (.tmp 98) (.tmp 100) 22 rfl w.heap.size 37 i0 _ 6 72 Try.underlying22 hi hz0 hz1 hz2 rfl (by decide) u8 O.length (rowsM O) rfl (hown'.out.alloc _) ⟨w10.heap.size, 0, none⟩ 1 1 (msgA y).toList rfl rfl ?c1 ?c2 ?c3 ?c4 ?c5 ?_)
              case c1 => exact new_cells w10 (msgA y).toList 37
              case c2 => exact msgA_one y
              case c3 => unfold maxLen; omega
              case c4 => omega
              case c5 => simp; omega
              intro v' w11 hown11 hg11 _
              clear x0 x1 x2 x3 x4 x5
              rw [← rowsM_snoc] at hown11
              have hb11 : Kept (fun k => w.heap.size ≤ k) w10 w11 := (Kept.of_below (ba (br w10) _)).trans ((Kept.of_grown' hg11).more (fun q _ e => by
                obtain ⟨b, hb, he⟩ := e
                have := (hown'.out.lt b hb).1
                omega))
              have hA11 := H10.out.1.kept hb11 (by omega) (by omega)
              have hK11 : Kept (Two D M) w w11 := kept_new H10.out.2 hb11
              have H11 := Lib.hid (And.intro hA11 (And.intro hK11 hown11))
              clear hown11 hg11 hb11 hA11 hK11 H10 hown'
              go_wp2
              go_roundg (delH H' (c' + 1)).length
              case measure => omega
              case rel => exact ⟨c' + 1, delH H' (c' + 1), O ++ [y], rfl, HF2.out.2, by omega, by simp; omega, HF2.out.1, H11.out.1, by simpa using H11.out.2.2, H11.out.2.1⟩
    · have hcode : codeS z c H m = 12 := by unfold codeS; rw [if_neg s0, if_pos (.inr HTH.out)]
      have HN := Lib.hid (fun (w' : World) (h1 : StrAt w' D M z c H) (h2 : Below w.heap.size w w') => STakePost.no hcode (by decide) h1 h2)
      generalize STakePost w D M z c H m = Q at *
      clear s0 s1 hcode
      go_wp2
      go_quiet (fail)
      go_wp2
      exact HN.out _ (HA.out.1.below (bn (br _) _)) (bn HA.out.2.2 _)
end Go.Proofs.Ytodlmboagbjcbaa
