/-
  The law OrderCopies.
  Conditions: the table of math/bits.
-/
import Derived.Test.YtgjlcjbmcnofiaaDoorOrdQ
namespace Go.Proofs.YtgjlcjbmcnofiaaDoor
set_option linter.unusedVariables false
set_option linter.unusedSimpArgs false
open Go.RowKit
/-- at the head of the first loop -/
structure CpSt (w : World) (B D Z k : Nat) (wr : World) : Prop where
  ex : ∃ O V VH, OrH w wr B D Z O V VH ∧ InvO k O ∧ PRel O O
/-- the k-th act, for whoever does it -/
structure ActK (w : World) (l : List ActO) (k : Nat) (a : ActO) : Prop where
  at_ : l[k]? = some a
  msg : ∀ W, Below w.heap.size w W → MsgOk W a.m
  ds : a.m.ds.length ≤ 20000
  seq : a.seq < 4294967296
theorem act_k {w : World} {ad : Option Addr} {n cap : Nat} {l : List ActO} (h : ActsO w (.slice ad n cap) l) (hf : FewOkO l) {k : Nat} (hk : k < l.length) : ∃ a g o, ActK w l k a ∧ ad = some ⟨g, o, none⟩ ∧ n = l.length ∧ ∀ W, Below w.heap.size w W → W.rangeAt g (o + k * 10) (actL a) := by
  obtain ⟨ad', cap', e0, _, hm⟩ := id h
  injection e0 with e0 e1 e2
  subst e0; subst e1
  obtain ⟨g, o, rfl, hg, hrow, hok, hup, hst⟩ := hm k hk
  refine ⟨l[k], g, o, ⟨List.getElem?_eq_getElem hk, fun W hW => hok.below hW, (hf.2 _ (List.getElem_mem hk)).2, hup⟩, rfl, rfl, fun W hW j u hu => (hW.cell (p := ⟨g, o + k * 10 + j, none⟩) hg).trans (hrow j u hu)⟩
/-- what lies apart grows -/
theorem Two.grown {w0 w w' : World} {B1 D1 Z1 B2 D2 Z2 : Nat} {O1 O2 : PO} {F F' S : Nat → Prop} (h : Two w0 w B1 D1 Z1 O1 B2 D2 Z2 O2 F) (hk : Kept S w w') (hc : Calm w S) (hS : ∀ b, S b → F b ∧ w0.heap.size ≤ b) (hF : ∀ b, F' b → F b ∨ (w.heap.size ≤ b ∧ b < w'.heap.size)) : Two w0 w' B1 D1 Z1 O1 B2 D2 Z2 O2 F' := by
  obtain ⟨V1, U1, V2, U2, h1, h2, h3, h4⟩ := h
  refine ⟨V1, U1, V2, U2, h1.kept hk (fun b hb e => (h4 b (hS b e).1).1 hb) hc (fun b e => (hS b e).2), h2.kept hk (fun b hb e => (h4 b (hS b e).1).2.1 hb) hc (fun b e => (hS b e).2), h3, fun b hb => ?_⟩
  rcases hF b hb with e | e
  · obtain ⟨a1, a2, a3⟩ := h4 b e
    exact ⟨a1, a2, Nat.lt_of_lt_of_le a3 hk.size⟩
  · exact ⟨fun e' => by have := h1.at_.sz e'; omega, fun e' => by have := h2.at_.sz e'; omega, e.2⟩
/-- while acts are done upon one of two orders, and what they hand out is gathered -/
structure CpX (w : World) (B D Z N E F : Nat) (C Oo : PO) (l : List ActO) (k : Nat) (G : Nat → Prop) (P : World → Prop) (x : Value) (n j : Nat) (wr : World) : Prop where
  ex : ∃ O L X, Two w wr B D Z O N E F Oo (fun b => G b ∨ x.ownBlock = some b) ∧ Run ((l.drop k).take (j - k)) C L O ∧ wr.ownsRow w.heap.size 42 6 x X.length (rowsM X) ∧ X.map core = L.map core ∧ Outs w.heap.size wr X ∧ P wr ∧ (∀ b, x.ownBlock = some b → ¬ G b) ∧ n = X.length ∧ X.length ≤ (j - k) * 6464000
theorem DoTo.len {a : ActO} {O O' : PO} {L : List Msg} (h : DoTo a O O' L) (hk : OrOk O) : L.length ≤ 6464000 := by
  unfold DoTo at h
  split at h
  · rw [h.1]; exact Nat.zero_le _
  · split at h
    · rw [h.1]; exact Nat.zero_le _
    · split at h
      · rw [h.1]; exact Nat.zero_le _
      · split at h
        · have := (h.1.ok hk).2
          have := room_le hk
          omega
        · split at h
          · rw [h.1]; exact Nat.zero_le _
          · rw [h.1]; exact Nat.zero_le _
theorem run_take {l : List ActO} {k j : Nat} {a : ActO} (hkj : k ≤ j) (ha : l[j]? = some a) : (l.drop k).take (j + 1 - k) = (l.drop k).take (j - k) ++ [a] := by
  have hj := (List.getElem?_eq_some_iff.1 ha).1
  rw [show j + 1 - k = (j - k) + 1 by omega, List.take_add_one]
  congr 1
  rw [List.getElem?_drop, show k + (j - k) = j by omega, ha]
  rfl
set_option maxRecDepth 100000 in
set_option maxHeartbeats 16000000 in
theorem law_orderCopies (ms : Nat) (v : Value) (l : List ActO) (at_ : Int) (w : World) (hm : ms < 18446744073709551616) (hT : Tab w) (h : ActsO w v l) :
    Calls Tryd.prog 7 #[.int .u64 (ms : Int), v, .int .i64 at_] w fun e w' => e = .returned (.bool true) ∧ Below w.heap.size w w' := by
  have HT := Lib.hid hT
  have HL := Lib.hid h
  have HAW := Lib.hid (awake14_any w hT)
  have HFE := Lib.hid (fun (W : World) (hb : Below w.heap.size w W) => FewO_any v l W (h.below hb))
  have HM := Lib.hid hm
  obtain ⟨ad, cap, rfl, hl9, _⟩ := h
  clear hT hm
  go_enter Tryd.func7, Tryd.ntmps7
  go_wp2_with fail
  refine HAW.out.mono ?_
  rintro e w1 ⟨rfl, hb1⟩
  have HB1 := Lib.hid hb1
  clear hb1 HAW
  go_wp2_with fail
  refine (HFE.out _ HB1.out).mono ?_
  rintro e w2 ⟨⟨b, rfl, hfew⟩, hb2⟩
  have HB2 := Lib.hid (bt HB1.out hb2)
  clear hb2 HFE HB1
  cases b
  · clear hfew
    go_wp2_with fail
    go_ret
    exact ⟨rfl, HB2.out⟩
  have HF := Lib.hid (hfew rfl)
  clear hfew
  by_cases hn0 : at_ < 0
  · have d0 : decide (at_ < 0) = true := by simpa using hn0
    go_wp2_with fail
    go_ret
    exact ⟨rfl, HB2.out⟩
  have d0 : decide (at_ < 0) = false := by simpa using hn0
  by_cases hn1 : (l.length : Int) < at_
  · have d1 : decide ((l.length : Int) < at_) = true := by simpa using hn1
    go_wp2_with fail
    go_ret
    exact ⟨rfl, HB2.out⟩
  have d1 : decide ((l.length : Int) < at_) = false := by simpa using hn1
  obtain ⟨n, rfl⟩ := Int.eq_ofNat_of_zero_le (show 0 ≤ at_ by omega)
  have hnl : n ≤ l.length := by omega
  have HN := Lib.hid hnl
  have d2 : decide (l.length < n) = false := by simp; omega
  go_wp2_with fail
  refine (orNew_any 0 ms w2 HM.out).mono ?_
  rintro e w3 hnw
  obtain ⟨B, D, Z, rfl, h3, hf3, hb3⟩ := orh_new HB2.out hnw
  have HO := Lib.hid (show CpSt w B D Z 0 w3 from ⟨po0 0 ms, nilV, nilV, h3, InvO.new 0 ms HM.out, PRel.new 0 ms⟩)
  clear hnw h3 hf3 hb3 HB2 hn0 hn1 d0 d1 d2
  go_wp2_with fail
  go_loopw [9] (fun i wr => ∃ k : Nat, k ≤ n ∧ i = .int .i64 (k : Int) ∧ Hid (CpSt w B D Z k wr)) (fun i _ => n - (intOf i).toNat)
  case atStart => exact ⟨0, by omega, rfl, HO⟩
  case round =>
    obtain ⟨k, hk, rfl, HS⟩ := hrel
    by_cases hlt : k < n
    · have hbool : decide ((k : Int) < (n : Int)) = true := by simpa using hlt
      have hbool2 : decide (k < n) = true := by simpa using hlt
      have hi0 : (k : Int) < (l.length : Int) := by omega
      obtain ⟨O, V, VH, h1, h2, h3⟩ := HS.out.ex
      obtain ⟨a, g, o, hak, rfl, _, hrow⟩ := act_k HL.out HF.out (k := k) (by omega)
      have hr := hrow wr h1.bel
      have hk60 : k ≤ 60 := by have := HF.out.1; omega
      have HC := Lib.hid (do_any a h1 (h2.ok (by omega)) HT.out hak.msg hak.ds hak.seq)
      have HI := Lib.hid (And.intro h2 (And.intro h3 (And.intro hak hlt)))
      obtain ⟨ca, hca⟩ : ∃ ca, ca = actL a := ⟨_, rfl⟩
      have hsz : (Tryd.prog.info? 51).map (·.size) = some ca.length := by rw [hca]; kernel_rfl
      rw [← hca] at HC hr
      have HR := Lib.hid (And.intro hr hsz)
      clear hca hr hrow hak h1 h2 h3 hsz HS HO hk hk60 hlt
      go_wp2_with (first
        | (with_reducible refine wpList_load_mid rfl 51 (.tmp 43) rfl g (o + k * 10) rfl ca _ HR.out.1 Tryd.underlying51 rfl HR.out.2 ?_)
        | fail)
      have HC2 := Lib.hid (show Calls Tryd.prog 31 #[.pointer (some ⟨B, 0, none⟩), .agg ca.toArray] wr _ from HC.out)
      refine HC2.out.mono ?_
      rintro e w4 ⟨L, O', v4, q1, rfl, q3, V', U', q4, q5, q6, q7, q8⟩
      obtain ⟨L4, q9, _⟩ := q3
      obtain ⟨ad4, c4, rfl⟩ := ownForm q9
      have HE := Lib.hid (show CpSt w B D Z (k + 1) w4 from ⟨O', V', U', q4, q1.inv HI.out.1 HI.out.2.2.1.ds, (q1.rel HI.out.2.1 q1).1⟩)
      have HLT := Lib.hid HI.out.2.2.2
      clear q1 q4 q5 q6 q7 q8 q9 HC HC2 HI HR
      go_wp2_with fail
      exact ⟨⟨k + 1, HLT.out, by go_num, HE⟩, by have := HLT.out; simp [intOf]; omega⟩
    · have hbool : decide ((k : Int) < (n : Int)) = false := by simpa using hlt
      have hbool2 : decide (k < n) = false := by simpa using hlt
      obtain rfl : k = n := by omega
      obtain ⟨C, V, VH, h1, h2, h3⟩ := HS.out.ex
      have hk60 : k ≤ 60 := by have := HF.out.1; omega
      have HC := Lib.hid (h1.copy (h2.ok (by omega)))
      have HI := Lib.hid (And.intro h2 (And.intro h3 hk60))
      clear h1 h2 h3 HS HO hk hk60 hnl
      go_wp2_with fail
      refine HC.out.mono ?_
      rintro e w4 ⟨N, E, F, rfl, htw, hb4⟩
      have HR4 := Lib.hid (htw.rest1 (HI.out.1.ok (by have := HI.out.2.2; omega)))
      have HTW := Lib.hid htw
      clear htw hb4 HC
      go_wp2_with fail
      refine HR4.out.mono ?_
      rintro e w5 ⟨u5, rfl, hr5, hb5⟩
      obtain ⟨M5, m5, p5, o5⟩ := hr5
      obtain ⟨a5, c5, rfl⟩ := ownForm m5
      have htw5 := HTW.out.below hb5
      have HL5 := Lib.hid htw5.last1
      have HT5 := Lib.hid (And.intro htw5 (And.intro m5 (And.intro p5 (And.intro o5 hb5))))
      clear m5 p5 o5 htw5 hb5 HR4
      go_wp2_with fail
      refine HL5.out.mono ?_
      rintro e w6 ⟨rfl, hb6⟩
      obtain ⟨LK, hLK⟩ : ∃ x, x = w6.heap.size := ⟨_, rfl⟩
      obtain ⟨w7, hw7⟩ : ∃ w7, w7 = w6.alloc (.cells #[.int .u64 (C.ls : Int), .int .i64 C.lf] 38) := ⟨_, rfl⟩
      have hx7 : w7.heap[LK]? = some (.cells #[.int .u64 (C.ls : Int), .int .i64 C.lf] 38 (0, 0)) := by rw [hw7, hLK]; exact heap_alloc_new w6 _
      have hb7 : Below w6.heap.size w6 w7 := by rw [hw7]; exact ba (br w6) _
      have HW7 := Lib.hid (And.intro hw7 hLK)
      have HX0 := Lib.hid (show CpX w B D Z N E F C C l k (fun b => b = LK ∨ (Value.slice a5 M5.length c5).ownBlock = some b) (fun W => RowO w.heap.size W (.slice a5 M5.length c5) C.rest ∧ W.heap[LK]? = some (.cells #[.int .u64 (C.ls : Int), .int .i64 C.lf] 38 (0, 0))) nilS 0 k w7 from by
        obtain ⟨t1, t2, t3, t4, t5⟩ := HT5.out
        have hb67 := bt hb6 hb7
        have hs4 := HTW.out.bel.size
        refine ⟨C, [], [], HTW.out.add (bt t5 hb67) (fun b hb => .inr ?_), by rw [Nat.sub_self, List.take_zero]; exact Run.nil C, ⟨rfl, .inl ⟨rfl, rfl⟩⟩, rfl, (fun m hm => by cases hm), ⟨⟨M5, own_base (own_keptS t2 (Kept.of_below (S := fun _ => False) hb67) (fun _ _ h => h)) (fun q hq => by have := (t2.lt q hq).1; omega), t3, fun m hm => ?_⟩, hx7⟩, (fun b hb => by cases hb), rfl, Nat.zero_le _⟩
        · have z5 := t5.size
          have z6 := hb6.size
          have z7 := (Array.getElem?_eq_some_iff.1 hx7).1
          rcases hb with (e | e) | e
          · exact ⟨by omega, by omega⟩
          · have := t2.lt b e
            exact ⟨this.1, by have := this.2; have := hb7.size; omega⟩
          · cases e
        · obtain ⟨x1, x2, x3⟩ := (t4.keptC (Kept.of_below (S := fun _ => False) hb67) (fun _ h => h.elim)) m hm
          exact ⟨x1, x2, fun ad e1 e2 => Nat.le_trans hs4 (x3 ad e1 e2)⟩)
      clear hLK hw7 hx7 hb7 hb6 HTW HT5 HL5
      go_upto_region 13 with (fail)
      rw [← HW7.out.1, ← HW7.out.2]
      clear HW7
      have hnl := HN.out
      obtain ⟨G, hG⟩ : ∃ G : Nat → Prop, G = fun b => b = LK ∨ (Value.slice a5 M5.length c5).ownBlock = some b := ⟨_, rfl⟩
      obtain ⟨P, hP⟩ : ∃ P : World → Prop, P = fun W => RowO w.heap.size W (.slice a5 M5.length c5) C.rest ∧ W.heap[LK]? = some (.cells #[.int .u64 (C.ls : Int), .int .i64 C.lf] 38 (0, 0)) := ⟨_, rfl⟩
      rw [← hG, ← hP] at HX0
      have HGP := Lib.hid (And.intro hG hP)
      have HPK := Lib.hid (show ∀ w1 w2, P w1 → Keep G w1 w2 → P w2 from fun w1 w2 hp hk => by
        rw [hP] at hp ⊢
        exact ⟨hp.1.keep hk (fun b hb => by rw [hG]; exact .inr hb), hk.keep (by rw [hG]; exact .inl rfl) hp.2⟩)
      clear hG hP
      go_wp2_with fail
      go_loopw [13, 15] (fun x i wr => ∃ j : Nat, k ≤ j ∧ j ≤ l.length ∧ i = .int .i64 (j : Int) ∧ ∃ n, Hid (CpX w B D Z N E F C C l k G P x n j wr)) (fun _ i _ => l.length - (intOf i).toNat)
      case atStart => exact ⟨k, Nat.le_refl _, hnl, rfl, 0, HX0⟩
      case round =>
        obtain ⟨j, hkj, hj, rfl, n, HX⟩ := hrel
        by_cases hlt : j < l.length
        · have hbool : decide ((j : Int) < (l.length : Int)) = true := by simpa using hlt
          have hbool2 : decide (j < l.length) = true := by simpa using hlt
          have hi0 : (j : Int) < (l.length : Int) := by omega
          obtain ⟨O, L, X, t1, t2, t3, t4, t5, t6, t7, rfl, t8⟩ := HX.out.ex
          obtain ⟨a, g, o, hak, rfl, _, hrow⟩ := act_k HL.out HF.out (k := j) hlt
          have hr := hrow wr t1.bel
          have hl60 := HF.out.1
          have hlen : ((l.drop k).take (j - k)).length = j - k := by rw [List.length_take, List.length_drop]; omega
          have hi := t2.inv HI.out.1 (fun a ha => (HF.out.2 a (List.mem_of_mem_drop (List.mem_of_mem_take ha))).2)
          rw [hlen, show k + (j - k) = j by omega] at hi
          have hok := hi.ok (show j ≤ 1000 by omega)
          have HC := Lib.hid (t1.do1 a hok HT.out hak.msg hak.ds hak.seq)
          have HK := Lib.hid (And.intro t2 (And.intro t3 (And.intro t4 (And.intro t5 (And.intro t6 (And.intro t7 (And.intro t8 (And.intro hak (And.intro hok (And.intro hkj (And.intro hlt (And.intro hl60 t1.bel))))))))))))
          obtain ⟨ca, hca⟩ : ∃ ca, ca = actL a := ⟨_, rfl⟩
          have hsz : (Tryd.prog.info? 51).map (·.size) = some ca.length := by rw [hca]; kernel_rfl
          rw [← hca] at HC hr
          have HR := Lib.hid (And.intro hr hsz)
          obtain ⟨ax, cx, rfl⟩ := ownForm t3
          obtain ⟨i0, hi', hz0, hz1, hz2⟩ := info_parts info42
          clear hca hr hrow hak t1 t2 t3 t4 t5 t6 t7 t8 hi hok hlen hl60 hsz HX HX0 hkj hj hlt hnl
          go_wp2_with (first
            | (with_reducible refine wpList_load_mid rfl 51 (.tmp 64) rfl g (o + j * 10) rfl ca _ HR.out.1 Tryd.underlying51 rfl HR.out.2 ?_)
            | fail)
          refine HC.out.mono ?_
          rintro e w8 ⟨L8, O8, v8, q1, rfl, ⟨M8, q2, q3, q4⟩, q5, q6⟩
          obtain ⟨a8, c8, rfl⟩ := ownForm q2
          have hcl8 : M8.length = L8.length := by simpa using congrArg List.length q3
          have hd8 : M8.length ≤ 6464000 := by have := q1.len HK.out.2.2.2.2.2.2.2.2.1; omega
          have hx8 : X.length ≤ 387840000 := by
            have h1 := HK.out.2.2.2.2.2.2.1
            have h2 := HK.out.2.2.2.2.2.2.2.2.2.1
            have h3 := HK.out.2.2.2.2.2.2.2.2.2.2.1
            have h4 := HK.out.2.2.2.2.2.2.2.2.2.2.2.1
            omega
          have HBASE := Lib.hid (show w.heap.size ≤ w8.heap.size from q5.bel.size)
          have HOW := Lib.hid (show w8.ownsRow w.heap.size 42 6 (.slice ax X.length cx) X.length (rowsM X) from q6.row (fun b hb => .inr hb) HK.out.2.1)
          have HRD := Lib.hid (Reads.of_own q2)
          have HONE := Lib.hid (rowsM_one M8)
          have HQ := Lib.hid (And.intro q1 (And.intro q2 (And.intro q3 (And.intro q4 (And.intro q5 q6)))))
          obtain ⟨xl, hxl⟩ : ∃ x, x = X.length := ⟨_, rfl⟩
          obtain ⟨ml, hml⟩ : ∃ x, x = M8.length := ⟨_, rfl⟩
          rw [← hxl] at HOW hx8 ⊢
          rw [← hml] at HRD hd8 ⊢
          have HXM := Lib.hid (And.intro hxl hml)
          clear q1 q2 q3 q4 q5 q6 HC HR hcl8 hxl hml
          go_wp2_with (first
            | (at_builtin; refine wpList_append_any _ rfl (.tmp 59) (.tmp 66) 27 rfl w.heap.size 42 i0 _ 6 72 Tryd.underlying27 hi' hz0 hz1 hz2 rfl (by decide) _ xl _ rfl HOW.out _ _ ml _ (rowsM M8) rfl HRD.out HONE.out (by unfold maxLen; omega) (by omega) (by exact HBASE.out) ?_)
            | fail)
          intro v9 w9 ho9 hg9 hu9
          obtain ⟨q1, q2, q3, q4, q5, q6⟩ := HQ.out
          have hKg : Kept (fun b => (Value.slice ax xl cx).ownBlock = some b) w8 w9 := (Kept.of_grown' hg9).more fun q _ e => by
            obtain ⟨b, hb, rfl⟩ := e
            exact hb
          have hob : (Value.slice ax xl cx).ownBlock = (Value.slice ax X.length cx).ownBlock := by rw [HXM.out.1]
          have cr := calm_row HOW.out
          have hkp : Keep G w8 w9 := ⟨_, hKg, cr, fun b hb e => HK.out.2.2.2.2.2.1 b (by rw [← hob]; exact e) hb⟩
          have hxo : ∀ b, (Value.slice ax xl cx).ownBlock = some b → w.heap.size ≤ b := fun b hb => (HOW.out.lt b hb).1
          have hGs : ∀ b, G b → b < w8.heap.size := fun b hb => by
            obtain ⟨_, _, _, _, _, _, _, z⟩ := q5.ex
            exact (z b (.inl (.inl hb))).2.2
          have HE := Lib.hid (show CpX w B D Z N E F C C l k G P v9 (xl + ml) (j + 1) w9 from by
            refine ⟨O8, L ++ L8, X ++ M8, q5.grown hKg cr (fun b hb => ⟨.inl (.inr (by rw [← hob]; exact hb)), hxo b hb⟩) (fun b hb => ?_), by rw [run_take HK.out.2.2.2.2.2.2.2.2.2.1 HK.out.2.2.2.2.2.2.2.1.at_]; exact Run.snoc HK.out.1 q1, ?_, by rw [List.map_append, List.map_append, HK.out.2.2.1, q3], fun m hm => ?_, HPK.out _ _ (HPK.out _ _ HK.out.2.2.2.2.1 (q6.mono (fun b hb => .inl hb))) hkp, fun b hb hg => ?_, ?_, ?_⟩
            · rcases hb with hb | hb
              · exact .inl (.inl (.inl hb))
              · rcases hu9 with e | e
                · exact .inl (.inl (.inr (by rw [← hob, ← e]; exact hb)))
                · rw [e] at hb
                  injection hb with hb
                  have := (ho9.lt b (by rw [e, hb])).2
                  exact .inr ⟨by omega, this⟩
            · rw [List.length_append, ← HXM.out.1, ← HXM.out.2, show rowsM (X ++ M8) = rowsM X ++ rowsM M8 from by unfold rowsM; simp]
              exact ho9
            · rcases List.mem_append.1 hm with hm | hm
              · exact ((q6.outs HK.out.2.2.2.1).keptC hKg cr) m hm
              · obtain ⟨x1, x2, x3⟩ := (q4.keptC hKg cr) m hm
                exact ⟨x1, x2, fun ad e1 e2 => Nat.le_trans HK.out.2.2.2.2.2.2.2.2.2.2.2.2.size (x3 ad e1 e2)⟩
            · rcases hu9 with e | e
              · exact HK.out.2.2.2.2.2.1 b (by rw [← hob, ← e]; exact hb) hg
              · rw [e] at hb
                injection hb with hb
                have := hGs b hg
                omega
            · rw [List.length_append, HXM.out.1, HXM.out.2]
            · have h1 := HK.out.2.2.2.2.2.2.1
              have h2 := HK.out.2.2.2.2.2.2.2.2.2.1
              rw [List.length_append, ← HXM.out.2, show j + 1 - k = (j - k) + 1 by omega, Nat.succ_mul]
              omega)
          have HLT := Lib.hid HK.out.2.2.2.2.2.2.2.2.2.2.1
          have HKJ := Lib.hid HK.out.2.2.2.2.2.2.2.2.2.1
          obtain ⟨a9, c9, rfl⟩ := ownForm ho9
          clear hob hKg cr hkp hxo hGs q1 q2 q3 q4 q5 q6 HQ HK HOW HRD HONE ho9 hg9 hu9 hx8 hd8
          go_wp2_with fail
          exact ⟨⟨j + 1, by have := HKJ.out; omega, HLT.out, by go_num, _, HE⟩, by have := HLT.out; simp [intOf]; omega⟩
        · have hbool : decide ((j : Int) < (l.length : Int)) = false := by simpa using hlt
          have hbool2 : decide (j < l.length) = false := by simpa using hlt
          obtain rfl : j = l.length := by omega
          obtain ⟨O, L, X, t1, t2, t3, t4, t5, t6, t7, rfl, t8⟩ := HX.out.ex
          obtain ⟨ax, cx, rfl⟩ := ownForm t3
          have hpp := t6
          rw [HGP.out.2] at hpp
          have hkc := hpp.2
          have lK := (Array.getElem?_eq_some_iff.1 hkc).1
          have hS0 : wr.drew.rangeAt LK 0 [.int .u64 (C.ls : Int), .int .i64 C.lf] := fun j u hu => by
            rw [Nat.zero_add]
            exact (cell_of_row _ _ j _ _ _ (show wr.drew.heap[LK]? = _ from hkc)).trans (by simpa using hu)
          have htd := t1.below (br wr).drew
          have HZ := Lib.hid (And.intro t1 (And.intro t2 (And.intro t3 (And.intro t4 (And.intro t5 (And.intro t6 (And.intro t7 (And.intro t8 hpp))))))))
          clear t1 t2 t3 t4 t5 t6 t7 t8 hpp hkc lK htd HX HX0 hkj hj hlt hnl
          go_upto_region 18 with (fail)
          refine wp_region_mask (fun w' => w'.rangeAt LK 0 [.int .u64 (C.ls : Int), .int .i64 C.lf]) 10 9 [true, false, true, false, false, false, false, false, false, false, false] #[true, false, true, false, false, false, false, false, false, false, false] (by kernel_rfl) (by kernel_rfl) (by kernel_rfl) hS0 ?_
          have hbW : Below wr.heap.size wr wr.drew := (br wr).drew
          have HBW := Lib.hid hbW
          have HS0 := Lib.hid hS0
          clear hbW hS0
          generalize wr.drew = W at *
          have htw := (HZ.out.1.below HBW.out).symm
          have HRC := Lib.hid (htw.rest1 (HI.out.1.ok (by have := HI.out.2.2; omega)))
          clear htw
          refine wpMask_take _ (Or.inl ⟨by rfl, fun w' hS => by (try dsimp only at hS); clear hS; go_simp; try with_reducible rfl⟩) ?_
          simp only [Act.put, List.setIfInBounds_toArray, List.set_cons_zero, List.set_cons_succ]
          refine wpMask_skip ?_
          refine wpMask_take _ (Or.inl ⟨by rfl, fun w' hS => by (try dsimp only at hS); clear hS; go_simp; try with_reducible rfl⟩) ?_
          simp only [Act.put, List.setIfInBounds_toArray, List.set_cons_zero, List.set_cons_succ]
          refine wpMask_skip (wpMask_skip (wpMask_skip (wpMask_skip (wpMask_skip (wpMask_skip (wpMask_skip (wpMask_skip (wpMask_nil ?_))))))))
          refine wpAnyS_ready (rs := [1]) (by kernel_rfl) (by simp) ?_
          refine AllReadyS.cons rfl (fun K hK => ?_) AllReadyS.nil
          go_simp
          refine HRC.out.mono ?_
          rintro e w10 ⟨u10, rfl, hr10, hb10⟩
          obtain ⟨M10, m10, p10, o10⟩ := hr10
          obtain ⟨a10, c10, rfl⟩ := ownForm m10
          obtain ⟨R5, r5, z5, y5⟩ := HZ.out.2.2.2.2.2.2.2.2.1
          have hms5 : MsgsAt wr (.slice a5 M5.length c5) R5 := by
            obtain ⟨_, _, ee⟩ := ownForm r5
            injection ee with _ ee _
            rw [ee]
            rw [ee] at r5
            exact (RowsAt.of_own r5).rowsIn.msgsAt (own_len r5) (fun m hm => (y5 m hm).1)
          have hall := All_any _ _ M10 R5 w10 ((RowsAt.of_own m10).rowsIn.msgsAt (own_len m10) (fun m hm => (o10 m hm).1)) (hms5.below (bt HBW.out hb10))
          rw [allM_core (by rw [p10, z5])] at hall
          have HAll := Lib.hid hall
          have hS10 : w10.rangeAt LK 0 [.int .u64 (C.ls : Int), .int .i64 C.lf] := fun j u hu => (hb10.cell (p := ⟨LK, 0 + j, none⟩) (Nat.lt_of_lt_of_le (Array.getElem?_eq_some_iff.1 HZ.out.2.2.2.2.2.2.2.2.2).1 HBW.out.size)).trans (HS0.out j u hu)
          have HS10 := Lib.hid hS10
          have HB10 := Lib.hid (bt HBW.out hb10)
          refine hK.out _ _ (fun _ => hS10) ?_
          clear hK K HRC m10 p10 o10 r5 z5 y5 hms5 hall hS10 hb10
          simp only [Act.put, List.getElem_toArray, List.getElem_cons_succ, List.getElem_cons_zero, List.setIfInBounds_toArray, List.set_cons_zero, List.set_cons_succ]
          refine wpAnyS_ready (rs := [3]) (by kernel_rfl) (by simp) ?_
          refine AllReadyS.cons rfl (fun K hK => ?_) AllReadyS.nil
          go_simp
          refine HAll.out.mono ?_
          rintro e w11 ⟨rfl, hb11⟩
          have hS11 : w11.rangeAt LK 0 [.int .u64 (C.ls : Int), .int .i64 C.lf] := fun j u hu => (hb11.cell (p := ⟨LK, 0 + j, none⟩) (Nat.lt_of_lt_of_le (Array.getElem?_eq_some_iff.1 HZ.out.2.2.2.2.2.2.2.2.2).1 HB10.out.size)).trans (HS10.out j u hu)
          have HS11 := Lib.hid hS11
          have HB11 := Lib.hid (bt HB10.out hb11)
          refine hK.out _ _ (fun _ => hS11) ?_
          clear hK K HAll hS11 hb11
          simp only [Act.put, List.getElem_toArray, List.getElem_cons_succ, List.getElem_cons_zero, List.setIfInBounds_toArray, List.set_cons_zero, List.set_cons_succ]
          refine wpAnyS_ready (rs := [4]) (by kernel_rfl) (by simp) ?_
          refine AllReadyS.cons rfl (fun K hK => ?_) AllReadyS.nil
          go_simp
          refine hK.out _ _ (fun _ => HS11.out) ?_
          clear hK K
          simp only [Act.put, List.getElem_toArray, List.getElem_cons_succ, List.getElem_cons_zero, List.setIfInBounds_toArray, List.set_cons_zero, List.set_cons_succ]
          refine wpAnyS_ready (rs := [5]) (by kernel_rfl) (by simp) ?_
          refine AllReadyS.cons rfl (fun K hK => ?_) AllReadyS.nil
          go_simp
          refine hK.out _ _ (fun _ => HS11.out) ?_
          clear hK K
          simp only [Act.put, List.getElem_toArray, List.getElem_cons_succ, List.getElem_cons_zero, List.setIfInBounds_toArray, List.set_cons_zero, List.set_cons_succ]
          have HL11 := Lib.hid (show Calls Tryd.prog 22 #[.pointer (some ⟨N, 0, none⟩)] w11 _ from (HZ.out.1.below HB11.out).symm.last1)
          refine wpAnyS_take (i := 8) _ rfl (by kernel_rfl) (yieldsIf_load_mid (by rfl) 38 (.tmp 12) rfl LK 0 rfl [.int .u64 (C.ls : Int), .int .i64 C.lf] _ (fun w' hS => hS) Tryd.underlying38 rfl (by kernel_rfl)) HS11.out ?_
          simp only [Act.put, List.getElem_toArray, List.getElem_cons_succ, List.getElem_cons_zero, List.setIfInBounds_toArray, List.set_cons_zero, List.set_cons_succ]
          refine wpAnyS_ready (rs := [6]) (by kernel_rfl) (by simp) ?_
          refine AllReadyS.cons rfl (fun K hK => ?_) AllReadyS.nil
          go_simp
          refine hK.out _ _ (fun _ => HS11.out) ?_
          clear hK K
          simp only [Act.put, List.getElem_toArray, List.getElem_cons_succ, List.getElem_cons_zero, List.setIfInBounds_toArray, List.set_cons_zero, List.set_cons_succ]
          refine wpAnyS_ready (rs := [7]) (by kernel_rfl) (by simp) ?_
          refine AllReadyS.cons rfl (fun K hK => ?_) AllReadyS.nil
          go_simp
          refine HL11.out.mono ?_
          rintro e w12 ⟨rfl, hb12⟩
          have hS12 : w12.rangeAt LK 0 [.int .u64 (C.ls : Int), .int .i64 C.lf] := fun j u hu => (hb12.cell (p := ⟨LK, 0 + j, none⟩) (Nat.lt_of_lt_of_le (Array.getElem?_eq_some_iff.1 HZ.out.2.2.2.2.2.2.2.2.2).1 HB11.out.size)).trans (HS11.out j u hu)
          have HS12 := Lib.hid hS12
          have HB12 := Lib.hid (bt HB11.out hb12)
          refine hK.out _ _ (fun _ => hS12) ?_
          clear hK K HL11 hS12 hb12
          simp only [Act.put, List.getElem_toArray, List.getElem_cons_succ, List.getElem_cons_zero, List.setIfInBounds_toArray, List.set_cons_zero, List.set_cons_succ]
          refine wpAnyS_ready (rs := [9]) (by kernel_rfl) (by simp) ?_
          refine AllReadyS.cons rfl (fun K hK => ?_) AllReadyS.nil
          go_simp
          refine hK.out _ _ (fun _ => HS12.out) ?_
          clear hK K
          simp only [Act.put, List.getElem_toArray, List.getElem_cons_succ, List.getElem_cons_zero, List.setIfInBounds_toArray, List.set_cons_zero, List.set_cons_succ]
          refine wpAnyS_ready (rs := [10]) (by kernel_rfl) (by simp) ?_
          refine AllReadyS.cons rfl (fun K hK => ?_) AllReadyS.nil
          go_simp
          refine hK.out _ _ (fun h => absurd h (by decide)) ?_
          clear hK K
          simp only [Act.put, List.getElem_toArray, List.getElem_cons_succ, List.getElem_cons_zero, List.setIfInBounds_toArray, List.set_cons_zero, List.set_cons_succ]
          refine wpAnyS_done (by kernel_rfl) ?_ _
          have HX2 := Lib.hid (show CpX w N E F B D Z C O l k (fun b => (Value.slice ax X.length cx).ownBlock = some b) (fun W => RowO w.heap.size W (.slice ax X.length cx) L) nilS 0 k w12 from by
            obtain ⟨t1, t2, t3, t4, t5, t6, t7, t8, hpp⟩ := HZ.out
            refine ⟨C, [], [], ((t1.below HB12.out).symm).mono (fun b hb => ?_), by rw [Nat.sub_self, List.take_zero]; exact Run.nil C, ⟨rfl, .inl ⟨rfl, rfl⟩⟩, rfl, (fun m hm => by cases hm), ⟨X, own_keptS t3 (Kept.of_below (S := fun _ => False) HB12.out) (fun _ _ h => h), t4, t5.keptC (Kept.of_below (S := fun _ => False) HB12.out) (fun _ h => h.elim)⟩, (fun b hb => by cases hb), rfl, Nat.zero_le _⟩
            rcases hb with e | e
            · exact .inr e
            · cases e)
          have HR2 := Lib.hid HZ.out.2.1
          have hnl := HN.out
          obtain ⟨sx, hsx⟩ : ∃ x, x = X.length := ⟨_, rfl⟩
          obtain ⟨G2, hG2⟩ : ∃ G2 : Nat → Prop, G2 = fun b => (Value.slice ax X.length cx).ownBlock = some b := ⟨_, rfl⟩
          obtain ⟨P2, hP2⟩ : ∃ P2 : World → Prop, P2 = fun W => RowO w.heap.size W (.slice ax X.length cx) L := ⟨_, rfl⟩
          rw [← hG2, ← hP2] at HX2
          have HGP2 := Lib.hid (And.intro hG2 (And.intro hP2 hsx))
          have HPK2 := Lib.hid (show ∀ w1 w2, P2 w1 → Keep G2 w1 w2 → P2 w2 from fun w1 w2 hp hk => by
            rw [hP2] at hp ⊢
            exact hp.keep hk (fun b hb => by rw [hG2]; exact hb))
          rw [← hsx]
          clear hG2 hP2 hsx HZ HB12 HS12 HS11 HB11 HS10 HB10 HS0 HBW HPK HGP
          go_wp2_with fail
          go_loopw [14, 16] (fun y i wr2 => ∃ j : Nat, k ≤ j ∧ j ≤ l.length ∧ i = .int .i64 (j : Int) ∧ ∃ n, Hid (CpX w N E F B D Z C O l k G2 P2 y n j wr2)) (fun _ i _ => l.length - (intOf i).toNat)
          case atStart => exact ⟨k, Nat.le_refl _, hnl, rfl, 0, HX2⟩
          case round =>
            obtain ⟨j, hkj, hj, rfl, n, HX⟩ := hrel
            by_cases hlt : j < l.length
            · have hbool : decide ((j : Int) < (l.length : Int)) = true := by simpa using hlt
              have hbool2 : decide (j < l.length) = true := by simpa using hlt
              have hi0 : (j : Int) < (l.length : Int) := by omega
              obtain ⟨O', L', X', t1, t2, t3, t4, t5, t6, t7, rfl, t8⟩ := HX.out.ex
              obtain ⟨a, g, o, hak, rfl, _, hrow⟩ := act_k HL.out HF.out (k := j) hlt
              have hr := hrow wr t1.bel
              have hl60 := HF.out.1
              have hlen : ((l.drop k).take (j - k)).length = j - k := by rw [List.length_take, List.length_drop]; omega
              have hi := t2.inv HI.out.1 (fun a ha => (HF.out.2 a (List.mem_of_mem_drop (List.mem_of_mem_take ha))).2)
              rw [hlen, show k + (j - k) = j by omega] at hi
              have hok := hi.ok (show j ≤ 1000 by omega)
              have HC := Lib.hid (t1.do1 a hok HT.out hak.msg hak.ds hak.seq)
              have HK := Lib.hid (And.intro t2 (And.intro t3 (And.intro t4 (And.intro t5 (And.intro t6 (And.intro t7 (And.intro t8 (And.intro hak (And.intro hok (And.intro hkj (And.intro hlt (And.intro hl60 t1.bel))))))))))))
              obtain ⟨ca, hca⟩ : ∃ ca, ca = actL a := ⟨_, rfl⟩
              have hsz : (Tryd.prog.info? 51).map (·.size) = some ca.length := by rw [hca]; kernel_rfl
              rw [← hca] at HC hr
              have HR := Lib.hid (And.intro hr hsz)
              obtain ⟨ay, cy, rfl⟩ := ownForm t3
              obtain ⟨i0, hi', hz0, hz1, hz2⟩ := info_parts info42
              clear hca hr hrow hak t1 t2 t3 t4 t5 t6 t7 t8 hi hok hlen hl60 hsz HX HX2 hkj hj hlt hnl
              go_wp2_with (first
                | (with_reducible refine wpList_load_mid rfl 51 (.tmp 91) rfl g (o + j * 10) rfl ca _ HR.out.1 Tryd.underlying51 rfl HR.out.2 ?_)
                | fail)
              refine HC.out.mono ?_
              rintro e w8 ⟨L8, O8, v8, q1, rfl, ⟨M8, q2, q3, q4⟩, q5, q6⟩
              obtain ⟨a8, c8, rfl⟩ := ownForm q2
              have hcl8 : M8.length = L8.length := by simpa using congrArg List.length q3
              have hd8 : M8.length ≤ 6464000 := by have := q1.len HK.out.2.2.2.2.2.2.2.2.1; omega
              have hx8 : X'.length ≤ 387840000 := by
                have h1 := HK.out.2.2.2.2.2.2.1
                have h2 := HK.out.2.2.2.2.2.2.2.2.2.1
                have h3 := HK.out.2.2.2.2.2.2.2.2.2.2.1
                have h4 := HK.out.2.2.2.2.2.2.2.2.2.2.2.1
                omega
              have HBASE := Lib.hid (show w.heap.size ≤ w8.heap.size from q5.bel.size)
              have HOW := Lib.hid (show w8.ownsRow w.heap.size 42 6 (.slice ay X'.length cy) X'.length (rowsM X') from q6.row (fun b hb => .inr hb) HK.out.2.1)
              have HRD := Lib.hid (Reads.of_own q2)
              have HONE := Lib.hid (rowsM_one M8)
              have HQ := Lib.hid (And.intro q1 (And.intro q2 (And.intro q3 (And.intro q4 (And.intro q5 q6)))))
              obtain ⟨xl, hxl⟩ : ∃ x, x = X'.length := ⟨_, rfl⟩
              obtain ⟨ml, hml⟩ : ∃ x, x = M8.length := ⟨_, rfl⟩
              rw [← hxl] at HOW hx8 ⊢
              rw [← hml] at HRD hd8 ⊢
              have HXM := Lib.hid (And.intro hxl hml)
              clear q1 q2 q3 q4 q5 q6 HC HR hcl8 hxl hml
              go_wp2_with (first
                | (at_builtin; refine wpList_append_any _ rfl (.tmp 86) (.tmp 93) 27 rfl w.heap.size 42 i0 _ 6 72 Tryd.underlying27 hi' hz0 hz1 hz2 rfl (by decide) _ xl _ rfl HOW.out _ _ ml _ (rowsM M8) rfl HRD.out HONE.out (by unfold maxLen; omega) (by omega) (by exact HBASE.out) ?_)
                | fail)
              intro v9 w9 ho9 hg9 hu9
              obtain ⟨q1, q2, q3, q4, q5, q6⟩ := HQ.out
              have hKg : Kept (fun b => (Value.slice ay xl cy).ownBlock = some b) w8 w9 := (Kept.of_grown' hg9).more fun q _ e => by
                obtain ⟨b, hb, rfl⟩ := e
                exact hb
              have hob : (Value.slice ay xl cy).ownBlock = (Value.slice ay X'.length cy).ownBlock := by rw [HXM.out.1]
              have cr := calm_row HOW.out
              have hkp : Keep G2 w8 w9 := ⟨_, hKg, cr, fun b hb e => HK.out.2.2.2.2.2.1 b (by rw [← hob]; exact e) hb⟩
              have hxo : ∀ b, (Value.slice ay xl cy).ownBlock = some b → w.heap.size ≤ b := fun b hb => (HOW.out.lt b hb).1
              have hGs : ∀ b, G2 b → b < w8.heap.size := fun b hb => by
                obtain ⟨_, _, _, _, _, _, _, z⟩ := q5.ex
                exact (z b (.inl (.inl hb))).2.2
              have HE := Lib.hid (show CpX w N E F B D Z C O l k G2 P2 v9 (xl + ml) (j + 1) w9 from by
                refine ⟨O8, L' ++ L8, X' ++ M8, q5.grown hKg cr (fun b hb => ⟨.inl (.inr (by rw [← hob]; exact hb)), hxo b hb⟩) (fun b hb => ?_), by rw [run_take HK.out.2.2.2.2.2.2.2.2.2.1 HK.out.2.2.2.2.2.2.2.1.at_]; exact Run.snoc HK.out.1 q1, ?_, by rw [List.map_append, List.map_append, HK.out.2.2.1, q3], fun m hm => ?_, HPK2.out _ _ (HPK2.out _ _ HK.out.2.2.2.2.1 (q6.mono (fun b hb => .inl hb))) hkp, fun b hb hg => ?_, ?_, ?_⟩
                · rcases hb with hb | hb
                  · exact .inl (.inl (.inl hb))
                  · rcases hu9 with e | e
                    · exact .inl (.inl (.inr (by rw [← hob, ← e]; exact hb)))
                    · rw [e] at hb
                      injection hb with hb
                      have := (ho9.lt b (by rw [e, hb])).2
                      exact .inr ⟨by omega, this⟩
                · rw [List.length_append, ← HXM.out.1, ← HXM.out.2, show rowsM (X' ++ M8) = rowsM X' ++ rowsM M8 from by unfold rowsM; simp]
                  exact ho9
                · rcases List.mem_append.1 hm with hm | hm
                  · exact ((q6.outs HK.out.2.2.2.1).keptC hKg cr) m hm
                  · obtain ⟨x1, x2, x3⟩ := (q4.keptC hKg cr) m hm
                    exact ⟨x1, x2, fun ad e1 e2 => Nat.le_trans HK.out.2.2.2.2.2.2.2.2.2.2.2.2.size (x3 ad e1 e2)⟩
                · rcases hu9 with e | e
                  · exact HK.out.2.2.2.2.2.1 b (by rw [← hob, ← e]; exact hb) hg
                  · rw [e] at hb
                    injection hb with hb
                    have := hGs b hg
                    omega
                · rw [List.length_append, HXM.out.1, HXM.out.2]
                · have h1 := HK.out.2.2.2.2.2.2.1
                  have h2 := HK.out.2.2.2.2.2.2.2.2.2.1
                  rw [List.length_append, ← HXM.out.2, show j + 1 - k = (j - k) + 1 by omega, Nat.succ_mul]
                  omega)
              have HLT := Lib.hid HK.out.2.2.2.2.2.2.2.2.2.2.1
              have HKJ := Lib.hid HK.out.2.2.2.2.2.2.2.2.2.1
              obtain ⟨a9, c9, rfl⟩ := ownForm ho9
              clear hob hKg cr hkp hxo hGs q1 q2 q3 q4 q5 q6 HQ HK HOW HRD HONE ho9 hg9 hu9 hx8 hd8
              go_wp2_with fail
              exact ⟨⟨j + 1, by have := HKJ.out; omega, HLT.out, by go_num, _, HE⟩, by have := HLT.out; simp [intOf]; omega⟩
            · have hbool : decide ((j : Int) < (l.length : Int)) = false := by simpa using hlt
              have hbool2 : decide (j < l.length) = false := by simpa using hlt
              obtain rfl : j = l.length := by omega
              obtain ⟨O2, L2, X2, t1, t2, t3, t4, t5, t6, t7, rfl, t8⟩ := HX.out.ex
              obtain ⟨ay, cy, rfl⟩ := ownForm t3
              have hl60 := HF.out.1
              have hlen : ((l.drop k).take (l.length - k)).length = l.length - k := by rw [List.length_take, List.length_drop]; omega
              have hds : ∀ a ∈ (l.drop k).take (l.length - k), a.m.ds.length ≤ 20000 := fun a ha => (HF.out.2 a (List.mem_of_mem_drop (List.mem_of_mem_take ha))).2
              have hi1 := HR2.out.inv HI.out.1 hds
              have hi2 := t2.inv HI.out.1 hds
              rw [hlen, show k + (l.length - k) = l.length by omega] at hi1 hi2
              obtain ⟨hrel2, hcor2⟩ := HR2.out.rel HI.out.2.1 t2
              rw [HGP2.out.2.1] at t6
              obtain ⟨X1, x1, x2, x3⟩ := t6
              have hx1l : X1.length = sx := by
                rw [HGP2.out.2.2]
                obtain ⟨_, _, ee⟩ := ownForm x1
                injection ee with _ ee _
                exact ee.symm
              have e1 : X.length = X1.length := HGP2.out.2.2.symm.trans hx1l.symm
              rw [e1] at x1
              have hmx : MsgsAt wr (.slice ax sx cx) X1 := by
                rw [← hx1l]
                exact (RowsAt.of_own x1).rowsIn.msgsAt (own_len x1) (fun m hm => (x3 m hm).1)
              have hmy : MsgsAt wr (.slice ay X2.length cy) X2 := (RowsAt.of_own t3).rowsIn.msgsAt (own_len t3) (fun m hm => (t5 m hm).1)
              have hall := All_any _ _ X1 X2 wr hmx hmy
              rw [allM_core (by rw [x2, t4, hcor2])] at hall
              have HAll := Lib.hid hall
              have HRN := Lib.hid (show ∀ W, Below wr.heap.size wr W → Calls Tryd.prog 23 #[.pointer (some ⟨N, 0, none⟩)] W _ from fun W hW => (t1.below hW).rest1 (hi2.ok (show l.length ≤ 1000 by omega)))
              have HRB := Lib.hid (show ∀ W, Below wr.heap.size wr W → Calls Tryd.prog 23 #[.pointer (some ⟨B, 0, none⟩)] W _ from fun W hW => (t1.below hW).symm.rest1 (hi1.ok (show l.length ≤ 1000 by omega)))
              have HLN := Lib.hid (show ∀ W, Below wr.heap.size wr W → Calls Tryd.prog 22 #[.pointer (some ⟨N, 0, none⟩)] W (fun e w' => e = .returned (.agg #[.int .u64 (O.ls : Int), .int .i64 O.lf]) ∧ Below W.heap.size W w') from fun W hW => by
                have := (t1.below hW).last1
                rw [hrel2.ls, hrel2.lf] at this
                exact this)
              have HLB := Lib.hid (show ∀ W, Below wr.heap.size wr W → Calls Tryd.prog 22 #[.pointer (some ⟨B, 0, none⟩)] W (fun e w' => e = .returned (.agg #[.int .u64 (O.ls : Int), .int .i64 O.lf]) ∧ Below W.heap.size W w') from fun W hW => (t1.below hW).symm.last1)
              have HCR := Lib.hid (show O2.rest.map core = O.rest.map core from hrel2.rest hi1)
              have HBE := Lib.hid t1.bel
              obtain ⟨sy, hsy⟩ : ∃ x, x = X2.length := ⟨_, rfl⟩
              rw [← hsy] at HAll ⊢
              clear hsy t1 t2 t3 t4 t5 t7 t8 x1 x2 x3 e1 hx1l hmx hmy hall hrel2 hcor2 hi1 hi2 hds hlen hl60 HX HX2 HR2 HGP2 HPK2 hkj hj hlt hnl
              go_wp2_with fail
              refine HAll.out.mono ?_
              rintro e w21 ⟨rfl, hb21⟩
              have HB21 := Lib.hid hb21
              clear hb21 HAll
              go_wp2_with fail
              refine (HRN.out _ HB21.out).mono ?_
              rintro e w22 ⟨u22, rfl, hr22, hb22⟩
              obtain ⟨M22, m22, p22, o22⟩ := hr22
              obtain ⟨a22, c22, rfl⟩ := ownForm m22
              have HM22 := Lib.hid (And.intro (show MsgsAt w22 (.slice a22 M22.length c22) M22 from (RowsAt.of_own m22).rowsIn.msgsAt (own_len m22) (fun m hm => (o22 m hm).1)) p22)
              have HB22 := Lib.hid (bt HB21.out hb22)
              clear m22 p22 o22 hb22 HB21 HRN
              go_wp2_with fail
              refine (HRB.out _ HB22.out).mono ?_
              rintro e w23 ⟨u23, rfl, hr23, hb23⟩
              obtain ⟨M23, m23, p23, o23⟩ := hr23
              obtain ⟨a23, c23, rfl⟩ := ownForm m23
              have hall2 := All_any _ _ M22 M23 w23 (HM22.out.1.below hb23) ((RowsAt.of_own m23).rowsIn.msgsAt (own_len m23) (fun m hm => (o23 m hm).1))
              rw [allM_core (by rw [HM22.out.2, p23, HCR.out])] at hall2
              have HAll2 := Lib.hid hall2
              have HB23 := Lib.hid (bt HB22.out hb23)
              clear m23 p23 o23 hb23 HB22 hall2 HM22 HRB
              go_wp2_with fail
              refine HAll2.out.mono ?_
              rintro e w24 ⟨rfl, hb24⟩
              have HB24 := Lib.hid (bt HB23.out hb24)
              clear hb24 HB23 HAll2
              go_wp2_with fail
              refine (HLN.out _ HB24.out).mono ?_
              rintro e w25 ⟨rfl, hb25⟩
              have HB25 := Lib.hid (bt HB24.out hb25)
              clear hb25 HB24 HLN
              go_wp2_with fail
              refine (HLB.out _ HB25.out).mono ?_
              rintro e w26 ⟨rfl, hb26⟩
              have HB26 := Lib.hid (bt HBE.out (bt HB25.out hb26))
              clear hb26 HB25 HLB
              go_wp2_with fail
              go_ret
              exact ⟨rfl, HB26.out⟩
end Go.Proofs.YtgjlcjbmcnofiaaDoor
