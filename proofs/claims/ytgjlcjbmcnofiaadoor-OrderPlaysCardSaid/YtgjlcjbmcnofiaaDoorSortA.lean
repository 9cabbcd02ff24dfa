/-
  Rows of messages that are sorted in place.
  Conditions: none.
-/
import Derived.Test.YtgjlcjbmcnofiaaDoorCmpA
import Derived.Deep.MidRow
import Derived.Shelf.RegionOpenPlain
namespace Go.Proofs.YtgjlcjbmcnofiaaDoor
set_option linter.unusedVariables false
set_option linter.unusedSimpArgs false
open Go.RowKit
/-- block g holds the messages l -/
structure RowM (W : World) (g : Nat) (l : List Msg) : Prop where
  at_ : ∀ i (h : i < l.length), W.rangeAt g (i * 6) (msgA l[i]).toList
  there : W.there g 0 (l.length * 6)
  lt : g < W.heap.size
theorem RowM.some {W : World} {g : Nat} {l : List Msg} (h : RowM W g l) {i : Nat} (hi : i < l.length) : W.there g (i * 6) 6 := fun j hj => by
  have := h.there (i * 6 + j) (by omega)
  simpa using this
theorem RowM.below {W W' : World} {g : Nat} {l : List Msg} (h : RowM W g l) (hb : Below W.heap.size W W') : RowM W' g l :=
  ⟨fun i hi j u hu => (hb.cell (p := ⟨g, i * 6 + j, none⟩) h.lt).trans (h.at_ i hi j u hu),
   fun j hj => by
    rw [hb.cell (p := ⟨g, 0 + j, none⟩) h.lt, hb.frozen (p := ⟨g, 0 + j, none⟩) h.lt]
    exact h.there j hj, Nat.lt_of_lt_of_le h.lt hb.size⟩
theorem setCells_size (g : Nat) : ∀ (vs : List Value) (o : Nat) (w : World), (w.setCells g o vs).heap.size = w.heap.size
  | [], _, _ => rfl
  | v :: r, o, w => by rw [World.setCells, setCells_size g r]; simp [World.setCell]
theorem RowM.set {W : World} {g : Nat} {l : List Msg} (h : RowM W g l) {i : Nat} (hi : i < l.length) (m : Msg) : RowM (W.setCells g (i * 6) (msgA m).toList) g (l.set i m) := by
  refine ⟨fun k hk => ?_, ?_, ?_⟩
  · rw [List.length_set] at hk
    by_cases hki : i = k
    · subst hki
      rw [List.getElem_set_self]
      exact World.rangeAt_setCells_same _ _ _ _ (h.some hi)
    · rw [List.getElem_set_ne hki]
      refine World.rangeAt_setCells_apart (h.at_ k hk) _ _ _ (.inr ?_)
      show k * 6 + 6 ≤ i * 6 ∨ i * 6 + 6 ≤ k * 6
      omega
  · rw [List.length_set]
    exact World.there_setCells h.there _ _ _
  · rw [setCells_size]; exact h.lt
theorem set_two (A B C : List Msg) (p q : Msg) : ((A ++ p :: (B ++ q :: C)).set A.length q).set (A.length + 1 + B.length) p = A ++ q :: (B ++ p :: C) := by
  rw [List.set_append_right _ _ (Nat.le_refl _), Nat.sub_self, List.set_cons_zero, List.set_append_right _ _ (by omega), show A.length + 1 + B.length - A.length = B.length + 1 by omega, List.set_cons_succ, List.set_append_right _ _ (Nat.le_refl _), Nat.sub_self, List.set_cons_zero]
theorem set_two' (A B C : List Msg) (p q : Msg) : ((A ++ p :: (B ++ q :: C)).set (A.length + 1 + B.length) p).set A.length q = A ++ q :: (B ++ p :: C) := by
  rw [List.set_comm _ _ (by omega), set_two]
theorem RowM.swap {W : World} {g : Nat} {A B C : List Msg} {p q : Msg} (h : RowM W g (A ++ p :: (B ++ q :: C))) (i j : Nat) (hi : i = A.length) (hj : j = A.length + 1 + B.length) : RowM ((W.setCells g (i * 6) (msgA q).toList).setCells g (j * 6) (msgA p).toList) g (A ++ q :: (B ++ p :: C)) := by
  subst hi; subst hj
  rw [← set_two A B C p q]
  exact (h.set (by simp) q).set (by simp; omega) p
theorem RowM.swap' {W : World} {g : Nat} {A B C : List Msg} {p q : Msg} (h : RowM W g (A ++ p :: (B ++ q :: C))) (i j : Nat) (hi : i = A.length) (hj : j = A.length + 1 + B.length) : RowM ((W.setCells g (j * 6) (msgA p).toList).setCells g (i * 6) (msgA q).toList) g (A ++ q :: (B ++ p :: C)) := by
  subst hi; subst hj
  rw [← set_two' A B C p q]
  exact (h.set (by simp; omega) p).set (by simp) q
theorem RowM.drewN {W : World} {g : Nat} {l : List Msg} (h : RowM W g l) (n : Nat) : RowM (W.drewN n) g l := ⟨h.at_, h.there, h.lt⟩
theorem RowM.drew {W : World} {g : Nat} {l : List Msg} (h : RowM W g l) : RowM W.drew g l := ⟨h.at_, h.there, h.lt⟩
/-- a message's cells, stored one by one -/
def putM (w : World) (g o : Nat) (m : Msg) : World := (((((w.setCell ⟨g, o, none⟩ (.int .i64 m.frm)).setCell ⟨g, o + 1, none⟩ (.int .u32 (m.seq : Int))).setCell ⟨g, o + 2, none⟩ (.int .u64 (m.stamp : Int))).setCell ⟨g, o + 3, none⟩ (.int .i64 m.service)).setCell ⟨g, o + 4, none⟩ (.slice m.da m.ds.length m.dc)).setCell ⟨g, o + 5, none⟩ (.string m.pay)
theorem putM_eq (w : World) (g o : Nat) (m : Msg) : w.setCells g o (msgA m).toList = putM w g o m := rfl
theorem RowM.len {W : World} {g : Nat} {l l' : List Msg} (h : RowM W g l) (e : l = l') : RowM W g l' := e ▸ h
theorem RowM.one {W : World} {g : Nat} {A B : List Msg} {p : Msg} (h : RowM W g (A ++ p :: B)) (i : Nat) (hi : i = A.length) : W.rangeAt g (i * 6) (msgA p).toList := by
  subst hi
  have := h.at_ A.length (by simp)
  rwa [List.getElem_append_right (Nat.le_refl _), show (p :: B)[A.length - A.length]'(by simp) = p by simp] at this
theorem RowM.two {W : World} {g : Nat} {A B C : List Msg} {p q : Msg} (h : RowM W g (A ++ p :: (B ++ q :: C))) (j : Nat) (hj : j = A.length + 1 + B.length) : W.rangeAt g (j * 6) (msgA q).toList :=
  (h.len (l' := (A ++ p :: B) ++ q :: C) (by simp)).one j (by rw [hj]; simp; omega)
/-- two rows of one length, half exchanged -/
def mixL (P Q : List Msg) (i : Nat) : List Msg := Q.take i ++ P.drop i
theorem mix_split (X P M Q Y : List Msg) (i : Nat) (hp : i < P.length) (hq : i < Q.length) : X ++ (mixL P Q i ++ (M ++ (mixL Q P i ++ Y))) = (X ++ Q.take i) ++ P[i] :: ((P.drop (i + 1) ++ (M ++ P.take i)) ++ Q[i] :: (Q.drop (i + 1) ++ Y)) := by
  have h1 := List.drop_eq_getElem_cons hp
  have h2 := List.drop_eq_getElem_cons hq
  unfold mixL
  simp only [List.append_assoc, List.cons_append, h1, h2]
theorem mix_next (X P M Q Y : List Msg) (i : Nat) (hp : i < P.length) (hq : i < Q.length) : (X ++ Q.take i) ++ Q[i] :: ((P.drop (i + 1) ++ (M ++ P.take i)) ++ P[i] :: (Q.drop (i + 1) ++ Y)) = X ++ (mixL P Q (i + 1) ++ (M ++ (mixL Q P (i + 1) ++ Y))) := by
  have h1 := List.take_succ_eq_append_getElem hp
  have h2 := List.take_succ_eq_append_getElem hq
  unfold mixL
  simp only [List.append_assoc, List.cons_append, List.nil_append, h1, h2]
set_option maxRecDepth 100000 in
set_option maxHeartbeats 2000000 in
theorem kSwap_any (g cap : Nat) (X P M Q Y : List Msg) (w : World) (hpq : P.length = Q.length) (hn : (X ++ (P ++ (M ++ (Q ++ Y)))).length ≤ 1000) (h : RowM w g (X ++ (P ++ (M ++ (Q ++ Y))))) :
    Calls Tryd.prog 105 #[.slice (some ⟨g, 0, none⟩) (X ++ (P ++ (M ++ (Q ++ Y)))).length cap, .int .i64 X.length, .int .i64 (X.length + P.length + M.length : Nat), .int .i64 P.length, .func (.func 94) #[] #[]] w fun e w' => e = .returned (.tuple #[]) ∧ RowM w' g (X ++ (Q ++ (M ++ (P ++ Y)))) ∧ Kept (fun q => q = g) w w' := by
  obtain ⟨n, hN⟩ : ∃ n, n = (X ++ (P ++ (M ++ (Q ++ Y)))).length := ⟨_, rfl⟩
  obtain ⟨b, hB⟩ : ∃ b, b = X.length + P.length + M.length := ⟨_, rfl⟩
  rw [← hN, ← hB]
  rw [← hN] at hn
  have hN' : n = X.length + P.length + M.length + Q.length + Y.length := by rw [hN]; simp; omega
  have HH := Lib.hid h
  have HE := Lib.hid (And.intro hpq (And.intro hB hN'))
  clear h hN hpq hB hN'
  go_enter Tryd.func105, Tryd.ntmps105
  go_wp2
  go_loopw [10] (fun i wr => ∃ k : Nat, k ≤ P.length ∧ i = .int .i64 (k : Int) ∧ RowM wr g (X ++ (mixL P Q k ++ (M ++ (mixL Q P k ++ Y)))) ∧ Kept (fun q => q = g) w wr) (fun i _ => P.length - (intOf i).toNat)
  case atStart => exact ⟨0, by omega, rfl, by simpa [mixL] using HH.out, .of_below (br _)⟩
  case round =>
    obtain ⟨k, hk, rfl, hr, hK⟩ := hrel
    by_cases hlt : k < P.length
    · have hbool : decide ((k : Int) < (P.length : Int)) = true := by simpa using hlt
      obtain ⟨hpq, hB, hN'⟩ := HE.out
      have hq : k < Q.length := by omega
      have hm := mix_next X P M Q Y k hlt hq
      rw [mix_split X P M Q Y k hlt hq] at hr
      generalize P[k] = p at hr hm
      generalize Q[k] = q at hr hm
      have hA : (X ++ Q.take k).length = X.length + k := by simp; omega
      have hBl : (P.drop (k + 1) ++ (M ++ P.take k)).length = P.length + M.length - 1 := by simp; omega
      have r1 := hr.one (X.length + k) hA.symm
      have r2 := hr.two (b + k) (by rw [hA, hBl]; omega)
      have t1 : wr.there g ((X.length + k) * 6) 6 := hr.some (by simp; omega)
      have t2 : wr.there g ((b + k) * 6) 6 := hr.some (by simp; omega)
      have hs1 := hr.swap (X.length + k) (b + k) (by rw [hA]) (by rw [hA, hBl]; omega)
      have y0 : wr.cell? ⟨g, (X.length + k) * 6, none⟩ = some (.int .i64 p.frm) := r1 0 _ rfl
      have yf0 : wr.frozen? ⟨g, (X.length + k) * 6, none⟩ = false := (t1 0 (by omega)).2
      have y1 : wr.cell? ⟨g, (X.length + k) * 6 + 1, none⟩ = some (.int .u32 (p.seq : Int)) := r1 1 _ rfl
      have yf1 : wr.frozen? ⟨g, (X.length + k) * 6 + 1, none⟩ = false := (t1 1 (by omega)).2
      have y2 : wr.cell? ⟨g, (X.length + k) * 6 + 2, none⟩ = some (.int .u64 (p.stamp : Int)) := r1 2 _ rfl
      have yf2 : wr.frozen? ⟨g, (X.length + k) * 6 + 2, none⟩ = false := (t1 2 (by omega)).2
      have y3 : wr.cell? ⟨g, (X.length + k) * 6 + 3, none⟩ = some (.int .i64 p.service) := r1 3 _ rfl
      have yf3 : wr.frozen? ⟨g, (X.length + k) * 6 + 3, none⟩ = false := (t1 3 (by omega)).2
      have y4 : wr.cell? ⟨g, (X.length + k) * 6 + 4, none⟩ = some (.slice p.da p.ds.length p.dc) := r1 4 _ rfl
      have yf4 : wr.frozen? ⟨g, (X.length + k) * 6 + 4, none⟩ = false := (t1 4 (by omega)).2
      have y5 : wr.cell? ⟨g, (X.length + k) * 6 + 5, none⟩ = some (.string p.pay) := r1 5 _ rfl
      have yf5 : wr.frozen? ⟨g, (X.length + k) * 6 + 5, none⟩ = false := (t1 5 (by omega)).2
      have z0 : wr.cell? ⟨g, (b + k) * 6, none⟩ = some (.int .i64 q.frm) := r2 0 _ rfl
      have zf0 : wr.frozen? ⟨g, (b + k) * 6, none⟩ = false := (t2 0 (by omega)).2
      have z1 : wr.cell? ⟨g, (b + k) * 6 + 1, none⟩ = some (.int .u32 (q.seq : Int)) := r2 1 _ rfl
      have zf1 : wr.frozen? ⟨g, (b + k) * 6 + 1, none⟩ = false := (t2 1 (by omega)).2
      have z2 : wr.cell? ⟨g, (b + k) * 6 + 2, none⟩ = some (.int .u64 (q.stamp : Int)) := r2 2 _ rfl
      have zf2 : wr.frozen? ⟨g, (b + k) * 6 + 2, none⟩ = false := (t2 2 (by omega)).2
      have z3 : wr.cell? ⟨g, (b + k) * 6 + 3, none⟩ = some (.int .i64 q.service) := r2 3 _ rfl
      have zf3 : wr.frozen? ⟨g, (b + k) * 6 + 3, none⟩ = false := (t2 3 (by omega)).2
      have z4 : wr.cell? ⟨g, (b + k) * 6 + 4, none⟩ = some (.slice q.da q.ds.length q.dc) := r2 4 _ rfl
      have zf4 : wr.frozen? ⟨g, (b + k) * 6 + 4, none⟩ = false := (t2 4 (by omega)).2
      have z5 : wr.cell? ⟨g, (b + k) * 6 + 5, none⟩ = some (.string q.pay) := r2 5 _ rfl
      have zf5 : wr.frozen? ⟨g, (b + k) * 6 + 5, none⟩ = false := (t2 5 (by omega)).2
      have hi1 : (X.length : Int) + (k : Int) < (n : Int) := by omega
      have hi2 : (b : Int) + (k : Int) < (n : Int) := by omega
      have hap : (X.length + k) * 6 + 6 ≤ (b + k) * 6 := by omega
      have hk1 := ((keptSetCells g (msgA q).toList ((X.length + k) * 6) wr).trans (keptSetCells g (msgA p).toList ((b + k) * 6) _))
      rw [putM_eq, putM_eq] at hs1 hk1
      have hz := And.intro hs1.drew (hK.trans hk1).drew
      rw [hm] at hz
      simp only [putM] at hz
      have HS1 := Lib.hid hz
      have HL := Lib.hid (show k + 1 ≤ P.length from hlt)
      clear hm hs1 hz hk1 r1 r2 t1 t2 hr hA hBl hK hpq hB hN'
      have mixed : Tryd.prog.follows .mixedOrders = true := by kernel_rfl
      go_wp2_with fail
      go_big_region_o
      go_wp2
      exact ⟨⟨k + 1, HL.out, by go_num, HS1.out.1, HS1.out.2⟩, measI hlt⟩
    · have hbool : decide ((k : Int) < (P.length : Int)) = false := by simpa using hlt
      obtain ⟨hpq, hB, hN'⟩ := HE.out
      obtain rfl : k = P.length := by omega
      have HZ := Lib.hid (hr.len (l' := X ++ (Q ++ (M ++ (P ++ Y)))) (by simp only [mixL, List.drop_length, List.take_length, List.append_nil]; rw [hpq, List.take_length, List.drop_length, List.append_nil]))
      clear hr hpq hB hN'
      go_wp2
      refine bodyPost_end (results_none rfl _ _ _) rfl ⟨rfl, HZ.out, hK⟩
theorem kSwap_at (g cap n a b m : Nat) (X P M Q Y : List Msg) (w : World) (hn : n = (X ++ (P ++ (M ++ (Q ++ Y)))).length) (hn1 : n ≤ 1000) (ha : a = X.length) (hb : b = X.length + P.length + M.length) (hm : m = P.length) (hq : m = Q.length) (h : RowM w g (X ++ (P ++ (M ++ (Q ++ Y))))) :
    Calls Tryd.prog 105 #[.slice (some ⟨g, 0, none⟩) n cap, .int .i64 a, .int .i64 b, .int .i64 m, .func (.func 94) #[] #[]] w fun e w' => e = .returned (.tuple #[]) ∧ RowM w' g (X ++ (Q ++ (M ++ (P ++ Y)))) ∧ Kept (fun q => q = g) w w' := by
  subst hn; subst ha; subst hb; subst hm
  exact kSwap_any g cap X P M Q Y w hq hn1 h
set_option maxRecDepth 100000 in
set_option maxHeartbeats 2000000 in
theorem kRot_any (g cap n a m b : Nat) (X U V Y : List Msg) (w : World) (hn : n = (X ++ (U ++ (V ++ Y))).length) (hn1 : n ≤ 1000) (ha : a = X.length) (hm : m = X.length + U.length) (hb : b = X.length + U.length + V.length) (hu : 0 < U.length) (hv : 0 < V.length) (h : RowM w g (X ++ (U ++ (V ++ Y)))) :
    Calls Tryd.prog 104 #[.slice (some ⟨g, 0, none⟩) n cap, .int .i64 a, .int .i64 m, .int .i64 b, .func (.func 94) #[] #[]] w fun e w' => e = .returned (.tuple #[]) ∧ RowM w' g (X ++ (V ++ (U ++ Y))) ∧ Kept (fun q => q = g) w w' := by
  obtain ⟨T, hT⟩ : ∃ T, T = X ++ (V ++ (U ++ Y)) := ⟨_, rfl⟩
  rw [← hT]
  have HT := Lib.hid (And.intro hT (And.intro hn (And.intro ha (And.intro hm (And.intro hb h)))))
  obtain ⟨u, hu'⟩ : ∃ u, u = U.length := ⟨_, rfl⟩
  obtain ⟨v, hv'⟩ : ∃ v, v = V.length := ⟨_, rfl⟩
  have e1 : (m : Int) - (a : Int) = (u : Int) := by omega
  have e2 : (b : Int) - (m : Int) = (v : Int) := by omega
  have HUV := Lib.hid (And.intro hu' (And.intro hv' (And.intro hu hv)))
  have hm1 : m ≤ 1000 := by rw [hn] at hn1; simp at hn1; omega
  have hb1 : b ≤ 1000 := by rw [hn] at hn1; simp at hn1; omega
  clear hT hn ha hm hb h hu' hv' hu hv
  go_enter Tryd.func104, Tryd.ntmps104
  go_wp2
  go_loopw [10, 11] (fun i j wr => ∃ (X' U' V' Y' : List Msg) (iu jv : Nat), i = .int .i64 (iu : Int) ∧ j = .int .i64 (jv : Int) ∧ Hid (iu = U'.length ∧ jv = V'.length ∧ 0 < iu ∧ 0 < jv ∧ m = X'.length + iu ∧ n = (X' ++ (U' ++ (V' ++ Y'))).length ∧ T = X' ++ (V' ++ (U' ++ Y'))) ∧ RowM wr g (X' ++ (U' ++ (V' ++ Y'))) ∧ Kept (fun q => q = g) w wr) (fun i j _ => (intOf i).toNat + (intOf j).toNat)
  case atStart =>
    refine ⟨X, U, V, Y, u, v, rfl, rfl, ?_, HT.out.2.2.2.2.2, .of_below (br _)⟩
    obtain ⟨h1, h2, h3, h4, h5, h6⟩ := HT.out
    obtain ⟨g1, g2, g3, g4⟩ := HUV.out
    exact ⟨g1, g2, by omega, by omega, by omega, h2, h1⟩
  case round =>
    obtain ⟨X', U', V', Y', iu, jv, rfl, rfl, HI, hr, hK⟩ := hrel
    clear HUV HT e1 e2
    obtain ⟨hiu, hjv, hi0, hj0, hm', hn', hT'⟩ := HI.out
    have hle : iu + jv ≤ 1000 := by rw [hn'] at hn1; simp at hn1; omega
    have HR := Lib.hid (And.intro hr hK)
    obtain ⟨x, hx⟩ : ∃ x : Nat, (m : Int) - (iu : Int) = (x : Int) := ⟨X'.length, by omega⟩
    have hxX : x = X'.length := by omega
    by_cases hij : iu = jv
    · have d1 : ((iu : Int) != (jv : Int)) = false := by simp; omega
      have HC := Lib.hid (kSwap_at g cap n x m iu X' U' [] V' Y' wr hn' hn1 hxX (by simp; omega) hiu (by omega) hr)
      clear hiu hjv hi0 hj0 hm' hn' hT' hr hxX hij
      go_wp2_with fail
      refine HC.out.mono ?_
      rintro e w5 ⟨rfl, hr5, hK5⟩
      have HZ := Lib.hid (And.intro (hr5.len (l' := T) (by rw [HI.out.2.2.2.2.2.2]; simp)) (hK.trans hK5))
      go_wp2
      refine bodyPost_end (results_none rfl _ _ _) rfl ⟨rfl, HZ.out.1, HZ.out.2⟩
    have d1 : ((iu : Int) != (jv : Int)) = true := by simp; omega
    by_cases hlt : jv < iu
    · have d2 : decide ((jv : Int) < (iu : Int)) = true := by simp; omega
      obtain ⟨y, hy⟩ : ∃ y : Nat, (iu : Int) - (jv : Int) = (y : Int) := ⟨iu - jv, by omega⟩
      have hU : U' = U'.take jv ++ U'.drop jv := (List.take_append_drop jv U').symm
      have hl1 : (U'.take jv).length = jv := by simp; omega
      have hl2 : (U'.drop jv).length = iu - jv := by simp; omega
      generalize U'.take jv = U1 at hU hl1
      generalize U'.drop jv = U2 at hU hl2
      subst hU
      have hr' := hr.len (l' := X' ++ (U1 ++ (U2 ++ (V' ++ Y')))) (by simp)
      have HC := Lib.hid (kSwap_at g cap n x m jv X' U1 U2 V' Y' wr (by rw [hn']; simp) hn1 hxX (by omega) hl1.symm hjv hr')
      have HH := Lib.hid (show y = U2.length ∧ jv = U1.length ∧ 0 < y ∧ 0 < jv ∧ m = (X' ++ V').length + y ∧ n = ((X' ++ V') ++ (U2 ++ (U1 ++ Y'))).length ∧ T = (X' ++ V') ++ (U1 ++ (U2 ++ Y')) from ⟨by omega, hl1.symm, by omega, hj0, by simp; omega, by rw [hn']; simp; omega, by rw [hT']; simp⟩)
      have hms : y + jv < iu + jv := by omega
      have HMs := Lib.hid hms
      clear hiu hjv hi0 hj0 hm' hn' hT' hr hxX hij hr' hl1 hl2 hms HI HR
      go_wp2_with fail
      refine HC.out.mono ?_
      rintro e w5 ⟨rfl, hr5, hK5⟩
      have HZ := Lib.hid (And.intro (hr5.len (l' := (X' ++ V') ++ (U2 ++ (U1 ++ Y'))) (by simp)) (hK.trans hK5))
      clear hr5 hK5 hK
      go_wp2
      exact ⟨⟨X' ++ V', U2, U1, Y', y, jv, rfl, rfl, HH, HZ.out.1, HZ.out.2⟩, HMs.out⟩
    · have d2 : decide ((jv : Int) < (iu : Int)) = false := by simp; omega
      obtain ⟨y, hy⟩ : ∃ y : Nat, (jv : Int) - (iu : Int) = (y : Int) := ⟨jv - iu, by omega⟩
      obtain ⟨z, hz⟩ : ∃ z : Nat, (m : Int) + (jv : Int) - (iu : Int) = (z : Int) := ⟨m + jv - iu, by omega⟩
      have hV : V' = V'.take (jv - iu) ++ V'.drop (jv - iu) := (List.take_append_drop _ V').symm
      have hl1 : (V'.take (jv - iu)).length = jv - iu := by simp; omega
      have hl2 : (V'.drop (jv - iu)).length = iu := by simp; omega
      generalize V'.take (jv - iu) = V1 at hV hl1
      generalize V'.drop (jv - iu) = V2 at hV hl2
      subst hV
      have HC := Lib.hid (kSwap_at g cap n x z iu X' U' V1 V2 Y' wr (by rw [hn']; simp) hn1 hxX (by omega) hiu hl2.symm (hr.len (by simp)))
      have HH := Lib.hid (show iu = V2.length ∧ y = V1.length ∧ 0 < iu ∧ 0 < y ∧ m = X'.length + iu ∧ n = (X' ++ (V2 ++ (V1 ++ (U' ++ Y')))).length ∧ T = X' ++ (V1 ++ (V2 ++ (U' ++ Y'))) from ⟨hl2.symm, by omega, hi0, by omega, hm', by rw [hn']; simp; omega, by rw [hT']; simp⟩)
      have hms : iu + y < iu + jv := by omega
      have HMs := Lib.hid hms
      clear hiu hjv hi0 hj0 hm' hn' hT' hr hxX hij hl1 hl2 hms HI HR
      go_wp2_with fail
      refine HC.out.mono ?_
      rintro e w5 ⟨rfl, hr5, hK5⟩
      have HZ := Lib.hid (And.intro hr5 (hK.trans hK5))
      clear hr5 hK5 hK
      go_wp2
      exact ⟨⟨X', V2, V1, U' ++ Y', iu, y, rfl, rfl, HH, HZ.out.1, HZ.out.2⟩, HMs.out⟩
end Go.Proofs.YtgjlcjbmcnofiaaDoor
