/-
  What was read is written back to the same bytes; the packet that was read is clean and within bounds.
  Conditions: those that each theorem names; no walk.
-/
import Derived.Test.YtgpojbmloielmaaPackRC
namespace Go.Proofs.Ytgpojbmloielmaa
set_option linter.unusedVariables false
set_option linter.unusedSimpArgs false
open Go.RowKit
theorem rdN_inv {n : Nat} {l : List UInt8} {v : Nat} {l' : List UInt8} (h8 : n ≤ 8) (h : rdN n l = .ok (v, l')) : l = putL v n ++ l' ∧ v < 256 ^ n := by
  obtain ⟨h1, h2, h3⟩ := rdN_lt h8 h
  unfold rdN at h
  rw [if_pos h3] at h
  injection h with h
  injection h with h4 h5
  refine ⟨?_, h1⟩
  rw [← h4, put_valL n _ (by rw [List.length_take]; omega) h8, ← h5, List.take_append_drop]
theorem andR_inv2 {α β : Type} {r : Except Int (α × List UInt8)} {f : α → List UInt8 → Except Int (β × List UInt8)} {x : β × List UInt8} (h : andR r f = .ok x) : ∃ a l1, r = .ok (a, l1) ∧ f a l1 = .ok x := by
  rcases r with c | ⟨a, l1⟩
  · cases h
  · exact ⟨a, l1, rfl, h⟩
theorem rdProc_inv {l : List UInt8} {v : Nat} {l' : List UInt8} (h : rdProc l = .ok (v, l')) : ∃ y, procL (v : Int) = .ok y ∧ l = y ++ l' := by
  have hv := rdProc_lt h
  unfold rdProc at h
  split at h
  · cases h
  · rename_i v1 l1 h1
    split at h
    · cases h
    injection h with h
    injection h with h2 h3
    subst h2 h3
    refine ⟨putL v1 1, ?_, (rdN_inv (by omega) h1).1⟩
    unfold procL
    rw [if_pos (by omega)]
    rfl
theorem rdConf_inv {l : List UInt8} {e r : Nat} {l' : List UInt8} (h : rdConf l = .ok ((e, r), l')) : ∃ y, confL e (r : Int) = .ok y ∧ l = y ++ l' ∧ e < 18446744073709551616 := by
  unfold rdConf at h
  split at h
  · cases h
  · rename_i e1 l1 h1
    split at h
    · cases h
    rename_i r1 l2 h2
    injection h with h
    injection h with h3 h4
    injection h3 with h3 h5
    subst h3 h4 h5
    obtain ⟨y, hy, hl⟩ := rdProc_inv h2
    obtain ⟨hq, hb⟩ := rdN_inv (by omega) h1
    refine ⟨putL e1 8 ++ y, ?_, ?_, by simpa using hb⟩
    · unfold confL; rw [hy]; rfl
    · rw [hq, hl, List.append_assoc]
theorem rdNs_inv : ∀ (n : Nat) (l : List UInt8) (ds : List Nat) (l' : List UInt8), rdNs n l = .ok (ds, l') → l = vecB ds ++ l'
  | 0, l, ds, l', h => by injection h with h; injection h with h1 h2; subst h1 h2; rfl
  | n + 1, l, ds, l', h => by
    rw [rdNs] at h
    split at h
    · cases h
    rename_i v l1 h1
    split at h
    · cases h
    rename_i vs l2 h2
    injection h with h
    injection h with h3 h4
    subst h3 h4
    have ih := rdNs_inv n _ _ _ h2
    have := (rdN_inv (by omega) h1).1
    rw [this, ih]
    show _ = putL v 4 ++ vecB vs ++ _
    rw [List.append_assoc]
theorem rdVec_inv {l : List UInt8} {ds : List Nat} {l' : List UInt8} (h : rdVec l = .ok (ds, l')) : (∃ y, vecL ds = .ok y ∧ l = y ++ l') ∧ ds.length ≤ 64 ∧ ∀ d ∈ ds, d < 4294967296 := by
  unfold rdVec at h
  split at h
  · cases h
  rename_i n l1 h1
  split at h
  · cases h
  rename_i h64
  obtain ⟨hl, hb⟩ := rdNs_len _ _ _ _ h
  have hi := rdNs_inv _ _ _ _ h
  have hq := (rdN_inv (by omega) h1).1
  refine ⟨⟨putL n 1 ++ vecB ds, ?_, ?_⟩, by omega, hb⟩
  · unfold vecL
    rw [if_neg (by omega), hl]
  · rw [hq, hi, List.append_assoc]
theorem rdT_inv {n : Nat} {l : List UInt8} {b : ByteArray} {l' : List UInt8} (h : rdT n l = .ok (b, l')) : l = b.data.toList ++ l' ∧ b.size = n := by
  unfold rdT at h
  split at h
  · rename_i hn
    injection h with h
    injection h with h1 h2
    subst h1 h2
    refine ⟨(List.take_append_drop n l).symm, ?_⟩
    show (l.take n).toArray.size = n
    simp
    omega
  · cases h
/-- plain bounds of a packet -/
structure MsgB (m : Msg) : Prop where
  pay : m.pay.size ≤ 1024
  seq : m.seq < 4294967296
  stamp : m.stamp < 18446744073709551616
  len : m.ds.length ≤ 64
  ds : ∀ d ∈ m.ds, d < 4294967296
structure ExB (x : Exch) : Prop where
  oe : x.oe < 18446744073709551616
  ls : x.ls < 18446744073709551616
  len : x.cs.length ≤ 64
  cs : ∀ d ∈ x.cs, d < 4294967296
structure PktB (p : Pkt) : Prop where
  ce : p.ce < 18446744073709551616
  m : MsgB p.m
  stamp : p.stamp < 18446744073709551616
  sent : p.sent < 4294967296
  glen : p.got.length ≤ 64
  got : ∀ d ∈ p.got, d < 4294967296
  hor : p.hor < 18446744073709551616
  seq : p.seq < 4294967296
  mem : p.mem < 18446744073709551616
  pe : p.pe < 18446744073709551616
  epoch : p.epoch < 18446744073709551616
  xlen : p.xs.length ≤ 64
  xs : ∀ x ∈ p.xs, ExB x
theorem rdMsg_inv {f : Int} {l : List UInt8} {m : Msg} {l' : List UInt8} (h : rdMsg f l = .ok (m, l')) : (∃ y, msgL m = .ok y ∧ l = y ++ l') ∧ m.frm = f ∧ m.da = none ∧ m.dc = 0 ∧ MsgB m := by
  unfold rdMsg at h
  obtain ⟨seq, l1, h1, h⟩ := andR_inv2 h
  obtain ⟨st, l2, h2, h⟩ := andR_inv2 h
  obtain ⟨sv, l3, h3, h⟩ := andR_inv2 h
  unfold rdMsg2 at h
  split at h
  · cases h
  rename_i hsv
  obtain ⟨ds, l4, h4, h⟩ := andR_inv2 h
  unfold rdMsg3 at h
  obtain ⟨n, l5, h5, h⟩ := andR_inv2 h
  split at h
  · cases h
  rename_i hn
  obtain ⟨b, l6, h6, h⟩ := andR_inv2 h
  injection h with h
  injection h with h7 h8
  subst h7 h8
  obtain ⟨q1, b1⟩ := rdN_inv (by omega) h1
  obtain ⟨q2, b2⟩ := rdN_inv (by omega) h2
  obtain ⟨q3, b3⟩ := rdN_inv (by omega) h3
  obtain ⟨⟨y, hy, q4⟩, b4, c4⟩ := rdVec_inv h4
  obtain ⟨q5, b5⟩ := rdN_inv (by omega) h5
  obtain ⟨q6, b6⟩ := rdT_inv h6
  refine ⟨⟨putL seq 4 ++ (putL st 8 ++ (putL sv 1 ++ (y ++ (putL n 2 ++ b.data.toList)))), ?_, ?_⟩, rfl, rfl, rfl, ⟨by rw [b6]; omega, by simpa using b1, by simpa using b2, b4, c4⟩⟩
  · unfold msgL
    rw [if_neg (by show ¬((sv : Int) < 0 ∨ 2 < (sv : Int)); omega), if_neg (by show ¬ 1024 < b.size; omega)]
    show cat (.ok (putL seq 4)) (cat (.ok (putL st 8)) (cat (.ok (putL (sv : Int).toNat 1)) (cat (vecL ds) (cat (.ok (putL b.size 2)) (.ok b.data.toList))))) = _
    rw [hy, b6]
    rfl
  · rw [q1, q2, q3, q4, q5, q6]
    simp only [List.append_assoc]
theorem rdEx_inv {l : List UInt8} {x : Exch} {l' : List UInt8} (h : rdEx l = .ok (x, l')) : (∃ y, exL x = .ok y ∧ l = y ++ l') ∧ ExB x := by
  unfold rdEx at h
  obtain ⟨who, l1, h1, h⟩ := andR_inv2 h
  obtain ⟨⟨oe, orp⟩, l2, h2, h⟩ := andR_inv2 h
  obtain ⟨cs, l3, h3, h⟩ := andR_inv2 h
  obtain ⟨⟨ls, lf⟩, l4, h4, h⟩ := andR_inv2 h
  injection h with h
  injection h with h5 h6
  subst h5 h6
  obtain ⟨y1, e1, q1⟩ := rdProc_inv h1
  obtain ⟨y2, e2, q2, b2⟩ := rdConf_inv h2
  obtain ⟨⟨y3, e3, q3⟩, b3, c3⟩ := rdVec_inv h3
  obtain ⟨y4, e4, q4, b4⟩ := rdConf_inv h4
  refine ⟨⟨y1 ++ (y2 ++ (y3 ++ y4)), ?_, ?_⟩, ⟨b2, b4, b3, c3⟩⟩
  · show cat (procL (who : Int)) (cat (confL oe (orp : Int)) (cat (vecL cs) (confL ls (lf : Int)))) = _
    rw [e1, e2, e3, e4]
    rfl
  · rw [q1, q2, q3, q4]
    simp only [List.append_assoc]
theorem rdExs_inv : ∀ (n : Nat) (l : List UInt8) (xs : List Exch) (l' : List UInt8), rdExs n l = .ok (xs, l') → (∃ y, exsL xs = .ok y ∧ l = y ++ l') ∧ xs.length = n ∧ ∀ x ∈ xs, ExB x
  | 0, l, xs, l', h => by injection h with h; injection h with h1 h2; subst h1 h2; exact ⟨⟨[], rfl, rfl⟩, rfl, fun x hx => by cases hx⟩
  | n + 1, l, xs, l', h => by
    rw [rdExs] at h
    obtain ⟨x, l1, h1, h⟩ := andR_inv2 h
    obtain ⟨xs1, l2, h2, h⟩ := andR_inv2 h
    injection h with h
    injection h with h3 h4
    subst h3 h4
    obtain ⟨⟨y1, e1, q1⟩, b1⟩ := rdEx_inv h1
    obtain ⟨⟨y2, e2, q2⟩, b2, c2⟩ := rdExs_inv n _ _ _ h2
    refine ⟨⟨y1 ++ y2, ?_, ?_⟩, by simp [b2], fun z hz => ?_⟩
    · show cat (exL x) (exsL xs1) = _
      rw [e1, e2]
      rfl
    · rw [q1, q2, List.append_assoc]
    · rcases List.mem_cons.1 hz with rfl | hz
      · exact b1
      · exact c2 z hz
theorem finR_inv {q : Pkt} {l : List UInt8} {x : Pkt × List UInt8} (h : finR q l = .ok x) : x = (q, []) ∧ l = [] := by
  unfold finR at h
  split at h
  · cases h
  · rename_i hl
    have : l = [] := List.length_eq_zero_iff.1 (by omega)
    subst this
    injection h with h
    exact ⟨h.symm, rfl⟩
theorem zeroB : PktB zeroP := ⟨by decide, ⟨by decide, by decide, by decide, by decide, by simp [zeroP]⟩, by decide, by decide, by decide, by simp [zeroP], by decide, by decide, by decide, by decide, by decide, by decide, by simp [zeroP]⟩
theorem zeroB_with (k f t : Int) (e : Nat) (r : Int) (he : e < 18446744073709551616) : PktB { zeroP with kind := k, frm := f, dst := t, ce := e, cr := r } := { zeroB with ce := he }
set_option maxHeartbeats 1000000 in
/-- what was read is written back -/
theorem rdBody_inv {k f t : Int} (hk : 1 ≤ k ∧ k ≤ 11) {l : List UInt8} {x : Pkt × List UInt8} (h : rdBody k f t l = .ok x) : bodyL x.1 = .ok l ∧ x.1.kind = k ∧ x.1.frm = f ∧ x.1.dst = t ∧ selP x.1 = x.1 ∧ PktB x.1 := by
  unfold rdBody at h
  obtain ⟨⟨ce, cr⟩, l1, h1, h⟩ := andR_inv2 h
  obtain ⟨y, ey, ql, hce⟩ := rdConf_inv h1
  have hz := zeroB_with k f t ce cr hce
  rcases kind_cases hk with e | e | e | e | e | e | e | e | e | e | e <;> subst e
  · rw [rdKind_1] at h
    unfold rdK1 at h
    obtain ⟨m, l2, h2, h⟩ := andR_inv2 h
    obtain ⟨rfl, rfl⟩ := finR_inv h
    obtain ⟨⟨y2, e2, q2⟩, hf, hda, hdc, hB⟩ := rdMsg_inv h2
    refine ⟨?_, rfl, rfl, rfl, ?_, { hz with m := hB }⟩
    · simp [bodyL, ey, e2, q2, ql, cat, Except.map]
    · obtain ⟨m0, m1, m2, m3, m4, m5, m6, m7⟩ := m
      simp only at hf hda hdc
      subst hf
      simp [selP, selC, selZ]
  · rw [rdKind_2] at h
    unfold rdK2 at h
    obtain ⟨a, l2, h2, h⟩ := andR_inv2 h
    obtain ⟨b, l3, h3, h⟩ := andR_inv2 h
    obtain ⟨g, l4, h4, h⟩ := andR_inv2 h
    obtain ⟨o, l5, h5, h⟩ := andR_inv2 h
    obtain ⟨rfl, rfl⟩ := finR_inv h
    obtain ⟨q2, b2⟩ := rdN_inv (by omega) h2
    obtain ⟨q3, b3⟩ := rdN_inv (by omega) h3
    obtain ⟨⟨y4, e4, q4⟩, b4, c4⟩ := rdVec_inv h4
    obtain ⟨q5, b5⟩ := rdN_inv (by omega) h5
    refine ⟨?_, rfl, rfl, rfl, ?_, { hz with stamp := by simpa using b2, sent := by simpa using b3, glen := b4, got := c4, hor := by simpa using b5 }⟩
    · simp [bodyL, ey, e4, q2, q3, q4, q5, ql, cat, Except.map]
    · simp [selP, selC, selZ, zeroP]
  · rw [rdKind_3] at h
    unfold rdK3 at h
    obtain ⟨a, l2, h2, h⟩ := andR_inv2 h
    obtain ⟨b, l3, h3, h⟩ := andR_inv2 h
    obtain ⟨rfl, rfl⟩ := finR_inv h
    obtain ⟨y2, e2, q2⟩ := rdProc_inv h2
    obtain ⟨q3, b3⟩ := rdN_inv (by omega) h3
    refine ⟨?_, rfl, rfl, rfl, ?_, { hz with seq := by simpa using b3 }⟩
    · simp [bodyL, ey, e2, q2, q3, ql, cat, Except.map]
    · simp [selP, selC, selZ, zeroP]
  · rw [rdKind_4] at h
    unfold rdK4 at h
    obtain ⟨⟨a, a2⟩, l2, h2, h⟩ := andR_inv2 h
    obtain ⟨b, l3, h3, h⟩ := andR_inv2 h
    obtain ⟨g, l4, h4, h⟩ := andR_inv2 h
    obtain ⟨rfl, rfl⟩ := finR_inv h
    obtain ⟨y2, e2, q2, b2⟩ := rdConf_inv h2
    obtain ⟨q3, b3⟩ := rdN_inv (by omega) h3
    obtain ⟨q4, b4⟩ := rdN_inv (by omega) h4
    refine ⟨?_, rfl, rfl, rfl, ?_, { hz with pe := b2, epoch := by simpa using b3, mem := by simpa using b4 }⟩
    · simp [bodyL, ey, e2, q2, q3, q4, ql, cat, Except.map]
    · simp [selP, selC, selZ, zeroP]
  · rw [rdKind_5] at h
    unfold rdK5 at h
    obtain ⟨a, l2, h2, h⟩ := andR_inv2 h
    obtain ⟨rfl, rfl⟩ := finR_inv h
    obtain ⟨q2, b2⟩ := rdN_inv (by omega) h2
    refine ⟨?_, rfl, rfl, rfl, ?_, { hz with mem := by simpa using b2 }⟩
    · simp [bodyL, ey, q2, ql, cat, Except.map]
    · simp [selP, selC, selZ, zeroP]
  · rw [rdKind_6] at h
    unfold rdK6 at h
    obtain ⟨x, l2, h2, h⟩ := andR_inv2 h
    obtain ⟨rfl, rfl⟩ := finR_inv h
    obtain ⟨⟨y2, e2, q2⟩, b2⟩ := rdEx_inv h2
    refine ⟨?_, rfl, rfl, rfl, ?_, { hz with xlen := by simp, xs := by simpa using b2 }⟩
    · simp [bodyL, oneX, ey, e2, q2, ql, cat, Except.map]
    · simp [selP, selC, selZ, zeroP]
  · rw [rdKind_7] at h
    unfold rdK7 at h
    obtain ⟨a, l2, h2, h⟩ := andR_inv2 h
    obtain ⟨n, l3, h3, h⟩ := andR_inv2 h
    split at h
    · cases h
    rename_i h64
    obtain ⟨xs, l4, h4, h⟩ := andR_inv2 h
    obtain ⟨rfl, rfl⟩ := finR_inv h
    obtain ⟨q2, b2⟩ := rdN_inv (by omega) h2
    obtain ⟨q3, b3⟩ := rdN_inv (by omega) h3
    obtain ⟨⟨y4, e4, q4⟩, b4, c4⟩ := rdExs_inv _ _ _ _ h4
    refine ⟨?_, rfl, rfl, rfl, ?_, { hz with mem := by simpa using b2, xlen := by show xs.length ≤ 64; omega, xs := c4 }⟩
    · simp [bodyL, ey, e4, q2, q3, q4, b4, h64, ql, cat, Except.map]
    · simp [selP, selC, selZ, zeroP]
  · rw [rdKind_8] at h
    unfold rdK3 at h
    obtain ⟨a, l2, h2, h⟩ := andR_inv2 h
    obtain ⟨b, l3, h3, h⟩ := andR_inv2 h
    obtain ⟨rfl, rfl⟩ := finR_inv h
    obtain ⟨y2, e2, q2⟩ := rdProc_inv h2
    obtain ⟨q3, b3⟩ := rdN_inv (by omega) h3
    refine ⟨?_, rfl, rfl, rfl, ?_, { hz with seq := by simpa using b3 }⟩
    · simp [bodyL, ey, e2, q2, q3, ql, cat, Except.map]
    · simp [selP, selC, selZ, zeroP]
  · rw [rdKind_9] at h
    unfold rdK9 at h
    obtain ⟨a, l2, h2, h⟩ := andR_inv2 h
    obtain ⟨m, l3, h3, h⟩ := andR_inv2 h
    obtain ⟨rfl, rfl⟩ := finR_inv h
    obtain ⟨y2, e2, q2⟩ := rdProc_inv h2
    obtain ⟨⟨y3, e3, q3⟩, hf, hda, hdc, hB⟩ := rdMsg_inv h3
    refine ⟨?_, rfl, rfl, rfl, ?_, { hz with m := hB }⟩
    · simp [bodyL, ey, e2, e3, q2, q3, ql, cat, Except.map]
    · obtain ⟨m0, m1, m2, m3, m4, m5, m6, m7⟩ := m
      simp only at hf hda hdc
      subst hf
      simp [selP, selC, selZ]
  · rw [rdKind_10] at h
    obtain ⟨rfl, rfl⟩ := finR_inv h
    refine ⟨?_, rfl, rfl, rfl, ?_, hz⟩
    · simp [bodyL, ey, ql, cat, Except.map]
    · simp [selP, selC, selZ, zeroP]
  · rw [rdKind_11] at h
    obtain ⟨rfl, rfl⟩ := finR_inv h
    refine ⟨?_, rfl, rfl, rfl, ?_, hz⟩
    · simp [bodyL, ey, ql, cat, Except.map]
    · simp [selP, selC, selZ, zeroP]
/-! what an error is, never naught -/
theorem andR_nz {α β : Type} {r : Except Int (α × List UInt8)} {f : α → List UInt8 → Except Int (β × List UInt8)} (h1 : ∀ c, r = .error c → c ≠ 0) (h2 : ∀ a l c, f a l = .error c → c ≠ 0) : ∀ c, andR r f = .error c → c ≠ 0 := by
  intro c h
  rcases r with d | ⟨a, l⟩
  · exact h1 c (by injection h with h; rw [h])
  · exact h2 a l c h
theorem rdN_nz (n : Nat) (l : List UInt8) : ∀ c, rdN n l = .error c → c ≠ 0 := by
  intro c h
  unfold rdN at h
  split at h
  · cases h
  · injection h with h; omega
theorem rdProc_nz (l : List UInt8) : ∀ c, rdProc l = .error c → c ≠ 0 := by
  intro c h
  unfold rdProc at h
  split at h
  · rename_i d h1
    injection h with h
    subst h
    exact rdN_nz _ _ _ h1
  · split at h
    · injection h with h; omega
    · cases h
theorem rdConf_nz (l : List UInt8) : ∀ c, rdConf l = .error c → c ≠ 0 := by
  intro c h
  unfold rdConf at h
  split at h
  · rename_i d h1
    injection h with h
    subst h
    exact rdN_nz _ _ _ h1
  · split at h
    · rename_i d h1
      injection h with h
      subst h
      exact rdProc_nz _ _ h1
    · cases h
theorem rdNs_nz : ∀ (n : Nat) (l : List UInt8) (c : Int), rdNs n l = .error c → c ≠ 0
  | 0, l, c, h => by cases h
  | n + 1, l, c, h => by
    rw [rdNs] at h
    split at h
    · rename_i d h1
      injection h with h
      subst h
      exact rdN_nz _ _ _ h1
    · split at h
      · rename_i d h1
        injection h with h
        subst h
        exact rdNs_nz _ _ _ h1
      · cases h
theorem rdVec_nz (l : List UInt8) : ∀ c, rdVec l = .error c → c ≠ 0 := by
  intro c h
  unfold rdVec at h
  split at h
  · rename_i d h1
    injection h with h
    subst h
    exact rdN_nz _ _ _ h1
  · split at h
    · injection h with h; omega
    · exact rdNs_nz _ _ _ h
theorem rdT_nz (n : Nat) (l : List UInt8) : ∀ c, rdT n l = .error c → c ≠ 0 := by
  intro c h
  unfold rdT at h
  split at h
  · cases h
  · injection h with h; omega
theorem ok_nz {α : Type} {x : α} : ∀ c : Int, (Except.ok x : Except Int α) = .error c → c ≠ 0 := fun c h => by cases h
theorem rdMsg_nz (f : Int) (l : List UInt8) : ∀ c, rdMsg f l = .error c → c ≠ 0 := by
  refine andR_nz (rdN_nz _ _) fun a l => andR_nz (rdN_nz _ _) fun b l => andR_nz (rdN_nz _ _) fun e l => ?_
  intro c h
  unfold rdMsg2 at h
  split at h
  · injection h with h; omega
  revert c
  refine andR_nz (rdVec_nz _) fun a l => andR_nz (rdN_nz _ _) fun b l => ?_
  intro c h
  split at h
  · injection h with h; omega
  revert c
  exact andR_nz (rdT_nz _ _) fun a l => ok_nz
theorem rdEx_nz (l : List UInt8) : ∀ c, rdEx l = .error c → c ≠ 0 :=
  andR_nz (rdProc_nz _) fun a l => andR_nz (rdConf_nz _) fun b l => andR_nz (rdVec_nz _) fun e l => andR_nz (rdConf_nz _) fun k l => ok_nz
theorem rdExs_nz : ∀ (n : Nat) (l : List UInt8) (c : Int), rdExs n l = .error c → c ≠ 0
  | 0, l, c, h => by cases h
  | n + 1, l, c, h => by
    rw [rdExs] at h
    revert c
    exact andR_nz (rdEx_nz _) fun a l => andR_nz (rdExs_nz n _) fun b l => ok_nz
theorem finR_nz (q : Pkt) (l : List UInt8) : ∀ c, finR q l = .error c → c ≠ 0 := by
  intro c h
  unfold finR at h
  split at h
  · injection h with h; omega
  · cases h
theorem rdBody_nz (k f t : Int) (hk : 1 ≤ k ∧ k ≤ 11) (l : List UInt8) : ∀ c, rdBody k f t l = .error c → c ≠ 0 := by
  unfold rdBody
  refine andR_nz (rdConf_nz _) fun a l => ?_
  rcases kind_cases hk with e | e | e | e | e | e | e | e | e | e | e <;> subst e
  · rw [rdKind_1]; exact andR_nz (rdMsg_nz _ _) fun a l => finR_nz _ _
  · rw [rdKind_2]; exact andR_nz (rdN_nz _ _) fun a l => andR_nz (rdN_nz _ _) fun a l => andR_nz (rdVec_nz _) fun a l => andR_nz (rdN_nz _ _) fun a l => finR_nz _ _
  · rw [rdKind_3]; exact andR_nz (rdProc_nz _) fun a l => andR_nz (rdN_nz _ _) fun a l => finR_nz _ _
  · rw [rdKind_4]; exact andR_nz (rdConf_nz _) fun a l => andR_nz (rdN_nz _ _) fun a l => andR_nz (rdN_nz _ _) fun a l => finR_nz _ _
  · rw [rdKind_5]; exact andR_nz (rdN_nz _ _) fun a l => finR_nz _ _
  · rw [rdKind_6]; exact andR_nz (rdEx_nz _) fun a l => finR_nz _ _
  · rw [rdKind_7]
    refine andR_nz (rdN_nz _ _) fun a l => andR_nz (rdN_nz _ _) fun n l => ?_
    intro c h
    split at h
    · injection h with h; omega
    revert c
    exact andR_nz (rdExs_nz _ _) fun a l => finR_nz _ _
  · rw [rdKind_8]; exact andR_nz (rdProc_nz _) fun a l => andR_nz (rdN_nz _ _) fun a l => finR_nz _ _
  · rw [rdKind_9]; exact andR_nz (rdProc_nz _) fun a l => andR_nz (rdMsg_nz _ _) fun a l => finR_nz _ _
  · rw [rdKind_10]; exact finR_nz _ _
  · rw [rdKind_11]; exact finR_nz _ _
theorem OwnPk.okB {w : World} {B : Nat} {q p : Pkt} (ho : OwnPk B w q) (hc : coreP q = coreP p) (hp : PktB p) : PktOk w q := by
  have hx := (coreP_eq hc).2
  have e : ∀ {α : Type} (f : Pkt → α), f (coreP q) = f (coreP p) := fun f => congrArg f hc
  have hg : q.got = p.got := e Pkt.got
  have hd : q.m.ds = p.m.ds := e (fun p => p.m.ds)
  have hl : q.xs.length = p.xs.length := by have := congrArg List.length hx; simpa using this
  have hnum : ∀ {da : Option Addr} {ds : List Nat} {dc : Nat}, OwnN B w da ds dc → ds.length ≤ 64 → (∀ d ∈ ds, d < 4294967296) → NumsOk w da ds := fun h1 h2 h3 => h1.nums (by omega) h3
  refine ⟨by have := e Pkt.ce; have h := hp.ce; exact this ▸ h, ⟨?_, ?_, ?_, ?_⟩, by have := e Pkt.stamp; have h := hp.stamp; exact this ▸ h, by have := e Pkt.sent; have h := hp.sent; exact this ▸ h, ?_, by have := e Pkt.hor; have h := hp.hor; exact this ▸ h, by have := e Pkt.seq; have h := hp.seq; exact this ▸ h, by have := e Pkt.mem; have h := hp.mem; exact this ▸ h, by have := e Pkt.pe; have h := hp.pe; exact this ▸ h, by have := e Pkt.epoch; have h := hp.epoch; exact this ▸ h, ?_, ?_⟩
  · have h1 : q.m.pay = p.m.pay := e (fun p => p.m.pay)
    rw [h1]
    have := hp.m.pay
    omega
  · have := e (fun p => p.m.seq); have h := hp.m.seq; exact this ▸ h
  · have := e (fun p => p.m.stamp); have h := hp.m.stamp; exact this ▸ h
  · exact hnum ho.ds (by rw [hd]; exact hp.m.len) (by rw [hd]; exact hp.m.ds)
  · exact hnum ho.got (by rw [hg]; exact hp.glen) (by rw [hg]; exact hp.got)
  · rw [hl]; have := hp.xlen; omega
  · intro i hi
    have hi2 : i < p.xs.length := by omega
    obtain ⟨h1, h2, h3, h4⟩ := hp.xs _ (List.getElem_mem hi2)
    have hxi : coreX q.xs[i] = coreX p.xs[i] := by
      have := List.getElem_of_eq hx (i := i) (by simpa using hi)
      simpa using this
    obtain ⟨g, eg, _, hg2, hr⟩ := own_ex ho.xs hi
    refine ⟨⟨by have := congrArg Exch.oe hxi; have h := h1; exact (show q.xs[i].oe = p.xs[i].oe from this) ▸ h, by have := congrArg Exch.ls hxi; have h := h2; exact (show q.xs[i].ls = p.xs[i].ls from this) ▸ h, ?_⟩, g, 0, eg, hg2, by rw [Nat.zero_add]; exact hr⟩
    have hcs : q.xs[i].cs = p.xs[i].cs := by have := congrArg Exch.cs hxi; exact this
    exact hnum (ho.cs _ (List.getElem_mem hi)) (by rw [hcs]; exact h3) (by rw [hcs]; exact h4)
/-- what is parsed is within bounds, whatever comes -/
theorem pktPQ_B (s : ByteArray) : PktB (pktPQ s) := by
  unfold pktPQ
  split
  · rename_i x h
    unfold pktR at h
    split at h
    · cases h
    · rename_i hz
      exact (rdBody_inv (by have := parseE_kind (s := s) (by simpa using hz); exact this) h).2.2.2.2.2
  · exact zeroB
/-- a text that is parsed as a packet is printed back -/
theorem pkt_one {k f : Int} {b : ByteArray} (h : printE k f 1 b = 0) (hr : pktPE (printS k f 1 b) = 0) :
    pktS (pktPQ (printS k f 1 b)) = printS k f 1 b ∧ pktE (pktPQ (printS k f 1 b)) = 0 ∧ selP (pktPQ (printS k f 1 b)) = pktPQ (printS k f 1 b) ∧ (pktPQ (printS k f 1 b)).kind = k ∧ (pktPQ (printS k f 1 b)).frm = f ∧ (pktPQ (printS k f 1 b)).dst = 1 := by
  obtain ⟨h1, h2, h3, h4⟩ := (may_iff _ _ _ _).1 h
  have hS : printS k f 1 b = framed k.toNat f.toNat (1 : Int).toNat b := by unfold printS; rw [if_pos h]
  have hkk : 1 ≤ k ∧ k ≤ 11 := by simpa [kindB] using h1
  have e1 : ((k.toNat : Nat) : Int) = k := by omega
  have e2 : ((f.toNat : Nat) : Int) = f := by simp [procB] at h2; omega
  obtain ⟨f1, f2, f3, f4, f5⟩ := parse_framed k.toNat f.toNat (1 : Int).toNat b (by rw [e1]; exact h1) (by rw [e2]; exact h2) (by exact h3) h4
  rw [← hS] at f1 f2 f3 f4 f5
  generalize hs : printS k f 1 b = s at *
  have hR : pktR s = rdBody k f 1 b.data.toList := by
    unfold pktR
    rw [if_neg (by simpa using f1)]
    unfold parseN parseB
    rw [if_pos f1, if_pos f1, if_pos f1, if_pos f1, f2, f3, f4, f5, e1, e2]
    rfl
  unfold pktPE at hr
  unfold pktPQ
  rcases hx : rdBody k f 1 b.data.toList with c | x
  · rw [hR, hx] at hr
    simp only at hr
    exfalso
    exact rdBody_nz _ _ _ hkk _ _ hx hr
  rw [hR, hx]
  simp only
  obtain ⟨g1, g2, g3, g4, g5, g6⟩ := rdBody_inv hkk hx
  have hb : strL b.data.toList = b := ba_ext _ _ (by simp [strL])
  have h0 : printE k f 1 ⟨#[]⟩ = 0 := (may_iff _ _ _ _).2 ⟨h1, h2, h3, by decide⟩
  refine ⟨?_, ?_, g5, g2, g3, g4⟩
  · unfold pktS
    rw [g2, g3, g4, if_neg (by simpa using h0), g1]
    show printS k f 1 (strL b.data.toList) = s
    rw [hb, hs]
  · unfold pktE
    rw [g2, g3, g4, if_neg (by simpa using h0), g1]
    show printE k f 1 (strL b.data.toList) = 0
    rw [hb]
    exact h
end Go.Proofs.Ytgpojbmloielmaa
