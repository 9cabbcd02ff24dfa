/-
  What was written is read: each part of a body, and the body.
  Conditions: those that each theorem names; no walk.
-/
import Derived.Test.YtgpojbmloielmaaReadI
import Derived.Test.YtgpojbmloielmaaPackQ
namespace Go.Proofs.Ytgpojbmloielmaa
set_option linter.unusedVariables false
set_option linter.unusedSimpArgs false
open Go.RowKit
theorem rdN_put (n v : Nat) (hn : n ≤ 8) (hv : v < 256 ^ n) (l : List UInt8) : rdN n (putL v n ++ l) = .ok (v, l) := by
  unfold rdN
  rw [if_pos (by rw [List.length_append, putL_length]; omega)]
  rw [List.take_append_of_le_length (by rw [putL_length]; omega), List.take_of_length_le (by rw [putL_length]; omega), valL_put n v hn, Nat.mod_eq_of_lt hv]
  rw [List.drop_append_of_le_length (by rw [putL_length]; omega), List.drop_of_length_le (by rw [putL_length]; omega), List.nil_append]
theorem rdProc_put {p : Int} {y : List UInt8} (h : procL p = .ok y) (l : List UInt8) : ∃ v : Nat, p = (v : Int) ∧ rdProc (y ++ l) = .ok (v, l) := by
  unfold procL at h
  split at h
  · rename_i hp
    injection h with h
    subst h
    exact ⟨p.toNat, by omega, rdProc_ok (rdN_put 1 p.toNat (by omega) (by omega) l) (by omega)⟩
  · cases h
theorem rdConf_put {e : Nat} {r : Int} {y : List UInt8} (he : e < 18446744073709551616) (h : confL e r = .ok y) (l : List UInt8) : ∃ v : Nat, r = (v : Int) ∧ rdConf (y ++ l) = .ok ((e, v), l) := by
  obtain ⟨a, b, h1, h2, rfl⟩ := cat_ok h
  injection h1 with h1
  subst h1
  obtain ⟨v, hv, hr⟩ := rdProc_put h2 l
  refine ⟨v, hv, ?_⟩
  unfold rdConf
  rw [List.append_assoc, rdN_put 8 e (by omega) (by simpa using he)]
  simp only []
  rw [hr]
theorem rdNs_put : ∀ (ds : List Nat) (hd : ∀ d ∈ ds, d < 4294967296) (l : List UInt8), rdNs ds.length (vecB ds ++ l) = .ok (ds, l)
  | [], _, l => rfl
  | d :: ds, hd, l => by
    show rdNs (ds.length + 1) (putL d 4 ++ vecB ds ++ l) = _
    rw [List.append_assoc, rdNs, rdN_put 4 d (by omega) (by have := hd d (by simp); simpa using this)]
    simp only []
    rw [rdNs_put ds (fun x hx => hd x (by simp [hx])) l]
theorem rdVec_put {ds : List Nat} {y : List UInt8} (hd : ∀ d ∈ ds, d < 4294967296) (h : vecL ds = .ok y) (l : List UInt8) : rdVec (y ++ l) = .ok (ds, l) := by
  unfold vecL at h
  split at h
  · cases h
  · rename_i h64
    injection h with h
    subst h
    unfold rdVec
    rw [List.append_assoc, rdN_put 1 ds.length (by omega) (by omega)]
    simp only []
    rw [if_neg h64, rdNs_put ds hd l]
theorem rdT_put (b : ByteArray) (l : List UInt8) : rdT b.size (b.data.toList ++ l) = .ok (b, l) := by
  have hb : b.data.toList.length = b.size := rfl
  unfold rdT
  rw [if_pos (by rw [List.length_append, hb]; omega), List.take_append_of_le_length (by omega), List.take_of_length_le (by omega), List.drop_append_of_le_length (by omega), List.drop_of_length_le (by omega), List.nil_append]
/-- a message without its address, of a sender -/
def msgC (f : Int) (m : Msg) : Msg := { m with frm := f, da := none, dc := 0 }
theorem rdMsg_put {m : Msg} {y : List UInt8} (hs : m.seq < 4294967296) (ht : m.stamp < 18446744073709551616) (hd : ∀ d ∈ m.ds, d < 4294967296) (h : msgL m = .ok y) (f : Int) (l : List UInt8) : rdMsg f (y ++ l) = .ok (msgC f m, l) := by
  unfold msgL at h
  split at h
  · cases h
  rename_i hsv
  split at h
  · cases h
  rename_i hp
  obtain ⟨a, b, h1, h2, rfl⟩ := cat_ok h
  obtain ⟨c, d, h3, h4, rfl⟩ := cat_ok h2
  obtain ⟨e, g, h5, h6, rfl⟩ := cat_ok h4
  obtain ⟨i, j, h7, h8, rfl⟩ := cat_ok h6
  obtain ⟨k, o, h9, h10, rfl⟩ := cat_ok h8
  injection h1 with h1
  injection h3 with h3
  injection h5 with h5
  injection h9 with h9
  injection h10 with h10
  subst h1 h3 h5 h9 h10
  unfold rdMsg
  simp only [List.append_assoc]
  rw [andR_ok (rdN_put 4 m.seq (by omega) (by simpa using hs) _), andR_ok (rdN_put 8 m.stamp (by omega) (by simpa using ht) _), andR_ok (rdN_put 1 m.service.toNat (by omega) (by omega) _)]
  unfold rdMsg2
  rw [if_neg (by omega), andR_ok (rdVec_put hd h7 _)]
  unfold rdMsg3
  rw [andR_ok (rdN_put 2 m.pay.size (by omega) (by omega) _), if_neg hp, andR_ok (rdT_put m.pay l)]
  unfold msgC
  congr 2
  have : ((m.service.toNat : Nat) : Int) = m.service := by omega
  rw [this]
theorem rdEx_put {x : Exch} {y : List UInt8} (ho : x.oe < 18446744073709551616) (hl : x.ls < 18446744073709551616) (hd : ∀ d ∈ x.cs, d < 4294967296) (h : exL x = .ok y) (l : List UInt8) : rdEx (y ++ l) = .ok (coreX x, l) := by
  obtain ⟨a, b, h1, h2, rfl⟩ := cat_ok h
  obtain ⟨c, d, h3, h4, rfl⟩ := cat_ok h2
  obtain ⟨e, f, h5, h6, rfl⟩ := cat_ok h4
  unfold rdEx
  simp only [List.append_assoc]
  obtain ⟨v1, e1, g1⟩ := rdProc_put h1 (c ++ (e ++ (f ++ l)))
  obtain ⟨v2, e2, g2⟩ := rdConf_put ho h3 (e ++ (f ++ l))
  obtain ⟨v3, e3, g3⟩ := rdConf_put hl h6 l
  rw [andR_ok g1, andR_ok g2, andR_ok (rdVec_put hd h5 _), andR_ok g3]
  unfold coreX
  rw [e1, e2, e3]
theorem rdExs_put : ∀ (xs : List Exch) (hx : ∀ x ∈ xs, x.oe < 18446744073709551616 ∧ x.ls < 18446744073709551616 ∧ ∀ d ∈ x.cs, d < 4294967296) (y : List UInt8) (h : exsL xs = .ok y) (l : List UInt8), rdExs xs.length (y ++ l) = .ok (xs.map coreX, l)
  | [], _, y, h, l => by injection h with h; subst h; rfl
  | x :: xs, hx, y, h, l => by
    obtain ⟨a, b, h1, h2, rfl⟩ := cat_ok h
    obtain ⟨q1, q2, q3⟩ := hx x (by simp)
    show andR (rdEx (a ++ b ++ l)) _ = _
    rw [List.append_assoc, andR_ok (rdEx_put q1 q2 q3 h1 _), andR_ok (rdExs_put xs (fun z hz => hx z (by simp [hz])) b h2 l)]
    rfl
end Go.Proofs.Ytgpojbmloielmaa
