/-
  What was written is read: the body of a kind.
  Conditions: those that each theorem names; no walk.
-/
import Derived.Test.YtgpojbmloielmaaPackRA
namespace Go.Proofs.Ytgpojbmloielmaa
set_option linter.unusedVariables false
set_option linter.unusedSimpArgs false
open Go.RowKit
theorem nums_lt {w : World} {da : Option Addr} {ds : List Nat} (h : NumsOk w da ds) : ∀ d ∈ ds, d < 4294967296 := fun d hd => by
  obtain ⟨i, hi, rfl⟩ := List.getElem_of_mem hd
  exact (h.2 i hi).1
theorem exs_lt {w : World} {xa : Option Addr} {xs : List Exch} (h : ExsOk w xa xs) : ∀ x ∈ xs, x.oe < 18446744073709551616 ∧ x.ls < 18446744073709551616 ∧ ∀ d ∈ x.cs, d < 4294967296 := fun x hx => by
  obtain ⟨i, hi, rfl⟩ := List.getElem_of_mem hx
  exact ⟨(h.2 i hi).1.1, (h.2 i hi).1.2.1, nums_lt (h.2 i hi).1.2.2⟩
theorem finR_nil (q : Pkt) : finR q [] = .ok (q, []) := rfl
theorem rdKind_1 (z : Pkt) (l : List UInt8) : rdKind 1 z l = rdK1 z l := by unfold rdKind; simp
theorem rdKind_2 (z : Pkt) (l : List UInt8) : rdKind 2 z l = rdK2 z l := by unfold rdKind; simp
theorem rdKind_3 (z : Pkt) (l : List UInt8) : rdKind 3 z l = rdK3 z l := by unfold rdKind; simp
theorem rdKind_4 (z : Pkt) (l : List UInt8) : rdKind 4 z l = rdK4 z l := by unfold rdKind; simp
theorem rdKind_5 (z : Pkt) (l : List UInt8) : rdKind 5 z l = rdK5 z l := by unfold rdKind; simp
theorem rdKind_6 (z : Pkt) (l : List UInt8) : rdKind 6 z l = rdK6 z l := by unfold rdKind; simp
theorem rdKind_7 (z : Pkt) (l : List UInt8) : rdKind 7 z l = rdK7 z l := by unfold rdKind; simp
theorem rdKind_8 (z : Pkt) (l : List UInt8) : rdKind 8 z l = rdK3 z l := by unfold rdKind; simp
theorem rdKind_9 (z : Pkt) (l : List UInt8) : rdKind 9 z l = rdK9 z l := by unfold rdKind; simp
theorem rdKind_10 (z : Pkt) (l : List UInt8) : rdKind 10 z l = finR z l := by unfold rdKind; simp
theorem rdKind_11 (z : Pkt) (l : List UInt8) : rdKind 11 z l = finR z l := by unfold rdKind; simp
set_option maxHeartbeats 1000000 in
theorem rdBody_put {p : Pkt} {w : World} (hp : PktOk w p) (hk : 1 ≤ p.kind ∧ p.kind ≤ 11) {y : List UInt8} (h : bodyL p = .ok y) : ∃ q, rdBody p.kind p.frm p.dst y = .ok (q, []) ∧ coreP q = coreP (selP p) := by
  unfold bodyL at h
  obtain ⟨a, b, h1, h2, rfl⟩ := cat_ok h
  obtain ⟨v, hv, hc⟩ := rdConf_put hp.ce h1 b
  unfold rdBody
  rw [andR_ok hc]
  have hm := nums_lt hp.m.2.2.2
  have hg := nums_lt hp.got
  have hx := exs_lt hp.xs
  rcases kind_cases hk with e | e | e | e | e | e | e | e | e | e | e <;> simp only [e, reduceIte, Int.reduceEq, false_or, or_false, or_self, or_true, true_or] at h2
  · have g := rdMsg_put hp.m.2.1 hp.m.2.2.1 hm h2 p.frm []
    rw [List.append_nil] at g
    refine ⟨_, (by rw [e, rdKind_1]; unfold rdK1; rw [andR_ok g]; exact finR_nil _), ?_⟩
    simp [selP, selC, selZ, coreP, msgC, e, hv, zeroP]
  · obtain ⟨c, d, h3, h4, rfl⟩ := cat_ok h2
    obtain ⟨f, i, h5, h6, rfl⟩ := cat_ok h4
    obtain ⟨j, k, h7, h8, rfl⟩ := cat_ok h6
    injection h3 with h3
    injection h5 with h5
    injection h8 with h8
    subst h3 h5 h8
    have g := rdN_put 8 p.hor (by omega) (by simpa using hp.hor) []
    rw [List.append_nil] at g
    refine ⟨_, (by rw [e, rdKind_2]; unfold rdK2; rw [andR_ok (rdN_put 8 p.stamp (by omega) (by simpa using hp.stamp) _), andR_ok (rdN_put 4 p.sent (by omega) (by simpa using hp.sent) _), andR_ok (rdVec_put hg h7 _), andR_ok g]; exact finR_nil _), ?_⟩
    simp [selP, selC, selZ, coreP, e, hv, zeroP]
  · obtain ⟨c, d, h3, h4, rfl⟩ := cat_ok h2
    injection h4 with h4
    subst h4
    obtain ⟨u, hu, g1⟩ := rdProc_put h3 (putL p.seq 4)
    have g := rdN_put 4 p.seq (by omega) (by simpa using hp.seq) []
    rw [List.append_nil] at g
    refine ⟨_, (by rw [e, rdKind_3]; unfold rdK3; rw [andR_ok g1, andR_ok g]; exact finR_nil _), ?_⟩
    simp [selP, selC, selZ, coreP, e, hv, hu, zeroP]
  · obtain ⟨c, d, h3, h4, rfl⟩ := cat_ok h2
    obtain ⟨f, i, h5, h6, rfl⟩ := cat_ok h4
    injection h5 with h5
    injection h6 with h6
    subst h5 h6
    obtain ⟨u, hu, g1⟩ := rdConf_put hp.pe h3 (putL p.epoch 8 ++ putL p.mem 8)
    have g := rdN_put 8 p.mem (by omega) (by simpa using hp.mem) []
    rw [List.append_nil] at g
    refine ⟨_, (by rw [e, rdKind_4]; unfold rdK4; rw [andR_ok g1, andR_ok (rdN_put 8 p.epoch (by omega) (by simpa using hp.epoch) _), andR_ok g]; exact finR_nil _), ?_⟩
    simp [selP, selC, selZ, coreP, e, hv, hu, zeroP]
  · injection h2 with h2
    subst h2
    have g := rdN_put 8 p.mem (by omega) (by simpa using hp.mem) []
    rw [List.append_nil] at g
    refine ⟨_, (by rw [e, rdKind_5]; unfold rdK5; rw [andR_ok g]; exact finR_nil _), ?_⟩
    simp [selP, selC, selZ, coreP, e, hv, zeroP]
  · unfold oneX at h2
    split at h2
    · rename_i x ex
      have hx1 := hx x (by rw [ex]; simp)
      have g := rdEx_put hx1.1 hx1.2.1 hx1.2.2 h2 []
      rw [List.append_nil] at g
      refine ⟨_, (by rw [e, rdKind_6]; unfold rdK6; rw [andR_ok g]; exact finR_nil _), ?_⟩
      simp [selP, selC, selZ, coreP, e, hv, zeroP, ex, coreX]
    · cases h2
  · split at h2
    · cases h2
    rename_i h64
    obtain ⟨c, d, h3, h4, rfl⟩ := cat_ok h2
    obtain ⟨f, i, h5, h6, rfl⟩ := cat_ok h4
    injection h3 with h3
    injection h5 with h5
    subst h3 h5
    have g := rdExs_put p.xs hx i h6 []
    rw [List.append_nil] at g
    refine ⟨_, (by rw [e, rdKind_7]; unfold rdK7; rw [andR_ok (rdN_put 8 p.mem (by omega) (by simpa using hp.mem) _), andR_ok (rdN_put 1 p.xs.length (by omega) (by omega) _), if_neg h64, andR_ok g]; exact finR_nil _), ?_⟩
    have := coreP_xs { selC p with mem := p.mem } p.xs none 0
    simp [selP, selC, selZ, coreP, e, hv, zeroP, coreX, Function.comp_def]
  · obtain ⟨c, d, h3, h4, rfl⟩ := cat_ok h2
    injection h4 with h4
    subst h4
    obtain ⟨u, hu, g1⟩ := rdProc_put h3 (putL p.seq 4)
    have g := rdN_put 4 p.seq (by omega) (by simpa using hp.seq) []
    rw [List.append_nil] at g
    refine ⟨_, (by rw [e, rdKind_8]; unfold rdK3; rw [andR_ok g1, andR_ok g]; exact finR_nil _), ?_⟩
    simp [selP, selC, selZ, coreP, e, hv, hu, zeroP]
  · obtain ⟨c, d, h3, h4, rfl⟩ := cat_ok h2
    obtain ⟨u, hu, g1⟩ := rdProc_put h3 d
    have g := rdMsg_put hp.m.2.1 hp.m.2.2.1 hm h4 (u : Int) []
    rw [List.append_nil] at g
    refine ⟨_, (by rw [e, rdKind_9]; unfold rdK9; rw [andR_ok g1, andR_ok g]; exact finR_nil _), ?_⟩
    simp [selP, selC, selZ, coreP, msgC, e, hv, hu, zeroP]
  · injection h2 with h2
    subst h2
    refine ⟨_, (by rw [e, rdKind_10]; exact finR_nil _), ?_⟩
    simp [selP, selC, selZ, coreP, e, hv, zeroP]
  · injection h2 with h2
    subst h2
    refine ⟨_, (by rw [e, rdKind_11]; exact finR_nil _), ?_⟩
    simp [selP, selC, selZ, coreP, e, hv, zeroP]
end Go.Proofs.Ytgpojbmloielmaa
