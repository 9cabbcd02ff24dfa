/-
  The law's play: an act of whatever kind leaves both orders side by side.
  Conditions: those that each theorem names.
-/
import Derived.Test.YtgjlcjbmcnofiaaDoorPlT
namespace Go.Proofs.YtgjlcjbmcnofiaaDoor
set_option linter.unusedVariables false
set_option linter.unusedSimpArgs false
open Go.RowKit
/-- both orders above w0, behind k acts; blocks of F lie apart -/
structure Pl (w0 w : World) (B D Z k : Nat) (O : PO) (S : RO) (va vz : Value) (F : Nat → Prop) : Prop where
  ex : ∃ V VH, PlayAt w B D Z V VH O S va vz ∧ (∀ b, orS B D Z V VH b → w0.heap.size ≤ b) ∧ ∀ b, F b → ¬ orS B D Z V VH b
  inv : InvO k O
  la : S.A.length ≤ k
  lt : S.T.length ≤ k
  ok : ∀ m ∈ S.A, MsgOk w0 m
  apA : ∀ p n c, va = .slice (some p) n c → 0 < S.A.length → ¬ F p.block
  apZ : ∀ p n c, vz = .slice (some p) n c → 0 < S.T.length → ¬ F p.block
  lF : ∀ b, F b → b < w.heap.size
  fF : ∀ b, F b → w0.heap.size ≤ b
  tb : Tab w0
  bel : Below w0.heap.size w0 w
theorem dr_ok {S : RO} {O : PO} {k : Nat} (h : RefO S O) (hi : InvO k O) (hk : k ≤ 1000) (hl : S.A.length ≤ 1000) : DrOk S := by
  refine ⟨fun m hm => ?_, fun p hp => ?_⟩
  · have hp := procB_iff.1 (h.h.frm m hm)
    obtain ⟨q, hq⟩ := Int.eq_ofNat_of_zero_le hp.1
    have hmem : m ∈ ofP S.A (q : Int) := List.mem_filter.2 ⟨hm, by simpa using hq⟩
    obtain ⟨j, hj, e⟩ := List.mem_iff_getElem.1 hmem
    have hn := h.h.num q (by omega) j hj
    rw [e] at hn
    have := ofP_len S.A (q : Int)
    omega
  · rw [h.dn]
    have h1 := hi.dn p hp
    have h2 := h.h.len hp
    have := ofP_len S.A (p : Int)
    omega
theorem msgOk_apart {w0 : World} {m : Msg} (h : MsgOk w0 m) : ∀ p, m.da = some p → 0 < m.ds.length → p.block < w0.heap.size := fun p e hn => by
  obtain ⟨B, O, e2, hB, _⟩ := h.2.2.2.2 0 hn
  rw [e] at e2
  injection e2 with e2
  rw [e2]
  exact hB
/-- a step of both -/
theorem Pl.step {w0 w w' : World} {B D Z k : Nat} {O O' : PO} {S S' : RO} {va vz ua uz : Value} {F : Nat → Prop} {V VH V1 VH1 : Nat → Value} (h : Pl w0 w B D Z k O S va vz F) (hp : PlayAt w B D Z V VH O S va vz) (hfr : ∀ b, orS B D Z V VH b → w0.heap.size ≤ b) (hF : ∀ b, F b → ¬ orS B D Z V VH b)
    (hst : OrSt w B D Z V VH O' w' V1 VH1) (hra : RowsIn w' ua S'.A) (hrz : ToldIn w' uz S'.T) (ha : ∀ p n c, ua = .slice (some p) n c → 0 < S'.A.length → ¬ orS B D Z V1 VH1 p.block) (hz : ∀ p n c, uz = .slice (some p) n c → 0 < S'.T.length → ¬ orS B D Z V1 VH1 p.block) (hna : NewV w va ua) (hnz : NewV w vz uz)
    (href : RefO S' O') (hi : InvO (k + 1) O') (hla : S'.A.length ≤ k + 1) (hlt : S'.T.length ≤ k + 1) (hok : ∀ m ∈ S'.A, MsgOk w0 m) (hk : k < 1000) : Pl w0 w' B D Z (k + 1) O' S' ua uz F ∧ Keep F w w' := by
  have hbel : Below w0.heap.size w0 w' := hst.kept.out h.bel h.bel.size (fun b hb e => by have := hfr b e; omega)
  have hfr1 : ∀ b, orS B D Z V1 VH1 b → w0.heap.size ≤ b := fun b e => by
    rcases orS_new hst.n1 hst.n2 e with e | e
    · exact hfr b e
    · have := h.bel.size; omega
  refine ⟨⟨⟨V1, VH1, ⟨hst.at_, hi.ok (by omega), hst.tab hp.tab, href, hra, hrz, ha, hz, fun m hm => ⟨(hok m hm).below hbel, fun p e hn ho => ?_⟩⟩, hfr1, fun b hb e => ?_⟩, hi, hla, hlt, hok, fun p n c e hn hb => ?_, fun p n c e hn hb => ?_, fun b hb => Nat.lt_of_lt_of_le (h.lF b hb) hst.kept.size, h.fF, h.tb, hbel⟩, ⟨_, hst.kept, hp.at_.calm, hF⟩⟩
  · have := msgOk_apart (hok m hm) p e hn
    have := hfr1 _ ho
    omega
  · rcases orS_new hst.n1 hst.n2 e with e | e
    · exact hF b hb e
    · have := h.lF b hb; omega
  · rcases hp.rows.newApart hra hna p n c e hn with ⟨e0, hl0, _⟩ | g
    · exact h.apA p n c (by rw [← e0]; exact e) hl0 hb
    · have := h.lF _ hb; omega
  · rcases hp.told.newApart hrz hnz p n c e hn with ⟨e0, hl0, _⟩ | g
    · exact h.apZ p n c (by rw [← e0]; exact e) hl0 hb
    · have := h.lF _ hb; omega
/-- where the rows stay -/
theorem Pl.stay {w0 w w' : World} {B D Z k : Nat} {O O' : PO} {S S' : RO} {va vz : Value} {F : Nat → Prop} {V VH V1 VH1 : Nat → Value} (h : Pl w0 w B D Z k O S va vz F) (hp : PlayAt w B D Z V VH O S va vz) (hfr : ∀ b, orS B D Z V VH b → w0.heap.size ≤ b) (hF : ∀ b, F b → ¬ orS B D Z V VH b)
    (hst : OrSt w B D Z V VH O' w' V1 VH1) (eA : S'.A = S.A) (eT : S'.T = S.T) (href : RefO S' O') (hi : InvO (k + 1) O') (hk : k < 1000) : Pl w0 w' B D Z (k + 1) O' S' va vz F ∧ Keep F w w' := by
  have hbk : ∀ {v : Value} {l : List Msg}, RowsIn w v l → ∀ p n c, v = .slice (some p) n c → 0 < l.length → p.block < w.heap.size := fun hr p n c e hn => by
    obtain ⟨ad, cap, rfl, hr⟩ := hr
    obtain ⟨a, rfl, hb, _⟩ := hr.2 hn
    injection e with e _ _
    injection e with e
    rw [← e]; exact hb
  have hbt : ∀ {v : Value} {l : List Tld}, ToldIn w v l → ∀ p n c, v = .slice (some p) n c → 0 < l.length → p.block < w.heap.size := fun hr p n c e hn => by
    obtain ⟨ad, cap, rfl, hr⟩ := hr
    obtain ⟨a, rfl, hb, _⟩ := hr.2 hn
    injection e with e _ _
    injection e with e
    rw [← e]; exact hb
  refine h.step hp hfr hF hst (by rw [eA]; exact hp.rows.keptS hst.kept hp.apA) (by rw [eT]; exact hp.told.keptS hst.kept hp.apT) (fun p n c e hn => ?_) (fun p n c e hn => ?_) (.inl rfl) (.inl rfl) href hi (by rw [eA]; have := h.la; omega) (by rw [eT]; have := h.lt; omega) (by rw [eA]; exact h.ok) hk
  · rw [eA] at hn
    exact fun ho => by
      rcases orS_new hst.n1 hst.n2 ho with ho | ho
      · exact hp.apA p n c e hn ho
      · have := hbk hp.rows p n c e hn; omega
  · rw [eT] at hn
    exact fun ho => by
      rcases orS_new hst.n1 hst.n2 ho with ho | ho
      · exact hp.apT p n c e hn ho
      · have := hbt hp.told p n c e hn; omega
theorem tellRO_len (S : RO) (t : Tld) : (tellRO S t).A = S.A ∧ (tellRO S t).T.length ≤ S.T.length + 1 := by
  unfold tellRO
  split
  · exact ⟨rfl, by simp⟩
  · exact ⟨rfl, by omega⟩
theorem takeRO_len (S : RO) (m : Msg) : (takeRO S m).A.length ≤ S.A.length + 1 ∧ (takeRO S m).T.length ≤ S.T.length + 1 ∧ ∀ x ∈ (takeRO S m).A, x ∈ S.A ∨ x = m := by
  unfold takeRO
  split
  · split
    · have := tellRO_len { S with A := S.A ++ [m] } ⟨0, m.frm, m.seq, m.stamp⟩
      rw [this.1]
      exact ⟨by simp, this.2, fun x hx => by simpa using hx⟩
    · exact ⟨by simp, by simp, fun x hx => by simpa using hx⟩
  · exact ⟨by omega, by omega, fun x hx => .inl hx⟩
theorem trimR_len (S : RO) (p : Int) (u : Nat) : (trimR S p u).A = S.A ∧ (trimR S p u).T = S.T := by
  unfold trimR
  split <;> exact ⟨rfl, rfl⟩
theorem InvO.next {k : Nat} {O : PO} (h : InvO k O) : InvO k O.next := by
  unfold PO.next
  cases hr : O.ripe with
  | none => exact h
  | some m => exact h.took hr
def PlEnd (w0 w : World) (B D Z k : Nat) (F : Nat → Prop) (e : Ending) (w' : World) : Prop :=
  ∃ O' S' ua uz, e = .returned (.tuple #[.agg (rfC S' ua uz), .bool true]) ∧ Pl w0 w' B D Z (k + 1) O' S' ua uz F ∧ Keep F w w'
theorem play_any {w0 w : World} {B D Z k : Nat} {O : PO} {S : RO} {va vz : Value} {F : Nat → Prop} (a : ActO) (h : Pl w0 w B D Z k O S va vz F) (hk : k ≤ 400) (hm : MsgOk w0 a.m) (hds : a.m.ds.length ≤ 20000) (hq : a.seq < 4294967296) (hu : a.stamp < 18446744073709551616) :
    Calls Tryd.prog 25 #[.pointer (some ⟨B, 0, none⟩), .agg (rfC S va vz), .agg (actA a)] w (PlEnd w0 w B D Z k F) := by
  obtain ⟨V, VH, hp, hfr, hF⟩ := h.ex
  have hla := h.la
  have hlt := h.lt
  have hdk := dr_ok hp.ref h.inv (by omega) (by omega)
  have hpf := hp.ref.h.frm
  by_cases k0 : a.kind = 0
  · refine (playA_any a hp k0 (hm.below h.bel) (by omega) hm.2.2.1 (by omega) (by omega)).mono ?_
    rintro e w' ⟨ua, uz, O1, V1, VH1, rfl, hto, hst, hra, hrz, ha, hz, hna, hnz⟩
    obtain ⟨l1, l2, l3⟩ := takeRO_len S a.m
    have hok : ∀ m ∈ (takeRO S a.m).A, MsgOk w0 m := fun m hm2 => by
      rcases l3 m hm2 with g | g
      · exact h.ok m g
      · rw [g]; exact hm
    rcases hto with ⟨t1, rfl⟩ | ⟨t1, m', t2, rfl⟩
    · have href : RefO (takeRO S a.m) O1 := by rw [hp.ref.same a.m t1]; exact hp.ref
      obtain ⟨g1, g2⟩ := h.step hp hfr hF hst hra hrz ha hz hna hnz href h.inv.more (by omega) (by omega) hok (by omega)
      exact ⟨_, _, _, _, rfl, g1, g2⟩
    · obtain ⟨g1, g2⟩ := h.step hp hfr hF hst hra hrz ha hz hna hnz (hp.ref.take a.m m' t1 t2) (h.inv.take t1 t2 hds) (by omega) (by omega) hok (by omega)
      exact ⟨_, _, _, _, rfl, g1, g2⟩
  by_cases k1 : a.kind = 1
  · refine (playP_any a hp k1 hu (by omega)).mono ?_
    rintro e w' ⟨uz, V1, VH1, rfl, hst, hra, hrz, ha, hz, hnz⟩
    obtain ⟨l1, l2⟩ := tellRO_len S ⟨1, a.p, a.seq, a.stamp⟩
    obtain ⟨g1, g2⟩ := h.step hp hfr hF hst (by rw [l1]; exact hra) hrz (by rw [l1]; exact ha) hz (.inl rfl) hnz (hp.ref.promise a.p a.stamp a.seq) (h.inv.more.setH (h.inv.hz.promise _ _ _)) (by rw [l1]; omega) (by omega) (by rw [l1]; exact h.ok) (by omega)
    exact ⟨_, _, _, _, rfl, g1, g2⟩
  by_cases k2 : a.kind = 2
  · refine (playR_any a hp k2 hu (by omega)).mono ?_
    rintro e w' ⟨uz, V1, VH1, rfl, hst, hra, hrz, ha, hz, hnz⟩
    obtain ⟨l1, l2⟩ := tellRO_len S ⟨2, a.p, 0, a.stamp⟩
    obtain ⟨g1, g2⟩ := h.step hp hfr hF hst (by rw [l1]; exact hra) hrz (by rw [l1]; exact ha) hz (.inl rfl) hnz (hp.ref.reached a.p a.stamp 0) (h.inv.more.setH (h.inv.hz.more.reached _ _)) (by rw [l1]; omega) (by omega) (by rw [l1]; exact h.ok) (by omega)
    exact ⟨_, _, _, _, rfl, g1, g2⟩
  by_cases k3 : a.kind = 3
  · refine (playX_any a hp k3 (by omega) (by omega) hpf hdk).mono ?_
    rintro e w' ⟨rfl, V1, VH1, hst⟩
    obtain ⟨e1, _, _, _, e2, _, _⟩ := nextRO_same (S := S) (al := alO S O) (sf := sfO S O)
    obtain ⟨g1, g2⟩ := h.stay hp hfr hF hst e1 e2 hp.ref.next.2 h.inv.more.next (by omega)
    exact ⟨_, _, _, _, rfl, g1, g2⟩
  by_cases k4 : a.kind = 4
  · refine (playD_any a hp k4 (by omega) (by omega) hpf hdk).mono ?_
    rintro e w' ⟨S', rfl, L, K, O', V1, VH1, hdr, hnr, hdn, hrp, hst⟩
    obtain ⟨e1, _, _, _, e2, _, _⟩ := hdr.same
    obtain ⟨g1, g2⟩ := h.stay hp hfr hF hst e1 e2 (hp.ref.drain hdr hnr hdn hrp).2 (h.inv.more.drn hdn) (by omega)
    exact ⟨_, _, _, _, rfl, g1, g2⟩
  by_cases k5 : a.kind = 5
  · refine (playT_any a hp k5 hq (by omega)).mono ?_
    rintro e w' ⟨rfl, V1, VH1, hst⟩
    obtain ⟨e1, e2⟩ := trimR_len S a.p a.seq
    obtain ⟨g1, g2⟩ := h.stay hp hfr hF hst e1 e2 (hp.ref.trim a.p a.seq) (h.inv.trim _ _) (by omega)
    exact ⟨_, _, _, _, rfl, g1, g2⟩
  · have h1 : va.oneCell' = true := by obtain ⟨ad, cap, rfl, _⟩ := hp.rows; rfl
    have h2 : vz.oneCell' = true := by obtain ⟨ad, cap, rfl, _⟩ := hp.told; rfl
    refine (playN_any (D := D) (Z := Z) (V := V) (VH := VH) (O := O) a (by omega) h1 h2).mono ?_
    rintro e w' ⟨rfl, hb⟩
    have hst : OrSt w B D Z V VH O w' V VH := ⟨hp.at_.below hb, Kept.of_below hb, newV_refl w V, newV_refl w VH⟩
    obtain ⟨g1, g2⟩ := h.stay hp hfr hF hst rfl rfl hp.ref h.inv.more (by omega)
    exact ⟨_, _, _, _, rfl, g1, g2⟩
end Go.Proofs.YtgjlcjbmcnofiaaDoor
namespace Go.Proofs.YtgjlcjbmcnofiaaDoor
set_option linter.unusedVariables false
set_option linter.unusedSimpArgs false
open Go.RowKit
theorem rows_lt {w : World} {v : Value} {l : List Msg} (hr : RowsIn w v l) : ∀ p n c, v = .slice (some p) n c → 0 < l.length → p.block < w.heap.size := fun p n c e hn => by
  obtain ⟨ad, cap, rfl, hr⟩ := hr
  obtain ⟨a, rfl, hb, _⟩ := hr.2 hn
  injection e with e _ _
  injection e with e
  rw [← e]; exact hb
theorem told_lt {w : World} {v : Value} {l : List Tld} (hr : ToldIn w v l) : ∀ p n c, v = .slice (some p) n c → 0 < l.length → p.block < w.heap.size := fun p n c e hn => by
  obtain ⟨ad, cap, rfl, hr⟩ := hr
  obtain ⟨a, rfl, hb, _⟩ := hr.2 hn
  injection e with e _ _
  injection e with e
  rw [← e]; exact hb
theorem abA_mem {A : List Msg} {lo : Nat → Nat} {a b : Int} {t : Nat} {m : Msg} (h : m ∈ aboveA A lo a b t) : m ∈ A := by
  unfold aboveA at h
  obtain ⟨p, _, h2⟩ := List.mem_flatMap.1 h
  exact fromA_mem (List.mem_filter.1 h2).1
/-- blocks of F may be written -/
theorem Pl.aside {w0 w w' : World} {B D Z k : Nat} {O : PO} {S : RO} {va vz : Value} {F T : Nat → Prop} (h : Pl w0 w B D Z k O S va vz F) (hk : Kept T w w') (hc : Calm w T) (hT : ∀ b, T b → F b) : Pl w0 w' B D Z k O S va vz F := by
  obtain ⟨V, VH, hp, hfr, hF⟩ := h.ex
  have hbel : Below w0.heap.size w0 w' := hk.out h.bel h.bel.size (fun b hb e => by have := h.fF b (hT b e); omega)
  refine ⟨⟨V, VH, ⟨hp.at_.kept hk (fun b hb e => hF b (hT b e) hb) hc, hp.ok, ⟨hp.tab.1.kept hk (fun e => by have := h.fF _ (hT _ e); have := h.tb.lt; omega), hp.tab.2⟩, hp.ref, hp.rows.keptS hk (fun p n c e hn ht => h.apA p n c e hn (hT _ ht)), hp.told.keptS hk (fun p n c e hn ht => h.apZ p n c e hn (hT _ ht)), hp.apA, hp.apT, fun m hm => ⟨(h.ok m hm).below hbel, (hp.msg m hm).2⟩⟩, hfr, hF⟩, h.inv, h.la, h.lt, h.ok, h.apA, h.apZ, fun b hb => Nat.lt_of_lt_of_le (h.lF b hb) hk.size, h.fF, h.tb, hbel⟩
/-- new blocks lie apart -/
theorem Pl.add {w0 w w' : World} {B D Z k : Nat} {O : PO} {S : RO} {va vz : Value} {F G : Nat → Prop} (h : Pl w0 w B D Z k O S va vz F) (hb : Below w.heap.size w w') (hG : ∀ b, G b → F b ∨ (w.heap.size ≤ b ∧ b < w'.heap.size)) : Pl w0 w' B D Z k O S va vz G := by
  obtain ⟨V, VH, hp, hfr, hF⟩ := h.ex
  have hbel : Below w0.heap.size w0 w' := bt h.bel hb
  refine ⟨⟨V, VH, ⟨hp.at_.below hb, hp.ok, ⟨hp.tab.1.below hb hp.tab.1.lt, hp.tab.2⟩, hp.ref, hp.rows.below hb, hp.told.below hb, hp.apA, hp.apT, fun m hm => ⟨(h.ok m hm).below hbel, (hp.msg m hm).2⟩⟩, hfr, fun b hb2 e => ?_⟩, h.inv, h.la, h.lt, h.ok, fun p n c e hn hg => ?_, fun p n c e hn hg => ?_, fun b hb2 => ?_, fun b hb2 => ?_, h.tb, hbel⟩
  · rcases hG b hb2 with g | g
    · exact hF b g e
    · have := hp.at_.sz e; omega
  · rcases hG _ hg with g | g
    · exact h.apA p n c e hn g
    · have := rows_lt hp.rows p n c e hn; omega
  · rcases hG _ hg with g | g
    · exact h.apZ p n c e hn g
    · have := told_lt hp.told p n c e hn; omega
  · rcases hG b hb2 with g | g
    · exact Nat.lt_of_lt_of_le (h.lF b g) hb.size
    · exact g.2
  · rcases hG b hb2 with g | g
    · exact h.fF b g
    · have := h.bel.size; omega
theorem Pl.below {w0 w w' : World} {B D Z k : Nat} {O : PO} {S : RO} {va vz : Value} {F : Nat → Prop} (h : Pl w0 w B D Z k O S va vz F) (hb : Below w.heap.size w w') : Pl w0 w' B D Z k O S va vz F := h.add hb (fun _ h => .inl h)
theorem Pl.one {w0 w : World} {B D Z k : Nat} {O : PO} {S : RO} {va vz : Value} {F : Nat → Prop} (h : Pl w0 w B D Z k O S va vz F) : va.oneCell' = true ∧ vz.oneCell' = true := by
  obtain ⟨V, VH, hp, _, _⟩ := h.ex
  exact ⟨by obtain ⟨ad, cap, rfl, _⟩ := hp.rows; rfl, by obtain ⟨ad, cap, rfl, _⟩ := hp.told; rfl⟩
theorem Pl.cZ {w0 w : World} {B D Z k : Nat} {O : PO} {S : RO} {va vz : Value} {F : Nat → Prop} (h : Pl w0 w B D Z k O S va vz F) : w.cell? ⟨B, 1, none⟩ = some (.pointer (some ⟨Z, 0, none⟩)) := by
  obtain ⟨V, VH, hp, _, _⟩ := h.ex
  exact hp.at_.cZ
theorem Pl.ref {w0 w : World} {B D Z k : Nat} {O : PO} {S : RO} {va vz : Value} {F : Nat → Prop} (h : Pl w0 w B D Z k O S va vz F) : RefO S O := by
  obtain ⟨V, VH, hp, _, _⟩ := h.ex
  exact hp.ref
theorem Pl.last {w0 w : World} {B D Z k : Nat} {O : PO} {S : RO} {va vz : Value} {F : Nat → Prop} (h : Pl w0 w B D Z k O S va vz F) : Calls Tryd.prog 22 #[.pointer (some ⟨B, 0, none⟩)] w fun e w' => e = .returned (.agg #[.int .u64 (S.ls : Int), .int .i64 S.lf]) ∧ Below w.heap.size w w' := by
  obtain ⟨V, VH, hp, _, _⟩ := h.ex
  rw [hp.ref.ls, hp.ref.lf]
  exact orLast_any hp.at_
theorem Pl.clock {w0 w : World} {B D Z k : Nat} {O : PO} {S : RO} {va vz : Value} {F : Nat → Prop} (h : Pl w0 w B D Z k O S va vz F) : Calls Tryd.prog 27 #[.pointer (some ⟨Z, 0, none⟩)] w fun e w' => e = .returned (.int .u64 (S.c : Int)) ∧ Below w.heap.size w w' := by
  obtain ⟨V, VH, hp, _, _⟩ := h.ex
  rw [← hp.ref.z.c]
  refine (orClock_any hp.at_).mono ?_
  rintro e w' ⟨rfl, rfl⟩
  exact ⟨rfl, br _⟩
theorem Pl.rest {w0 w : World} {B D Z k : Nat} {O : PO} {S : RO} {va vz : Value} {F : Nat → Prop} (h : Pl w0 w B D Z k O S va vz F) (hk : k ≤ 400) : Calls Tryd.prog 23 #[.pointer (some ⟨B, 0, none⟩)] w fun e w' => ∃ (u : Option Addr) (c : Nat) (L : List Msg), e = .returned (.slice u L.length c) ∧ MsgsAt w' (.slice u L.length c) L ∧ L.map core = O.rest.map core ∧ Below w.heap.size w w' := by
  obtain ⟨V, VH, hp, _, _⟩ := h.ex
  refine (orRest_any hp.at_ hp.ok).mono ?_
  rintro e w' ⟨v, L, rfl, ho, hc, hou, hb⟩
  obtain ⟨u, c, rfl⟩ := ownForm ho
  exact ⟨u, c, L, rfl, (RowsAt.of_own ho).rowsIn.msgsAt (own_len ho) (fun m hm => (hou m hm).1), hc, hb⟩
theorem Pl.aboveLen {w0 w : World} {B D Z k : Nat} {O : PO} {S : RO} {va vz : Value} {F : Nat → Prop} (h : Pl w0 w B D Z k O S va vz F) (hk : k ≤ 400) (t : Nat) (ht : t ≤ 64) : (aboveA S.A S.lo 0 (-1) t).length ≤ 1000 := by
  have hr := h.ref
  have h1 := congrArg List.length (hr.h.above 0 (-1) t ht)
  simp only [List.length_map] at h1
  have h2 : (aboveN O.R 0 (-1) t).length ≤ (allN O.R t).length := List.length_filter_le _ _
  have h3 := allN_le O.R ht
  have h4 := h.inv.hold.tot
  rw [hr.lo]
  omega
theorem Pl.restR {w0 w : World} {B D Z k : Nat} {O : PO} {S : RO} {va vz : Value} {F : Nat → Prop} (h : Pl w0 w B D Z k O S va vz F) (hk : k ≤ 400) : Calls Tryd.prog 26 #[.agg (rfC S va vz)] w fun e w' => ∃ (u : Option Addr) (c : Nat), e = .returned (.slice u (restR S).length c) ∧ MsgsAt w' (.slice u (restR S).length c) (restR S) ∧ Below w.heap.size w w' := by
  obtain ⟨V, VH, hp, _, _⟩ := h.ex
  have hla := h.la
  refine (rRest_any S va vz w hp.rows (by omega) hp.ref.h.frm (fun t ht => h.aboveLen hk t ht)).mono ?_
  rintro e w' ⟨⟨v, rfl, ho⟩, hb⟩
  obtain ⟨u, c, rfl⟩ := ownForm ho
  refine ⟨u, c, rfl, (RowsAt.of_own ho).rowsIn.msgsAt (own_len ho) (fun m hm => ?_), hb⟩
  have hm2 : m ∈ S.A := abA_mem ((sortM_same _).mem.2 (List.mem_filter.1 hm).1)
  exact ((h.ok m hm2).below h.bel).below hb
theorem Pl.dones {w0 w : World} {B D Z k : Nat} {O : PO} {S : RO} {va vz : Value} {F : Nat → Prop} (h : Pl w0 w B D Z k O S va vz F) (n : Int) : Calls Tryd.prog 28 #[.pointer (some ⟨B, 0, none⟩), .int .i64 n] w (DonesE w S.dn (dnN n)) := by
  obtain ⟨V, VH, hp, _, _⟩ := h.ex
  rw [hp.ref.dn]
  exact orDones_any hp.at_ n
theorem Pl.done0 {w0 w : World} {B D Z k : Nat} {O : PO} {S : RO} {va vz : Value} {F : Nat → Prop} (h : Pl w0 w B D Z k O S va vz F) (p : Int) (hp0 : ¬ (0 ≤ p ∧ p < 64)) : Calls Tryd.prog 30 #[.pointer (some ⟨B, 0, none⟩), .int .i64 p] w fun e w' => e = .returned (.int .u32 0) ∧ Below w.heap.size w w' := by
  obtain ⟨V, VH, hp, _, _⟩ := h.ex
  refine (orDone_any p hp.at_).mono ?_
  rintro e w' ⟨rfl, rfl⟩
  unfold doneZ
  rw [if_neg hp0]
  exact ⟨rfl, br _⟩
/-- at the head of the acts' loop -/
structure Lp (w : World) (B D Z R k : Nat) (wr : World) : Prop where
  ex : ∃ O S va vz, Pl w wr B D Z k O S va vz (fun b => b = R) ∧ wr.heap[R]? = some (.cells (rfC S va vz) 73 (0, 0))
/-- behind the call, with the result's variable -/
structure Mid (w : World) (B D Z R k : Nat) (X : Array Value) (P : Nat → Prop) (wr : World) : Prop where
  ex : ∃ O S va vz, Pl w wr B D Z (k + 1) O S va vz P ∧ X = rfC S va vz
theorem Mid.below {w wr w' : World} {B D Z R k : Nat} {X : Array Value} {P : Nat → Prop} (h : Mid w B D Z R k X P wr) (hb : Below wr.heap.size wr w') : Mid w B D Z R k X P w' := by
  obtain ⟨O, S, va, vz, h1, h2⟩ := h
  exact ⟨O, S, va, vz, h1.below hb, h2⟩
theorem Mid.add {w wr w' : World} {B D Z R k : Nat} {X : Array Value} {P Q : Nat → Prop} (h : Mid w B D Z R k X P wr) (hb : Below wr.heap.size wr w') (hG : ∀ b, Q b → P b ∨ (wr.heap.size ≤ b ∧ b < w'.heap.size)) : Mid w B D Z R k X Q w' := by
  obtain ⟨O, S, va, vz, h1, h2⟩ := h
  exact ⟨O, S, va, vz, h1.add hb hG, h2⟩
theorem Mid.aside {w wr w' : World} {B D Z R k : Nat} {X : Array Value} {P T : Nat → Prop} (h : Mid w B D Z R k X P wr) (hk : Kept T wr w') (hc : Calm wr T) (hT : ∀ b, T b → P b) : Mid w B D Z R k X P w' := by
  obtain ⟨O, S, va, vz, h1, h2⟩ := h
  exact ⟨O, S, va, vz, h1.aside hk hc hT, h2⟩
theorem Mid.size {w wr : World} {B D Z R k : Nat} {X : Array Value} {P : Nat → Prop} (h : Mid w B D Z R k X P wr) : (Tryd.prog.info? 73).map (·.size) = some X.size ∧ X.size = 199 ∧ X.all (·.oneCell') = true ∧ Below w.heap.size w wr := by
  obtain ⟨O, S, va, vz, h1, rfl⟩ := h
  exact ⟨rfSize, rfC_size _ _ _, rfC_one _ _ _ h1.one.1 h1.one.2, h1.bel⟩
end Go.Proofs.YtgjlcjbmcnofiaaDoor
