/-
  fed and its closure give.
  Conditions: those that each theorem names.
-/
import Derived.Test.YtgjlcjbmcnofiaaDoorOrdF
namespace Go.Proofs.YtgjlcjbmcnofiaaDoor
set_option linter.unusedVariables false
set_option linter.unusedSimpArgs false
open Go.RowKit
/-- an order above w0; the blocks of F lie apart -/
structure One (w0 w : World) (B D Z : Nat) (O : PO) (F : Nat → Prop) : Prop where
  ex : ∃ V U, OrH w0 w B D Z O V U ∧ ∀ b, F b → ¬ orS B D Z V U b ∧ b < w.heap.size
section
variable {w0 w w' : World} {B D Z : Nat} {O : PO} {F F' : Nat → Prop}
theorem One.bel (h : One w0 w B D Z O F) : Below w0.heap.size w0 w := by
  obtain ⟨V, U, h1, _⟩ := h
  exact h1.bel
theorem One.cZ (h : One w0 w B D Z O F) : w.cell? ⟨B, 1, none⟩ = some (.pointer (some ⟨Z, 0, none⟩)) := by
  obtain ⟨V, U, h1, _⟩ := h
  exact h1.cZ
theorem One.lt (h : One w0 w B D Z O F) : B < w.heap.size := by
  obtain ⟨V, U, h1, _⟩ := h
  exact h1.at_.lt
theorem One.add (h : One w0 w B D Z O F) (hb : Below w.heap.size w w') (hF : ∀ b, F' b → F b ∨ (w.heap.size ≤ b ∧ b < w'.heap.size)) : One w0 w' B D Z O F' := by
  obtain ⟨V, U, h1, h2⟩ := h
  refine ⟨V, U, h1.below hb, fun b hb' => ?_⟩
  rcases hF b hb' with e | e
  · exact ⟨(h2 b e).1, Nat.lt_of_lt_of_le (h2 b e).2 hb.size⟩
  · exact ⟨fun e' => by have := h1.at_.sz e'; omega, e.2⟩
theorem One.below (h : One w0 w B D Z O F) (hb : Below w.heap.size w w') : One w0 w' B D Z O F := h.add hb fun _ e => .inl e
theorem One.mono (h : One w0 w B D Z O F) (hF : ∀ b, F' b → F b) : One w0 w B D Z O F' := by
  obtain ⟨V, U, h1, h2⟩ := h
  exact ⟨V, U, h1, fun b hb => h2 b (hF b hb)⟩
/-- what lies apart is written, or grows -/
theorem One.grown {S : Nat → Prop} (h : One w0 w B D Z O F) (hk : Kept S w w') (hc : Calm w S) (hS : ∀ b, S b → F b ∧ w0.heap.size ≤ b) (hF : ∀ b, F' b → F b ∨ (w.heap.size ≤ b ∧ b < w'.heap.size)) : One w0 w' B D Z O F' := by
  obtain ⟨V, U, h1, h2⟩ := h
  refine ⟨V, U, h1.kept hk (fun b hb e => (h2 b (hS b e).1).1 hb) hc (fun b e => (hS b e).2), fun b hb => ?_⟩
  rcases hF b hb with e | e
  · exact ⟨(h2 b e).1, Nat.lt_of_lt_of_le (h2 b e).2 hk.size⟩
  · exact ⟨fun e' => by have := h1.at_.sz e'; omega, e.2⟩
theorem One.call {p : Program} {fn : Nat} {args : Array Value} {Q : Ending → PO → Prop} (h : One w0 w B D Z O F)
    (hc : ∀ V U, OrH w0 w B D Z O V U → Calls p fn args w fun e w' => ∃ O', Q e O' ∧ OrG w0 w B D Z V U O' w') :
    Calls p fn args w fun e w' => ∃ O', Q e O' ∧ One w0 w' B D Z O' F ∧ Keep F w w' := by
  obtain ⟨V, U, h1, h2⟩ := h
  refine (hc V U h1).mono ?_
  rintro e w' ⟨O', q, V', U', g1, g2, g3, g4⟩
  refine ⟨O', q, ⟨V', U', g1, fun b hb => ⟨fun e => ?_, Nat.lt_of_lt_of_le (h2 b hb).2 g2.size⟩⟩, _, g2, h1.at_.calm, fun b hb => (h2 b hb).1⟩
  rcases orS_new g3 g4 e with x | x
  · exact (h2 b hb).1 x
  · have := (h2 b hb).2
    omega
theorem One.drain (h : One w0 w B D Z O F) (hk : OrOk O) (hT : Tab w0) :
    Calls Tryd.prog 20 #[.pointer (some ⟨B, 0, none⟩)] w fun e w' => ∃ L O' v, Drn O L O' ∧ O'.ripe = none ∧ e = .returned v ∧ RowO w.heap.size w' v L ∧ One w0 w' B D Z O' (fun b => F b ∨ v.ownBlock = some b) ∧ Keep F w w' := by
  obtain ⟨V, U, h1, h2⟩ := h
  refine (orhDrain h1 hk hT).mono ?_
  rintro e w' ⟨L, L', O', v, d1, d2, d3, d4, d5, d6, V', U', g1, g2, g3, g4, g5⟩
  refine ⟨L, O', v, d1, d2, d3, ⟨L', d4, d5, d6⟩, ⟨V', U', g1, fun b hb => ?_⟩, _, g2, h1.at_.calm, fun b hb => (h2 b hb).1⟩
  rcases hb with hb | hb
  · refine ⟨fun e => ?_, Nat.lt_of_lt_of_le (h2 b hb).2 g2.size⟩
    rcases orS_new g3 g4 e with x | x
    · exact (h2 b hb).1 x
    · have := (h2 b hb).2
      omega
  · exact ⟨g5 b hb, (d4.lt b hb).2⟩
end
/-- the blocks that fed's variables lie in -/
def FB (XA XT XO XU : Nat) (u : Value) (b : Nat) : Prop := b = XA ∨ b = XT ∨ b = XO ∨ b = XU ∨ u.ownBlock = some b
/-- fed's variables -/
structure FedM (w : World) (M : List Msg) (av : Value) (XA XT XO XU B D Z k : Nat) (at_ : Nat → Nat) (n : Nat) (O : PO) (u : Value) (wr : World) : Prop where
  one : One w wr B D Z O (FB XA XT XO XU u)
  inv : InvO k O
  fed : Fed M at_ n O
  xa : wr.heap[XA]? = some (.cells #[av] 27 (0, 0))
  xt : wr.heap[XT]? = some (.cells (four .u32 at_) 34 (0, 0))
  xo : wr.heap[XO]? = some (.cells #[.pointer (some ⟨B, 0, none⟩)] 46 (0, 0))
  xu : wr.heap[XU]? = some (.cells #[u] 27 (0, 0))
  row : RowO w.heap.size wr u ((sortM M).take n)
  low : w.heap.size ≤ XA ∧ w.heap.size ≤ XT ∧ w.heap.size ≤ XO ∧ w.heap.size ≤ XU ∧ XA ≠ XU
theorem FedM.bel {w : World} {M : List Msg} {av : Value} {XA XT XO XU B D Z k : Nat} {at_ : Nat → Nat} {n : Nat} {O : PO} {u : Value} {wr : World} (h : FedM w M av XA XT XO XU B D Z k at_ n O u wr) : Below w.heap.size w wr := h.one.bel
theorem FedM.below {w : World} {M : List Msg} {av : Value} {XA XT XO XU B D Z k : Nat} {at_ : Nat → Nat} {n : Nat} {O : PO} {u : Value} {wr w' : World} (h : FedM w M av XA XT XO XU B D Z k at_ n O u wr) (hb : Below wr.heap.size wr w') : FedM w M av XA XT XO XU B D Z k at_ n O u w' := by
  have hk : Keep (fun _ => True) wr w' := Keep.of_below hb
  exact ⟨h.one.below hb, h.inv, h.fed, hk.keep trivial h.xa, hk.keep trivial h.xt, hk.keep trivial h.xo, hk.keep trivial h.xu, h.row.keep hk (fun _ _ => trivial), h.low⟩
/-- the order's call, when the variables stay -/
theorem FedM.call {w : World} {M : List Msg} {av : Value} {XA XT XO XU B D Z k : Nat} {at_ : Nat → Nat} {n : Nat} {O : PO} {u : Value} {wr w' : World} (h : FedM w M av XA XT XO XU B D Z k at_ n O u wr) {O' : PO} {k' n' : Nat} (h1 : One w w' B D Z O' (FB XA XT XO XU u)) (hk : Keep (FB XA XT XO XU u) wr w') :
    w'.heap[XA]? = some (.cells #[av] 27 (0, 0)) ∧ w'.heap[XT]? = some (.cells (four .u32 at_) 34 (0, 0)) ∧ w'.heap[XO]? = some (.cells #[.pointer (some ⟨B, 0, none⟩)] 46 (0, 0)) ∧ w'.heap[XU]? = some (.cells #[u] 27 (0, 0)) ∧ RowO w.heap.size w' u ((sortM M).take n) :=
  ⟨hk.keep (.inl rfl) h.xa, hk.keep (.inr (.inl rfl)) h.xt, hk.keep (.inr (.inr (.inl rfl))) h.xo, hk.keep (.inr (.inr (.inr (.inl rfl)))) h.xu, h.row.keep hk (fun b hb => .inr (.inr (.inr (.inr hb))))⟩
/-- the sender's count grows -/
theorem FedM.next {w : World} {M : List Msg} {av : Value} {XA XT XO XU B D Z k : Nat} {at_ : Nat → Nat} {n : Nat} {O O' : PO} {u : Value} {wr w' : World} (h : FedM w M av XA XT XO XU B D Z k at_ n O u wr) {p : Nat} (hp : p < 4) (h1 : One w w' B D Z O' (FB XA XT XO XU u)) (hk : Keep (FB XA XT XO XU u) wr w') (hi : InvO (k + 1) O') (hf : Fed M (upd at_ p (at_ p + 1)) n O') :
    FedM w M av XA XT XO XU B D Z (k + 1) (upd at_ p (at_ p + 1)) n O' u (w'.setCell ⟨XT, p, none⟩ (.int .u32 ((at_ p + 1 : Nat) : Int))) ∧ w'.cell? ⟨XT, p, none⟩ = some (.int .u32 (at_ p : Int)) ∧ w'.frozen? ⟨XT, p, none⟩ = false := by
  obtain ⟨a1, a2, a3, a4, a5⟩ := h.call (k' := k) (n' := n) h1 hk
  have hs := kept_set w' XT p (.int .u32 ((at_ p + 1 : Nat) : Int))
  have hkp : Keep (fun b => b ≠ XT) w' (w'.setCell ⟨XT, p, none⟩ (.int .u32 ((at_ p + 1 : Nat) : Int))) := ⟨_, hs, calm_at a2 (by decide), fun b hb e => hb e⟩
  refine ⟨⟨h1.grown hs (calm_at a2 (by decide)) (fun b e => by subst e; exact ⟨.inr (.inl rfl), h.low.2.1⟩) (fun b e => .inl e), hi, hf, hkp.keep (kind_ne a1 a2 (by decide)) a1, ?_, hkp.keep (kind_ne a3 a2 (by decide)) a3, hkp.keep (kind_ne a4 a2 (by decide)) a4, a5.keep hkp (fun b hb => ?_), h.low⟩, ?_, frozen_of_row _ _ _ _ _ a2⟩
  · rw [setCell_block a2 p _, four_set _ _ hp]
  · obtain ⟨c, fz, hc⟩ := a5.kind b hb
    exact kind_ne hc a2 (by decide)
  · rw [cell_of_row _ _ p _ _ _ a2, four_get _ _ hp]
/-- the message that give looks for -/
theorem hon_found {M : List Msg} (hM : Hon M) {p a : Nat} {m : Msg} (hm : m ∈ M) (hf : m.frm = (p : Int)) (hs : m.seq = a + 1) : (sentP M p)[a]? = some m := by
  obtain ⟨j, hj, e⟩ := List.mem_iff_getElem.1 (mem_sentP.2 ⟨hm, hf⟩)
  have h1 := hM.seq p j m (by rw [List.getElem?_eq_getElem hj, e])
  obtain rfl : j = a := by omega
  rw [List.getElem?_eq_getElem hj, e]
theorem hon_none {M : List Msg} (hM : Hon M) {p a : Nat} (h : ∀ m ∈ M, ¬ (m.frm = (p : Int) ∧ m.seq = a + 1)) : (sentP M p).length ≤ a := by
  rcases Nat.lt_or_ge a (sentP M p).length with hl | hl
  · exfalso
    have h1 := hM.seq p a _ (List.getElem?_eq_getElem hl)
    have h2 := mem_sentP.1 (List.getElem_mem hl)
    exact h _ h2.1 ⟨h2.2, h1⟩
  · exact hl
/-- what give leaves: how many were taken of whom -/
def gave (M : List Msg) (at_ : Nat → Nat) (p : Nat) : Nat → Nat := if at_ p < (sentP M p).length then upd at_ p (at_ p + 1) else at_
def GiveEnd (w : World) (M : List Msg) (av : Value) (XA XT XO XU B D Z k : Nat) (at_ : Nat → Nat) (p : Nat) (e : Ending) (w' : World) : Prop :=
  e = .returned (.tuple #[]) ∧ ∃ n O u, FedM w M av XA XT XO XU B D Z (k + 1) (gave M at_ p) n O u w' ∧ O.ripe = none
/-- a row is gathered behind another -/
theorem RowO.more {b0 : Nat} {w8 : World} {ax : Option Addr} {cx : Nat} {X : List Msg} {L A : List Msg} {v9 : Value} {w9 : World} {M8 : List Msg} (hX : w8.ownsRow b0 42 6 (.slice ax X.length cx) X.length (rowsM X)) (hXc : X.map core = L.map core) (hXo : Outs b0 w8 X) (hA : M8.map core = A.map core) (hAo : Outs b0 w8 M8)
    (ho9 : w9.ownsRow b0 42 6 v9 (X.length + M8.length) (rowsM X ++ rowsM M8)) (hk : Kept (fun b => (Value.slice ax X.length cx).ownBlock = some b) w8 w9) : RowO b0 w9 v9 (L ++ A) := by
  have cr := calm_row hX
  refine ⟨X ++ M8, ?_, by rw [List.map_append, List.map_append, hXc, hA], fun m hm => ?_⟩
  · rw [List.length_append, show rowsM (X ++ M8) = rowsM X ++ rowsM M8 from by unfold rowsM; simp]
    exact ho9
  · rcases List.mem_append.1 hm with hm | hm
    · exact (hXo.keptC hk cr) m hm
    · exact (hAo.keptC hk cr) m hm
/-- behind the search: p's next one was taken, or there is none -/
def GotM (w : World) (M : List Msg) (av : Value) (XA XT XO XU B D Z k : Nat) (at_ : Nat → Nat) (p : Nat) (wr : World) : Prop := ∃ n O u, FedM w M av XA XT XO XU B D Z (k + 1) (gave M at_ p) n O u wr
set_option maxRecDepth 100000 in
set_option maxHeartbeats 16000000 in
theorem give_any {w : World} {M : List Msg} {av : Value} {XA XT XO XU B D Z k : Nat} {at_ : Nat → Nat} {n : Nat} {O : PO} {u : Value} {w0 : World} (hM : Hon M) (hl : M.length ≤ 30) (hma : MsgsAt w av M) (hk : k ≤ 900) (hT : Tab w) (h : FedM w M av XA XT XO XU B D Z k at_ n O u w0) (p : Nat) (hp : p < 4) :
    Calls Tryd.prog 35 #[.int .i64 (p : Int), .pointer (some ⟨XA, 0, none⟩), .pointer (some ⟨XT, 0, none⟩), .pointer (some ⟨XO, 0, none⟩), .pointer (some ⟨XU, 0, none⟩)] w0 (GiveEnd w M av XA XT XO XU B D Z k at_ p) := by
  have HMA := Lib.hid hma
  have HN := Lib.hid (And.intro hM (And.intro hk (And.intro hT hp)))
  obtain ⟨ad, cap, rfl, hl9, _⟩ := id hma
  have HH := Lib.hid h
  clear hma hM hk hT hp
  go_enter Tryd.func35, Tryd.ntmps35
  go_upto_block 0 with (fail)
  go_cut [0] (fun s0 wx => s0 = .int .i64 (p : Int) ∧ Hid (GotM w M (.slice ad M.length cap) XA XT XO XU B D Z k at_ p wx))
  case first =>
    go_wp2_with fail
    go_loopw [6] (fun i wr => ∃ j : Nat, j ≤ M.length ∧ i = .int .i64 (j : Int) ∧ (∀ m ∈ M.take j, ¬ (m.frm = (p : Int) ∧ m.seq = at_ p + 1)) ∧ Hid (FedM w M (.slice ad M.length cap) XA XT XO XU B D Z k at_ n O u wr)) (fun i _ => M.length - (intOf i).toNat)
    case atStart => exact ⟨0, by omega, rfl, fun m hm => by simp at hm, HH⟩
    case round =>
      obtain ⟨j, hj, rfl, hno, HS⟩ := hrel
      have HNO := Lib.hid hno
      clear hno
      have ca : wr.cell? ⟨XA, 0, none⟩ = some (.slice ad M.length cap) := cell_of_row _ _ 0 _ _ _ HS.out.xa
      by_cases hlt : j < M.length
      · have hbool : decide ((j : Int) < (M.length : Int)) = true := by simpa using hlt
        have hi0 : (j : Int) < (M.length : Int) := by omega
        obtain ⟨_, _, e0, _, hms⟩ := HMA.out
        injection e0 with e0 e1 e2
        subst e0
        subst e2
        clear e1
        obtain ⟨mg, mo, rfl, hmg, hmr, hmok⟩ := hms j hlt
        have hp4 := HN.out.2.2.2
        have y0 : ∀ y : Bel wr, y.val.cell? ⟨mg, mo + j * 6, none⟩ = some (.int .i64 (M[j]).frm) := fun y => (bt HS.out.bel y.prop).cell (p := ⟨mg, _, none⟩) hmg |>.trans (hmr 0 _ rfl)
        have y1 : ∀ y : Bel wr, y.val.cell? ⟨mg, mo + j * 6 + 1, none⟩ = some (.int .u32 ((M[j]).seq : Int)) := fun y => (bt HS.out.bel y.prop).cell (p := ⟨mg, _, none⟩) hmg |>.trans (hmr 1 _ rfl)
        have yt : ∀ y : Bel wr, y.val.cell? ⟨XT, p, none⟩ = some (.int .u32 (at_ p : Int)) := Bel.cell (by rw [cell_of_row _ _ p _ _ _ HS.out.xt, four_get _ _ hp4]) (Array.getElem?_eq_some_iff.1 HS.out.xt).1
        have yo : ∀ y : Bel wr, y.val.cell? ⟨XO, 0, none⟩ = some (.pointer (some ⟨B, 0, none⟩)) := Bel.cell (cell_of_row _ _ 0 _ _ _ HS.out.xo) (Array.getElem?_eq_some_iff.1 HS.out.xo).1
        have ya : ∀ y : Bel wr, y.val.cell? ⟨XA, 0, none⟩ = some (.slice (some ⟨mg, mo, none⟩) M.length cap) := Bel.cell ca (Array.getElem?_eq_some_iff.1 HS.out.xa).1
        have yr : ∀ w', (∃ y : Bel wr, w' = y.val) → w'.rangeAt mg (mo + j * 6) (msgA M[j]).toList := by
          rintro w' ⟨y, rfl⟩ i v hv
          exact ((bt HS.out.bel y.prop).cell (p := ⟨mg, _, none⟩) hmg).trans (hmr i v hv)
        have hatp : at_ p ≤ 30 := by
          have h1 := HS.out.fed.le p
          have h2 := sent_len M p
          omega
        have hmem := List.getElem_mem (l := M) hlt
        have hmj : M[j]? = some M[j] := List.getElem?_eq_getElem hlt
        have HMJ := Lib.hid (And.intro hmem (And.intro hmok hmj))
        clear hmem hmj hmok hms hmr
        generalize M[j] = m at *
        have hp4' : (p : Int) < 4 := by omega
        have hA : IntKind.u32.wrap ((at_ p : Int) + 1) = ((at_ p + 1 : Nat) : Int) := by simp [IntKind.wrap, IntKind.signed, IntKind.bits]; omega
        obtain ⟨ap, hap⟩ : ∃ z, z = at_ p := ⟨_, rfl⟩
        have HAP := Lib.hid hap
        rw [← hap] at yt hatp hA
        obtain ⟨a1, ha1⟩ : ∃ z, z = ap + 1 := ⟨_, rfl⟩
        have HA1 := Lib.hid ha1
        rw [← ha1] at hA
        clear hap ha1
        by_cases hfr : m.frm = (p : Int)
        · have f0 : (m.frm == (p : Int)) = true := by simpa using hfr
          by_cases hsq : m.seq = a1
          · -- found
            have f1 : ((m.seq : Int) == (a1 : Int)) = true := by rw [hsq]; simp
            have hfd := hon_found HN.out.1 HMJ.out.1 hfr (a := at_ p) (by rw [hsq, HA1.out, HAP.out])
            have HTK := Lib.hid (HS.out.fed.take HN.out.1 HN.out.2.2.2 hfd)
            have hds := HN.out.1.ds m HMJ.out.1
            have HCT := Lib.hid (show ∀ w3, (∃ y : Bel wr, w3 = y.val) → Calls Tryd.prog 17 #[.pointer (some ⟨B, 0, none⟩), .agg (msgA m)] w3 fun e w4 => (∃ z, e = .returned z) ∧ ∃ O', FedM w M (.slice (some ⟨mg, mo, none⟩) M.length cap) XA XT XO XU B D Z (k + 1) (upd at_ p (at_ p + 1)) n O' u (w4.setCell ⟨XT, p, none⟩ (.int .u32 ((at_ p + 1 : Nat) : Int))) ∧ w4.cell? ⟨XT, p, none⟩ = some (.int .u32 (at_ p : Int)) ∧ w4.frozen? ⟨XT, p, none⟩ = false from fun w3 hw3 => by
              have h3 := HS.out.below (bel_out hw3)
              refine (h3.one.call (Q := fun e O' => (∃ z, e = .returned z) ∧ InvO (k + 1) O' ∧ Fed M (upd at_ p (at_ p + 1)) n O') fun V U hh => (orhTake hh (h3.inv.ok (by have := HN.out.2.1; omega)) m (HMJ.out.2.1.below hh.bel) (by rw [hds]; exact Nat.zero_le _)).mono ?_).mono ?_
              · rintro e w4 ⟨rfl, ⟨hne, _⟩ | ⟨hz, m', hc, hg⟩⟩
                · exact absurd HTK.out.1 hne
                · exact ⟨_, ⟨⟨_, rfl⟩, h3.inv.take hz hc (by rw [hds]; exact Nat.zero_le _), HTK.out.2 m' hc⟩, hg⟩
              · rintro e w4 ⟨O', ⟨hz, hi, hf⟩, h1, hk⟩
                exact ⟨hz, O', h3.next HN.out.2.2.2 h1 hk hi hf⟩)
            have hlt2 : at_ p < (sentP M p).length := (List.getElem?_eq_some_iff.1 hfd).1
            have HGV := Lib.hid (show gave M at_ p = upd at_ p (at_ p + 1) from by unfold gave; rw [if_pos hlt2])
            obtain ⟨cm, hcm⟩ : ∃ cm, cm = msgA m := ⟨_, rfl⟩
            have hcs : (Tryd.prog.info? 42).map (·.size) = some cm.toList.length := by rw [hcm]; kernel_rfl
            rw [← hcm] at HCT yr
            clear hfd hds hlt2 hcm HS HH HNO HMJ HTK hp4 hatp
            go_upto_region 3 with (fail)
            refine wp_region_bel (by kernel_rfl) (by kernel_rfl) ?_
            repeat (go_big_quiet_step ((fail)))
            refine wpQuiet_nil ?_
            intro w2 hw2
            have hb2 := bel_out hw2
            have z0 : ∀ y : Bel w2, y.val.cell? ⟨XO, 0, none⟩ = some (.pointer (some ⟨B, 0, none⟩)) := fun y => yo ⟨y.val, bt hb2 y.prop⟩
            have za : ∀ y : Bel w2, y.val.cell? ⟨XA, 0, none⟩ = some (.slice (some ⟨mg, mo, none⟩) M.length cap) := fun y => ya ⟨y.val, bt hb2 y.prop⟩
            have zr : ∀ w', (∃ y : Bel w2, w' = y.val) → w'.rangeAt mg (mo + j * 6) cm.toList := by
              rintro w' ⟨y, rfl⟩
              exact yr _ ⟨⟨y.val, bt hb2 y.prop⟩, rfl⟩
            have HC2 := Lib.hid (show ∀ w3, (∃ y : Bel w2, w3 = y.val) → Calls Tryd.prog 17 #[.pointer (some ⟨B, 0, none⟩), .agg cm] w3 _ from fun w3 hw3 => HCT.out w3 (by obtain ⟨y, rfl⟩ := hw3; exact ⟨⟨y.val, bt hb2 y.prop⟩, rfl⟩))
            have HZR := Lib.hid (And.intro zr hcs)
            clear hw2 hb2 y0 y1 yt yo ya yr HCT zr hcs
            go_upto_region 4 with (fail)
            refine wp_region_bel_tail 5 (by kernel_rfl) (by kernel_rfl) ?_
            simp only [List.take_succ_cons, List.take_zero, List.drop_succ_cons, List.drop_zero]
            repeat (go_big_quiet_step ((fail)))
            refine wpQuiet_load_mid rfl 42 (.tmp 35) rfl mg (mo + j * 6) rfl cm.toList _ HZR.out.1 Tryd.underlying42 rfl HZR.out.2 ?_
            simp only [Act.put, Array.toArray_toList, List.setIfInBounds_toArray, List.set_cons_zero, List.set_cons_succ]
            refine wpQuiet_nil ?_
            intro w3 hw3
            have HC3 := Lib.hid (HC2.out w3 hw3)
            clear hw3 z0 za HZR HC2
            go_wp2_with fail
            refine HC3.out.mono ?_
            rintro e w4 ⟨⟨z, rfl⟩, O', hF, zc, zf⟩
            rw [← HAP.out] at hF zc
            rw [← HA1.out] at hF
            have HE := Lib.hid (show GotM w M (.slice (some ⟨mg, mo, none⟩) M.length cap) XA XT XO XU B D Z k at_ p (w4.setCell ⟨XT, p, none⟩ (.int .u32 (a1 : Int))) from ⟨n, O', u, by rw [HGV.out, ← HAP.out, ← HA1.out]; exact hF⟩)
            clear hF HC3
            go_wp2_with fail
            go_meet
            exact ⟨rfl, HE⟩
          · have f1 : ((m.seq : Int) == (a1 : Int)) = false := by simp; omega
            have HE := Lib.hid (show (∀ x ∈ M.take (j + 1), ¬ (x.frm = (p : Int) ∧ x.seq = at_ p + 1)) ∧ ∀ w3, (∃ y : Bel wr, w3 = y.val) → FedM w M (.slice (some ⟨mg, mo, none⟩) M.length cap) XA XT XO XU B D Z k at_ n O u w3 from ⟨fun x hx => by
              rw [List.take_add_one, HMJ.out.2.2] at hx
              rcases List.mem_append.1 hx with hx | hx
              · exact HNO.out x hx
              · have hxm : x = m := by simpa using hx
                rw [hxm]
                exact fun h => hsq (by rw [h.2, HA1.out, HAP.out]), fun w3 hw3 => HS.out.below (bel_out hw3)⟩)
            have HLT := Lib.hid hlt
            clear HS HH HNO HMJ hp4 hatp yr
            go_upto_region 3 with (fail)
            refine wp_region_bel (by kernel_rfl) (by kernel_rfl) ?_
            repeat (go_big_quiet_step ((fail)))
            refine wpQuiet_nil ?_
            intro w3 hw3
            have HF := Lib.hid (HE.out.2 w3 hw3)
            clear hw3 y0 y1 yt yo ya
            go_wp2_with fail
            exact ⟨⟨j + 1, HLT.out, by go_num, HE.out.1, HF⟩, by have := HLT.out; simp [intOf]; omega⟩
        · have f0 : (m.frm == (p : Int)) = false := by simpa using hfr
          have HE := Lib.hid (show (∀ x ∈ M.take (j + 1), ¬ (x.frm = (p : Int) ∧ x.seq = at_ p + 1)) ∧ ∀ w3, (∃ y : Bel wr, w3 = y.val) → FedM w M (.slice (some ⟨mg, mo, none⟩) M.length cap) XA XT XO XU B D Z k at_ n O u w3 from ⟨fun x hx => by
            rw [List.take_add_one, HMJ.out.2.2] at hx
            rcases List.mem_append.1 hx with hx | hx
            · exact HNO.out x hx
            · have hxm : x = m := by simpa using hx
              rw [hxm]
              exact fun h => hfr h.1, fun w3 hw3 => HS.out.below (bel_out hw3)⟩)
          have HLT := Lib.hid hlt
          clear HS HH HNO HMJ hp4 hatp yr
          go_upto_region 3 with (fail)
          refine wp_region_bel (by kernel_rfl) (by kernel_rfl) ?_
          repeat (go_big_quiet_step ((fail)))
          refine wpQuiet_nil ?_
          intro w3 hw3
          have HF := Lib.hid (HE.out.2 w3 hw3)
          clear hw3 y0 y1 yt yo ya
          go_wp2_with fail
          exact ⟨⟨j + 1, HLT.out, by go_num, HE.out.1, HF⟩, by have := HLT.out; simp [intOf]; omega⟩
      · have hbool : decide ((j : Int) < (M.length : Int)) = false := by simpa using hlt
        obtain rfl : j = M.length := by omega
        have hle : (sentP M p).length ≤ at_ p := hon_none HN.out.1 (by have := HNO.out; rw [List.take_length] at this; exact this)
        have HE := Lib.hid (show GotM w M (.slice ad M.length cap) XA XT XO XU B D Z k at_ p wr from ⟨n, O, u, by
          have e : gave M at_ p = at_ := by unfold gave; rw [if_neg (by omega)]
          rw [e]
          have hs := HS.out
          exact ⟨hs.one, hs.inv.more, hs.fed, hs.xa, hs.xt, hs.xo, hs.xu, hs.row, hs.low⟩⟩)
        clear hle HS HH
        go_wp2_with fail
        go_meet
        exact ⟨rfl, HE⟩
  case rest =>
    obtain ⟨rfl, HS⟩ := hcut
    clear HH h
    obtain ⟨n1, O1, u1, hS⟩ := HS.out
    obtain ⟨X, x1, x2, x3⟩ := id hS.row
    obtain ⟨au, cu, rfl⟩ := ownForm x1
    have hXl : X.length ≤ 30 := by
      have h1 := congrArg List.length x2
      rw [List.length_map, List.length_map, List.length_take] at h1
      have := sortM_len M
      omega
    have hSS : ∀ w', Keep (FB XA XT XO XU (.slice au X.length cu)) wc w' → w'.cell? ⟨XU, 0, none⟩ = some (.slice au X.length cu) ∧ w'.cell? ⟨XO, 0, none⟩ = some (.pointer (some ⟨B, 0, none⟩)) := fun w' hk => ⟨cell_of_row _ _ 0 _ _ _ (hk.keep (.inr (.inr (.inr (.inl rfl)))) hS.xu), cell_of_row _ _ 0 _ _ _ (hk.keep (.inr (.inr (.inl rfl))) hS.xo)⟩
    have hS0 := hSS wc.drew (Keep.of_below (br wc).drew)
    have HSS := Lib.hid hSS
    have hSd := hS.below (br wc).drew
    have HD := Lib.hid (hSd.one.drain (hSd.inv.ok (by have := HN.out.2.1; omega)) HN.out.2.2.1)
    have HZ := Lib.hid (And.intro hSd (And.intro x1 (And.intro x2 (And.intro x3 (show Keep (FB XA XT XO XU (.slice au X.length cu)) wc wc.drew from Keep.of_below (br wc).drew)))))
    clear hS hSS x1 x2 x3 hSd HS
    obtain ⟨i0, hi, hz0, hz1, hz2⟩ := info_parts info42
    go_upto_region 6 with (fail)
    refine wp_region_mask (fun w' => w'.cell? ⟨XU, 0, none⟩ = some (.slice au X.length cu) ∧ w'.cell? ⟨XO, 0, none⟩ = some (.pointer (some ⟨B, 0, none⟩))) 3 3 [true, true, false, false, false] #[true, true, false, false, false] (by kernel_rfl) (by kernel_rfl) (by kernel_rfl) hS0 ?_
    generalize wc.drew = W at *
    clear hS0
    iterate 2
      refine wpMask_take _ (Or.inl ⟨by rfl, fun w' hS => by (try dsimp only at hS); go_simp; try with_reducible rfl⟩) ?_
      simp only [Act.put, List.setIfInBounds_toArray, List.set_cons_zero, List.set_cons_succ]
    refine wpMask_skip (wpMask_skip (wpMask_skip (wpMask_nil ?_)))
    refine wpAnyS_ready (rs := [2]) (by kernel_rfl) (by simp) ?_
    refine AllReadyS.cons rfl (fun K hK => ?_) AllReadyS.nil
    go_simp
    refine HD.out.mono ?_
    rintro e w5 ⟨L, O', v5, d1, d2, rfl, ⟨M5, d3, d4, d5⟩, d6, d7⟩
    obtain ⟨a5, c5, rfl⟩ := ownForm d3
    refine hK.out _ _ (fun _ => HSS.out _ (HZ.out.2.2.2.2.trans d7)) ?_
    clear hK K HD
    simp only [Act.put, List.getElem_toArray, List.getElem_cons_succ, List.getElem_cons_zero, List.setIfInBounds_toArray, List.set_cons_zero, List.set_cons_succ]
    have hfd := Fed.drn d1 HN.out.1 HZ.out.1.fed
    have h5l : M5.length ≤ 30 := by
      have h1 := congrArg List.length d4
      rw [List.length_map, List.length_map] at h1
      have := hfd.1.n
      omega
    have hbase : w.heap.size ≤ w5.heap.size := d6.bel.size
    have hrow5 : w5.ownsRow w.heap.size 42 6 (.slice au X.length cu) X.length (rowsM X) := d7.row (fun b hb => .inr (.inr (.inr (.inr hb)))) (HZ.out.2.2.2.2.row (fun b hb => .inr (.inr (.inr (.inr hb)))) HZ.out.2.1)
    have HRD := Lib.hid (Reads.of_own d3)
    have HONE := Lib.hid (rowsM_one M5)
    have HR5 := Lib.hid hrow5
    have HQ := Lib.hid (And.intro d1 (And.intro d2 (And.intro d3 (And.intro d4 (And.intro d5 (And.intro d6 (And.intro d7 hfd)))))))
    clear d1 d2 d3 d4 d5 d6 d7 hfd hrow5
    obtain ⟨xl, hxl⟩ : ∃ x, x = X.length := ⟨_, rfl⟩
    obtain ⟨ml, hml⟩ : ∃ x, x = M5.length := ⟨_, rfl⟩
    have HXM := Lib.hid (And.intro hxl hml)
    refine wpAnyS_ready (rs := [3]) (by kernel_rfl) (by simp) ?_
    refine AllReadyS.cons rfl (fun K hK => ?_) AllReadyS.nil
    refine step_append_any _ rfl (.tmp 43) (.tmp 45) 27 rfl w.heap.size 42 i0 _ 6 72 Tryd.underlying27 hi hz0 hz1 hz2 rfl (by decide) _ X.length (rowsM X) rfl HR5.out _ a5 M5.length c5 (rowsM M5) rfl HRD.out HONE.out (by unfold maxLen; omega) (by omega) hbase ?_
    intro v9 w9 ho9 hg9 hu9
    have hKg : Kept (fun b => (Value.slice au X.length cu).ownBlock = some b) w5 w9 := (Kept.of_grown' hg9).more fun q _ e => by
      obtain ⟨b, hb, rfl⟩ := e
      exact hb
    have HE := Lib.hid (show ∃ n O, FedM w M (.slice ad M.length cap) XA XT XO XU B D Z (k + 1) (gave M at_ p) n O v9 (w9.setCell ⟨XU, 0, none⟩ v9) ∧ O.ripe = none ∧ w9.frozen? ⟨XU, 0, none⟩ = false ∧ ∃ z, w9.cell? ⟨XU, 0, none⟩ = some z from by
      obtain ⟨d1, d2, d3, d4, d5, d6, d7, hfd⟩ := HQ.out
      obtain ⟨hSd, x1, x2, x3, hkw⟩ := HZ.out
      have hk7 := hkw.trans d7
      have t1 := d7.keep (.inl rfl) hSd.xa
      have t2 := d7.keep (.inr (.inl rfl)) hSd.xt
      have t3 := d7.keep (.inr (.inr (.inl rfl))) hSd.xo
      have t4 := d7.keep (.inr (.inr (.inr (.inl rfl)))) hSd.xu
      have nb : ∀ {b t : Nat} {cs : Array Value} {fr : Nat × Nat}, w5.heap[b]? = some (.cells cs t fr) → t ≠ 42 → ¬ (Value.slice au X.length cu).ownBlock = some b := fun hb ht e => by
        obtain ⟨c', fz, hc'⟩ := Lib.ownsRow_kind HR5.out _ e
        exact kind_ne hc' hb (Ne.symm ht) rfl
      have s1 := hKg.keep t1 (nb t1 (by decide))
      have s2 := hKg.keep t2 (nb t2 (by decide))
      have s3 := hKg.keep t3 (nb t3 (by decide))
      have s4 := hKg.keep t4 (nb t4 (by decide))
      have hs := kept_set w9 XU 0 v9
      have hne : ∀ b, b ≠ XU → ¬ b = XU := fun b h => h
      have cr := calm_row HR5.out
      have h1 : One w w9 B D Z O' (FB XA XT XO XU v9) := d6.grown hKg cr (fun b hb => ⟨.inl (.inr (.inr (.inr (.inr hb)))), (HR5.out.lt b hb).1⟩) (fun b hb => by
        rcases hb with e | e | e | e | e
        · exact .inl (.inl (.inl e))
        · exact .inl (.inl (.inr (.inl e)))
        · exact .inl (.inl (.inr (.inr (.inl e))))
        · exact .inl (.inl (.inr (.inr (.inr (.inl e)))))
        · rcases hu9 with e2 | e2
          · exact .inl (.inl (.inr (.inr (.inr (.inr (e2 ▸ e))))))
          · rw [e2] at e
            injection e with e
            have := (ho9.lt b (by rw [e2, e])).2
            exact .inr ⟨by omega, this⟩)
      have hrow := RowO.more HR5.out x2 (d7.outs (hkw.outs x3)) d4 (fun m hm => by
        obtain ⟨q1, q2, q3⟩ := d5 m hm
        exact ⟨q1, q2, fun ad e1 e2 => Nat.le_trans hSd.bel.size (q3 ad e1 e2)⟩) ho9 hKg
      have hrow2 : RowO w.heap.size w9 v9 ((sortM M).take (n1 + L.length)) := by
        obtain ⟨R, r1, r2, r3⟩ := hrow
        exact ⟨R, r1, by rw [r2, hfd.2], r3⟩
      have hkp : Keep (fun b => b ≠ XU) w9 (w9.setCell ⟨XU, 0, none⟩ v9) := ⟨_, hs, calm_at s4 (by decide), fun b hb e => hb e⟩
      refine ⟨n1 + L.length, O', ⟨h1.grown hs (calm_at s4 (by decide)) (fun b e => by subst e; exact ⟨.inr (.inr (.inr (.inl rfl))), hSd.low.2.2.2.1⟩) (fun b e => .inl e), hSd.inv.drn d1, hfd.1, hkp.keep hSd.low.2.2.2.2 s1, hkp.keep (kind_ne s2 s4 (by decide)) s2, hkp.keep (kind_ne s3 s4 (by decide)) s3, ?_, hrow2.keep hkp (fun b hb => ?_), hSd.low⟩, d2, frozen_of_row _ _ _ _ _ s4, _, cell_of_row _ _ 0 _ _ _ s4⟩
      · exact setCell_block s4 0 v9
      · obtain ⟨c, fz, hc⟩ := hrow2.kind b hb
        exact kind_ne hc s4 (by decide))
    obtain ⟨a9, c9, rfl⟩ := ownForm ho9
    refine hK.out _ _ (fun h => absurd h (by decide)) ?_
    clear hK K ho9 hg9 hu9 hKg HQ HZ HR5 HRD HONE hbase h5l hXl
    simp only [Act.put, List.getElem_toArray, List.getElem_cons_succ, List.getElem_cons_zero, List.setIfInBounds_toArray, List.set_cons_zero, List.set_cons_succ]
    rw [← HXM.out.1, ← HXM.out.2] at HE ⊢
    obtain ⟨n9, O9, h9, hr9, f9, z9, cz9⟩ := HE.out
    have HE9 := Lib.hid (And.intro h9 hr9)
    clear h9 hr9 HE hxl hml HXM
    refine wpAnyS_ready (rs := [4]) (by kernel_rfl) (by simp) ?_
    refine AllReadyS.cons rfl (fun K hK => ?_) AllReadyS.nil
    go_simp
    refine hK.out _ _ (fun h => absurd h (by decide)) ?_
    clear hK K
    simp only [Act.put, List.getElem_toArray, List.getElem_cons_succ, List.getElem_cons_zero, List.setIfInBounds_toArray, List.set_cons_zero, List.set_cons_succ]
    refine wpAnyS_done (by kernel_rfl) ?_ _
    clear f9 cz9
    go_wp2_with fail
    go_end0
    exact ⟨rfl, n9, O9, _, HE9.out.1, HE9.out.2⟩
end Go.Proofs.YtgjlcjbmcnofiaaDoor
namespace Go.Proofs.YtgjlcjbmcnofiaaDoor
set_option linter.unusedVariables false
set_option linter.unusedSimpArgs false
open Go.RowKit
theorem w15 : withAll 0 [0, 1, 2, 3] = 15 := by decide +kernel
/-- behind k gives -/
def Gives (w : World) (M : List Msg) (av : Value) (XA XT XO XU B D Z k : Nat) (wr : World) : Prop := ∃ at_ n O u, FedM w M av XA XT XO XU B D Z k at_ n O u wr
theorem mod4u (t : Nat) : ∃ p : Nat, p < 4 ∧ ((t : Int) % 4) = (p : Int) := ⟨t % 4, Nat.mod_lt _ (by decide), by omega⟩
theorem gave_le (M : List Msg) (at_ : Nat → Nat) (q p : Nat) : at_ p ≤ gave M at_ q p := by
  unfold gave
  split
  · by_cases e : p = q
    · subst e; rw [upd_same]; omega
    · rw [upd_ne _ _ e]; exact Nat.le_refl _
  · exact Nat.le_refl _
/-- of q's messages j were given, or all -/
def Far (M : List Msg) (at_ : Nat → Nat) (j q : Nat) : Prop := j ≤ at_ q ∨ (sentP M q).length ≤ at_ q
theorem Far.gave {M : List Msg} {at_ : Nat → Nat} {j q : Nat} (h : Far M at_ j q) (p : Nat) : Far M (gave M at_ p) j q := by
  have := gave_le M at_ p q
  unfold Far at *
  omega
theorem Far.more {M : List Msg} {at_ : Nat → Nat} {j q : Nat} (h : Far M at_ j q) : Far M (Go.Proofs.YtgjlcjbmcnofiaaDoor.gave M at_ q) (j + 1) q := by
  unfold Far Go.Proofs.YtgjlcjbmcnofiaaDoor.gave at *
  by_cases hl : at_ q < (sentP M q).length
  · rw [if_pos hl, upd_same]; omega
  · rw [if_neg hl]; omega
/-- within a round of gives to all: j rounds are behind, and q of this one -/
def Gives4 (w : World) (M : List Msg) (av : Value) (XA XT XO XU B D Z K j q : Nat) (wr : World) : Prop := ∃ k at_ n O u, FedM w M av XA XT XO XU B D Z k at_ n O u wr ∧ k ≤ K + 4 * j + q ∧ (∀ p, p < 4 → Far M at_ j p) ∧ ∀ p, p < q → Far M at_ (j + 1) p
theorem Gives4.give {w : World} {M : List Msg} {av : Value} {XA XT XO XU B D Z K j q : Nat} {wr : World} (h : Gives4 w M av XA XT XO XU B D Z K j q wr) (hM : Hon M) (hl : M.length ≤ 30) (hma : MsgsAt w av M) (hk : K + 4 * j + q ≤ 900) (hT : Tab w) (hq : q < 4) :
    Calls Tryd.prog 35 #[.int .i64 (q : Int), .pointer (some ⟨XA, 0, none⟩), .pointer (some ⟨XT, 0, none⟩), .pointer (some ⟨XO, 0, none⟩), .pointer (some ⟨XU, 0, none⟩)] wr fun e w' => e = .returned (.tuple #[]) ∧ Gives4 w M av XA XT XO XU B D Z K j (q + 1) w' := by
  obtain ⟨k, at_, n, O, u, h1, h2, h3, h4⟩ := h
  refine (give_any hM hl hma (by omega) hT h1 q hq).mono ?_
  rintro e w' ⟨rfl, n', O', u', g1, _⟩
  refine ⟨rfl, k + 1, _, n', O', u', g1, by omega, fun p hp => (h3 p hp).gave q, fun p hp => ?_⟩
  by_cases e : p = q
  · subst e; exact (h3 p hq).more
  · exact (h4 p (by omega)).gave q
theorem Gives4.round {w : World} {M : List Msg} {av : Value} {XA XT XO XU B D Z K j : Nat} {wr : World} (h : Gives4 w M av XA XT XO XU B D Z K j 4 wr) : Gives4 w M av XA XT XO XU B D Z K (j + 1) 0 wr := by
  obtain ⟨k, at_, n, O, u, h1, h2, _, h4⟩ := h
  exact ⟨k, at_, n, O, u, h1, by omega, h4, fun p hp => absurd hp (by omega)⟩
/-- all were given -/
def EndM (w : World) (M : List Msg) (av : Value) (XA XT XO XU B D Z last q : Nat) (wr : World) : Prop := ∃ k n O u, k ≤ 300 + q ∧ FedM w M av XA XT XO XU B D Z k (fun p => (sentP M p).length) n O u wr ∧ Ended M n last q O
theorem Gives4.all {w : World} {M : List Msg} {av : Value} {XA XT XO XU B D Z K last : Nat} {wr : World} (h : Gives4 w M av XA XT XO XU B D Z K M.length 0 wr) (hM : Hon M) (hk : K + 4 * M.length ≤ 300) : EndM w M av XA XT XO XU B D Z last 0 wr := by
  obtain ⟨k, at_, n, O, u, h1, h2, h3, _⟩ := h
  have e : at_ = fun p => (sentP M p).length := by
    funext p
    have a := h1.fed.le p
    by_cases hp : p < 4
    · have b := h3 p hp
      have c := sent_len M p
      unfold Far at b
      omega
    · rw [sentP_none hM (by omega)] at a ⊢
      simp at a
      simpa using a
  subst e
  exact ⟨k, n, O, u, by omega, h1, h1.fed, fun p hp => absurd hp (by omega)⟩
theorem drn_H {O O' : PO} {L : List Msg} (h : Drn O L O') : O'.H = O.H := by
  induction h with
  | nil => rfl
  | snoc _ _ ih => exact ih
theorem EndM.told {w : World} {M : List Msg} {av : Value} {XA XT XO XU B D Z last q : Nat} {wr : World} (h : EndM w M av XA XT XO XU B D Z last q wr) (hq : q < 4) :
    ∃ n : Nat, wr.cell? ⟨XT, q, none⟩ = some (.int .u32 (n : Int)) ∧ wr.cell? ⟨XO, 0, none⟩ = some (.pointer (some ⟨B, 0, none⟩)) ∧ wr.cell? ⟨B, 1, none⟩ = some (.pointer (some ⟨Z, 0, none⟩)) ∧ XT < wr.heap.size ∧ XO < wr.heap.size ∧ B < wr.heap.size ∧
      ∀ w3, Below wr.heap.size wr w3 → Calls Tryd.prog 18 #[.pointer (some ⟨Z, 0, none⟩), .int .i64 (q : Int), .int .u64 (last : Int), .int .u32 (n : Int)] w3 fun e w4 => e = .returned (.tuple #[]) ∧ w4.cell? ⟨XO, 0, none⟩ = some (.pointer (some ⟨B, 0, none⟩)) ∧ w4.cell? ⟨B, 1, none⟩ = some (.pointer (some ⟨Z, 0, none⟩)) ∧
        Calls Tryd.prog 19 #[.pointer (some ⟨Z, 0, none⟩), .int .i64 (q : Int), .int .u64 (last : Int)] w4 fun e w5 => e = .returned (.tuple #[]) ∧ EndM w M av XA XT XO XU B D Z last (q + 1) w5 := by
  obtain ⟨k, n, O, u, hk, h1, h2⟩ := h
  refine ⟨(sentP M q).length, by rw [cell_of_row _ _ q _ _ _ h1.xt, four_get _ _ hq], cell_of_row _ _ 0 _ _ _ h1.xo, h1.one.cZ, (Array.getElem?_eq_some_iff.1 h1.xt).1, (Array.getElem?_eq_some_iff.1 h1.xo).1, h1.one.lt, fun w3 hb3 => ?_⟩
  have h3 := h1.below hb3
  refine (h3.one.call (Q := fun e O' => e = .returned (.tuple #[]) ∧ O' = { O with H := O.H.promise (q : Int) last (sentP M q).length }) fun V U hh => (orhPromise hh (h3.inv.ok (by omega)) (q : Int) last (sentP M q).length).mono ?_).mono ?_
  · rintro e w4 ⟨rfl, hg⟩
    exact ⟨_, ⟨rfl, rfl⟩, hg⟩
  · rintro e w4 ⟨O1, ⟨rfl, rfl⟩, g1, g2⟩
    obtain ⟨a1, a2, a3, a4, a5⟩ := h3.call (k' := k) (n' := n) g1 g2
    have hi : InvO (k + 1) { O with H := O.H.promise (q : Int) last (sentP M q).length } := (h3.inv.more).setH (h3.inv.hz.promise _ _ _)
    refine ⟨rfl, cell_of_row _ _ 0 _ _ _ a3, g1.cZ, ?_⟩
    refine (g1.call (Q := fun e O' => e = .returned (.tuple #[]) ∧ O' = { O with H := (O.H.promise (q : Int) last (sentP M q).length).reached (q : Int) last }) fun V U hh => (orhReached hh (hi.ok (by omega)) (q : Int) last).mono ?_).mono ?_
    · rintro e w5 ⟨rfl, hg⟩
      exact ⟨_, ⟨rfl, rfl⟩, hg⟩
    · rintro e w5 ⟨O2, ⟨rfl, rfl⟩, q1, q2⟩
      have ht := h2.told hq
      exact ⟨rfl, k + 1, n, _, u, by omega, ⟨q1, hi.setH (hi.hz.reached _ _), ht.fed, q2.keep (.inl rfl) a1, q2.keep (.inr (.inl rfl)) a2, q2.keep (.inr (.inr (.inl rfl))) a3, q2.keep (.inr (.inr (.inr (.inl rfl)))) a4, a5.keep q2 (fun b hb => .inr (.inr (.inr (.inr hb)))), h3.low⟩, ht⟩
def EndS (w : World) (M : List Msg) (av : Value) (XA XT XO XU B D Z last : Nat) (wr : World) : Prop := ∃ k n O u, k ≤ 304 ∧ FedM w M av XA XT XO XU B D Z k (fun p => (sentP M p).length) n O u wr ∧ Ended M n last 4 O ∧ last ≤ O.H.c
theorem EndM.see {w : World} {M : List Msg} {av : Value} {XA XT XO XU B D Z last : Nat} {wr : World} (h : EndM w M av XA XT XO XU B D Z last 4 wr) :
    wr.cell? ⟨XO, 0, none⟩ = some (.pointer (some ⟨B, 0, none⟩)) ∧ wr.cell? ⟨B, 1, none⟩ = some (.pointer (some ⟨Z, 0, none⟩)) ∧
      Calls Tryd.prog 36 #[.pointer (some ⟨Z, 0, none⟩), .int .u64 (last : Int)] wr fun e w4 => e = .returned (.tuple #[]) ∧ EndS w M av XA XT XO XU B D Z last w4 := by
  obtain ⟨k, n, O, u, hk, h1, h2⟩ := h
  refine ⟨cell_of_row _ _ 0 _ _ _ h1.xo, h1.one.cZ, ?_⟩
  refine (h1.one.call (Q := fun e O' => e = .returned (.tuple #[]) ∧ O' = { O with H := O.H.setC (max O.H.c last) }) fun V U hh => (hzSee_any Z O.H U last wr hh.at_.hz).mono fun e w4 hz => ⟨_, ⟨hz.1, rfl⟩, hh.go (hh.at_.stepHzEnd hz)⟩).mono ?_
  rintro e w4 ⟨O1, ⟨rfl, rfl⟩, g1, g2⟩
  obtain ⟨a1, a2, a3, a4, a5⟩ := h1.call (k' := k) (n' := n) g1 g2
  have ht := h2.see (max O.H.c last)
  exact ⟨rfl, k, n, _, u, by omega, ⟨g1, h1.inv.setH (h1.inv.hz.setC _), ht.fed, a1, a2, a3, a4, a5, h1.low⟩, ht, Nat.le_max_right _ _⟩
set_option maxRecDepth 100000 in
set_option maxHeartbeats 16000000 in
theorem fed_any (me : Int) (hme : me = 4 ∨ me = 5 ∨ me = 6) {M : List Msg} (hM : Hon M) (hl : M.length ≤ 30) (hs : ∀ m ∈ M, m.stamp ≤ 1000) (av bv : Value) (T : List Nat) (w : World) (hma : MsgsAt w av M) (ht : BytesO w bv T) (htl : T.length ≤ 100) (en : Bool) (hT : Tab w) :
    Calls Tryd.prog 10 #[.int .i64 me, av, bv, .bool en] w fun e w' => ∃ u n, e = .returned u ∧ n ≤ M.length ∧ (en = true → n = M.length) ∧ RowO w.heap.size w' u ((sortM M).take n) ∧ Below w.heap.size w w' := by
  have HMA := Lib.hid hma
  have HB := Lib.hid ht
  have HN := Lib.hid (And.intro hM (And.intro hl (And.intro hs (And.intro htl (And.intro hT hme)))))
  obtain ⟨ad, cap, rfl, hl9, _⟩ := id hma
  obtain ⟨bd, bcap, rfl, hb9, _⟩ := id ht
  obtain ⟨w1, hw1⟩ : ∃ w1, w1 = w.alloc (.cells #[.slice ad M.length cap] 27) := ⟨_, rfl⟩
  obtain ⟨XA, hXA⟩ : ∃ x, x = w.heap.size := ⟨_, rfl⟩
  have hx1 : w1.heap[XA]? = some (.cells #[.slice ad M.length cap] 27 (0, 0)) := by rw [hw1, hXA]; exact heap_alloc_new w _
  have hb1 : Below w.heap.size w w1 := by rw [hw1]; exact ba (br w) _
  have hOf : Calls Tryd.prog 33 #[.slice (some ⟨w1.heap.size, 0, none⟩) 4 4] (w1.alloc (.cells #[.int .i64 0, .int .i64 1, .int .i64 2, .int .i64 3] 3)) fun e w' => e = .returned (.int .u64 15) ∧ w1.alloc (.cells #[.int .i64 0, .int .i64 1, .int .i64 2, .int .i64 3] 3) = w' := by
    have := setOf_any [0, 1, 2, 3] (some ⟨w1.heap.size, 0, none⟩) 4 (w1.alloc (.cells #[.int .i64 0, .int .i64 1, .int .i64 2, .int .i64 3] 3)) (by simp) ⟨rfl, fun _ => ⟨_, rfl, by simp, fun j u hu => new_cells w1 [.int .i64 0, .int .i64 1, .int .i64 2, .int .i64 3] 3 j u hu⟩⟩
    rw [w15] at this
    exact this
  have HOf := Lib.hid hOf
  have HW := Lib.hid (And.intro hw1 (And.intro hXA (And.intro hx1 hb1)))
  clear hma ht hM hl hs htl hT hw1 hXA hx1 hb1 hOf
  go_enter Tryd.func10, Tryd.ntmps10
  go_upto_region 1 with (fail)
  rw [← HW.out.1, ← HW.out.2.1]
  go_wp2_with fail
  refine HOf.out.mono ?_
  rintro e w2 ⟨rfl, hw2⟩
  have hb2 : Below w.heap.size w w2 := by rw [← hw2]; exact ba HW.out.2.2.2 _
  have hb12 : Below w1.heap.size w1 w2 := by rw [← hw2]; exact ba (br w1) _
  have HB2 := Lib.hid (And.intro hb2 hb12)
  clear hw2 hb2 hb12 HOf
  go_wp2_with fail
  refine (orNew_any me 15 w2 (by decide)).mono ?_
  rintro e w3 hn
  obtain ⟨B, D, Z, rfl, h3, hf3, hb3⟩ := orh_new HB2.out.1 hn
  obtain ⟨w4, hw4⟩ : ∃ w4, w4 = w3.alloc (.cells #[.pointer (some ⟨B, 0, none⟩)] 46) := ⟨_, rfl⟩
  obtain ⟨XO, hXO⟩ : ∃ x, x = w3.heap.size := ⟨_, rfl⟩
  obtain ⟨w5, hw5⟩ : ∃ w5, w5 = w4.alloc (.cells #[.int .u32 0, .int .u32 0, .int .u32 0, .int .u32 0] 34) := ⟨_, rfl⟩
  obtain ⟨XT, hXT⟩ : ∃ x, x = w4.heap.size := ⟨_, rfl⟩
  obtain ⟨w6, hw6⟩ : ∃ w6, w6 = w5.alloc (.cells #[.slice none 0 0] 27) := ⟨_, rfl⟩
  obtain ⟨XU, hXU⟩ : ∃ x, x = w5.heap.size := ⟨_, rfl⟩
  have hx4 : w4.heap[XO]? = some (.cells #[.pointer (some ⟨B, 0, none⟩)] 46 (0, 0)) := by rw [hw4, hXO]; exact heap_alloc_new w3 _
  have hx5 : w5.heap[XT]? = some (.cells (four .u32 fun _ => 0) 34 (0, 0)) := by rw [hw5, hXT]; exact heap_alloc_new w4 _
  have hx6 : w6.heap[XU]? = some (.cells #[nilS] 27 (0, 0)) := by rw [hw6, hXU]; exact heap_alloc_new w5 _
  have hb4 : Below w3.heap.size w3 w4 := by rw [hw4]; exact ba (br w3) _
  have hb5 : Below w4.heap.size w4 w5 := by rw [hw5]; exact ba (br w4) _
  have hb6 : Below w5.heap.size w5 w6 := by rw [hw6]; exact ba (br w5) _
  have HO := Lib.hid (show FedM w M (.slice ad M.length cap) XA XT XO XU B D Z 0 (fun _ => 0) 0 (po0 me 15) nilS w6 from by
    have hb46 := bt hb5 hb6
    have hb36 := bt hb4 hb46
    have hx1 := HW.out.2.2.1
    have l1 := (Array.getElem?_eq_some_iff.1 hx1).1
    have z1 := HW.out.2.2.2.size
    have z12 := HB2.out.2.size
    have hx12 := (HB2.out.2.block _ l1).trans hx1
    have l2 := (Array.getElem?_eq_some_iff.1 hx12).1
    have hx13 := (hb3.block _ l2).trans hx12
    have l3 := (Array.getElem?_eq_some_iff.1 hx13).1
    have l4 := (Array.getElem?_eq_some_iff.1 hx4).1
    have l5 := (Array.getElem?_eq_some_iff.1 hx5).1
    have l6 := (Array.getElem?_eq_some_iff.1 hx6).1
    have z2 := HB2.out.1.size
    have z3 := hb3.size
    have z4 := hb4.size
    have z5 := hb5.size
    have z6 := hb6.size
    have hXA := HW.out.2.1
    have h1 : One w w3 B D Z (po0 me 15) (fun b => b = XA) := ⟨nilV, nilV, h3, fun b hb => by
      subst hb
      exact ⟨fun e => by have := hf3 _ e; omega, l3⟩⟩
    refine ⟨h1.add hb36 (fun b hb => ?_), InvO.new me 15 (by decide), Fed.new me HN.out.2.2.2.2.2 HN.out.1, (hb36.block _ l3).trans hx13, (hb6.block _ l5).trans hx5, (hb46.block _ l4).trans hx4, hx6, RowO.nil _ _, by omega, by omega, by omega, by omega, by omega⟩
    rcases hb with e | e | e | e | e
    · exact .inl e
    · exact .inr (by omega)
    · exact .inr (by omega)
    · exact .inr (by omega)
    · cases e)
  have HW4 := Lib.hid (And.intro hw4 hXO)
  have HW5 := Lib.hid (And.intro hw5 hXT)
  have HW6 := Lib.hid (And.intro hw6 hXU)
  clear hn h3 hf3 hb3 hw4 hXO hw5 hXT hw6 hXU hx4 hx5 hx6 hb4 hb5 hb6 HB2 HW
  go_upto_region 2 with (fail)
  rw [← HW4.out.1, ← HW4.out.2]
  clear HW4
  go_upto_region 3 with (fail)
  rw [← HW5.out.1, ← HW5.out.2]
  clear HW5
  go_upto_region 4 with (fail)
  rw [← HW6.out.1, ← HW6.out.2]
  clear HW6
  go_wp2_with fail
  go_loopw [13] (fun i wr => ∃ j : Nat, j ≤ T.length ∧ i = .int .i64 (j : Int) ∧ Hid (Gives w M (.slice ad M.length cap) XA XT XO XU B D Z j wr)) (fun i _ => T.length - (intOf i).toNat)
  case atStart => exact ⟨0, by omega, rfl, ⟨_, _, _, _, HO⟩⟩
  case round =>
    obtain ⟨j, hj, rfl, HS⟩ := hrel
    by_cases hlt : j < T.length
    · --{
      have hbool : decide ((j : Int) < (T.length : Int)) = true := by simpa using hlt
      have hi0 : (j : Int) < (T.length : Int) := by omega
      obtain ⟨at_, n, O, u, hS⟩ := HS.out
      obtain ⟨_, _, e0, _, hm⟩ := HB.out.below hS.bel
      injection e0 with e0 e1 e2
      subst e0
      subst e2
      clear e1
      obtain ⟨bg, bo, rfl, hbg, hbr, hb256⟩ := hm j hlt
      generalize T[j] = t at hbr hb256
      obtain ⟨p, hp4, hpe⟩ := mod4u t
      have HC := Lib.hid (give_any HN.out.1 HN.out.2.1 HMA.out (by have := HN.out.2.2.2.1; omega) HN.out.2.2.2.2.1 hS p hp4)
      have HLT := Lib.hid hlt
      clear hS hm hbg hb256 hp4 HS HO
      go_wp2_with fail
      refine HC.out.mono ?_
      rintro e w7 ⟨rfl, n', O', u', hF, _⟩
      have HE := Lib.hid (show Gives w M (.slice ad M.length cap) XA XT XO XU B D Z (j + 1) w7 from ⟨_, _, _, _, hF⟩)
      clear hF HC hbr hpe
      go_wp2_with fail
      exact ⟨⟨j + 1, HLT.out, by go_num, HE⟩, by have := HLT.out; simp [intOf]; omega⟩
      --}
    · have hbool : decide ((j : Int) < (T.length : Int)) = false := by simpa using hlt
      obtain rfl : j = T.length := by omega
      obtain ⟨at_, n, O, u, hS⟩ := HS.out
      cases en
      · --{
        obtain ⟨X, x1, _, _⟩ := id hS.row
        obtain ⟨au, cu, rfl⟩ := ownForm x1
        have cu := cell_of_row _ _ 0 _ _ _ hS.xu
        have HE := Lib.hid hS
        clear hS x1 HS HO
        go_wp2_with fail
        go_ret
        exact ⟨_, n, rfl, HE.out.fed.n, fun h => (by cases h), HE.out.row, HE.out.bel⟩
        --}
      · have HG := Lib.hid (show Gives4 w M (.slice ad M.length cap) XA XT XO XU B D Z T.length 0 0 wr from ⟨T.length, at_, n, O, u, hS, by omega, fun p hp => .inl (Nat.zero_le _), fun p hp => absurd hp (by omega)⟩)
        clear hS HS HO hlt hj
        go_wp2_with fail
        go_loopw [14, 15] (fun s i wr => ∃ j : Nat, j ≤ M.length ∧ i = .int .i64 (j : Int) ∧ ∃ la : Nat, s = .int .u64 (la : Int) ∧ la ≤ 1000 ∧ (∀ m ∈ M.take j, m.stamp ≤ la) ∧ Hid (Gives4 w M (.slice ad M.length cap) XA XT XO XU B D Z T.length j 0 wr)) (fun _ i _ => M.length - (intOf i).toNat)
        case atStart => exact ⟨0, by omega, rfl, 1, rfl, by decide, fun m hm => by simp at hm, HG⟩
        case round =>
          obtain ⟨j, hj, rfl, la, rfl, hla, hst, HS⟩ := hrel
          have ca : wr.cell? ⟨XA, 0, none⟩ = some (.slice ad M.length cap) := by
            obtain ⟨_, _, _, _, _, h1, _⟩ := HS.out
            exact cell_of_row _ _ 0 _ _ _ h1.xa
          by_cases hlt : j < M.length
          · --{
            have hbool : decide ((j : Int) < (M.length : Int)) = true := by simpa using hlt
            have hi0 : (j : Int) < (M.length : Int) := by omega
            obtain ⟨_, _, e0, _, hms⟩ := HMA.out
            injection e0 with e0 e1 e2
            subst e0
            subst e2
            clear e1
            obtain ⟨mg, mo, rfl, hmg, hmr, _⟩ := hms j hlt
            have hbl : Below w.heap.size w wr := by
              obtain ⟨_, _, _, _, _, h1, _⟩ := HS.out
              exact h1.bel
            have y2 : wr.cell? ⟨mg, mo + j * 6 + 2, none⟩ = some (.int .u64 ((M[j]).stamp : Int)) := (hbl.cell (p := ⟨mg, _, none⟩) hmg).trans (hmr 2 _ rfl)
            have hsm := HN.out.2.2.1 _ (List.getElem_mem (l := M) hlt)
            have htk : M.take (j + 1) = M.take j ++ [M[j]] := List.take_succ_eq_append_getElem hlt
            have HT := Lib.hid (show ∀ z : Nat, la ≤ z → (M[j]).stamp ≤ z → ∀ m ∈ M.take (j + 1), m.stamp ≤ z from fun z h1 h2 m hm => by
              rw [htk] at hm
              rcases List.mem_append.1 hm with hm | hm
              · exact Nat.le_trans (hst m hm) h1
              · rw [List.mem_singleton.1 hm]; exact h2)
            generalize (M[j]).stamp = st at *
            have HLT := Lib.hid (And.intro hlt (And.intro hla hsm))
            clear hms hmg hmr hst hj htk hla hbl HG
            go_upto_region 15 with (fail)
            go_cut [14] (fun s14 wx => ∃ z : Nat, s14 = .int .u64 (z : Int) ∧ z ≤ 1000 ∧ (∀ m ∈ M.take (j + 1), m.stamp ≤ z) ∧ wx = wr)
            case first =>
              go_wp2_with fail
              all_goals
                go_meet
                first
                  | exact ⟨la, rfl, HLT.out.2.1, HT.out la (Nat.le_refl _) (by omega), rfl⟩
                  | exact ⟨st, rfl, HLT.out.2.2, HT.out st (by omega) (Nat.le_refl _), rfl⟩
            case rest =>
              obtain ⟨z, rfl, hz, hzt, rfl⟩ := hcut
              have HZ := Lib.hid (And.intro hz hzt)
              clear y2 ca HT hz hzt
              go_wp2_with fail
              go_loopw [16] (fun i wr => ∃ q : Nat, q ≤ 4 ∧ i = .int .i64 (q : Int) ∧ Hid (Gives4 w M (.slice (some ⟨mg, mo, none⟩) M.length cap) XA XT XO XU B D Z T.length j q wr)) (fun i _ => 4 - (intOf i).toNat)
              case atStart => exact ⟨0, by omega, rfl, HS⟩
              case round =>
                obtain ⟨q, hq, rfl, HSq⟩ := hrel
                by_cases hlq : q < 4
                · have hbq : decide ((q : Int) < 4) = true := by simp; omega
                  have HC := Lib.hid (HSq.out.give HN.out.1 HN.out.2.1 HMA.out (by have := HN.out.2.2.2.1; have := HN.out.2.1; have := HLT.out.1; omega) HN.out.2.2.2.2.1 hlq)
                  clear HSq HS
                  go_wp2_with fail
                  refine HC.out.mono ?_
                  rintro e w7 ⟨rfl, hF⟩
                  have HE := Lib.hid hF
                  clear hF HC
                  go_wp2_with fail
                  exact ⟨⟨q + 1, by omega, by go_num, HE⟩, by simp [intOf]; omega⟩
                · have hbq : decide ((q : Int) < 4) = false := by simp; omega
                  obtain rfl : q = 4 := by omega
                  have HE := Lib.hid HSq.out.round
                  have HLT2 := Lib.hid HLT.out.1
                  clear HSq HS HLT
                  go_wp2_with fail
                  exact ⟨⟨j + 1, by have := HLT2.out; omega, by go_num, z, rfl, HZ.out.1, HZ.out.2, HE⟩, by have := HLT2.out; simp [intOf]; omega⟩
            --}
          · have hbool : decide ((j : Int) < (M.length : Int)) = false := by simpa using hlt
            obtain rfl : j = M.length := by omega
            have HST := Lib.hid (show ∀ m ∈ M, m.stamp ≤ la from by rw [List.take_length] at hst; exact hst)
            have HG2 := Lib.hid (HS.out.all (last := la) HN.out.1 (by have := HN.out.2.2.2.1; have := HN.out.2.1; omega))
            clear hst HS HG hj hlt
            go_wp2_with fail
            go_loopw [17] (fun i wr => ∃ q : Nat, q ≤ 4 ∧ i = .int .i64 (q : Int) ∧ Hid (EndM w M (.slice ad M.length cap) XA XT XO XU B D Z la q wr)) (fun i _ => 4 - (intOf i).toNat)
            case atStart => exact ⟨0, by omega, rfl, HG2⟩
            case round =>
              obtain ⟨q, hq, rfl, HSq⟩ := hrel
              by_cases hlq : q < 4
              · --{
                have hbq : decide ((q : Int) < 4) = true := by simp; omega
                have hq4 : (q : Int) < 4 := by omega
                obtain ⟨nq, c1, c2, c3, l1, l2, l3, hC⟩ := HSq.out.told hlq
                have y1 : ∀ y : Bel wr, y.val.cell? ⟨XT, q, none⟩ = some (.int .u32 (nq : Int)) := Bel.cell c1 l1
                have y2 : ∀ y : Bel wr, y.val.cell? ⟨XO, 0, none⟩ = some (.pointer (some ⟨B, 0, none⟩)) := Bel.cell c2 l2
                have y3 : ∀ y : Bel wr, y.val.cell? ⟨B, 1, none⟩ = some (.pointer (some ⟨Z, 0, none⟩)) := Bel.cell c3 l3
                have HC := Lib.hid hC
                clear c1 c2 c3 l1 l2 l3 hC HSq HG2
                go_upto_region 23 with (fail)
                refine wp_region_bel_tail 9 (by kernel_rfl) (by kernel_rfl) ?_
                simp only [List.take_succ_cons, List.take_zero, List.drop_succ_cons, List.drop_zero]
                repeat (go_big_quiet_step ((fail)))
                refine wpQuiet_nil ?_
                intro w3 hw3
                have HC3 := Lib.hid (HC.out w3 (bel_out hw3))
                clear hw3 y1 y2 y3 HC
                go_wp2_with fail
                refine HC3.out.mono ?_
                rintro e w4 ⟨rfl, z1, z2, hC4⟩
                have HC4 := Lib.hid hC4
                clear hC4 HC3
                go_wp2_with fail
                refine HC4.out.mono ?_
                rintro e w5 ⟨rfl, hE⟩
                have HE := Lib.hid hE
                clear hE HC4 z1 z2
                go_wp2_with fail
                exact ⟨⟨q + 1, by omega, by go_num, HE⟩, by simp [intOf]; omega⟩
                --}
              · have hbq : decide ((q : Int) < 4) = false := by simp; omega
                obtain rfl : q = 4 := by omega
                obtain ⟨c2, c3, hC⟩ := HSq.out.see
                have HC := Lib.hid hC
                clear hC HSq HG2 hq hlq
                go_wp2_with fail
                refine HC.out.mono ?_
                rintro e wc ⟨rfl, hE⟩
                have HS := Lib.hid hE
                clear hE HC c2 c3
                obtain ⟨kk, n1, O1, u1, hkk, hS, hen, hlc⟩ := HS.out
                have HEN := Lib.hid (And.intro hen (And.intro hlc hkk))
                obtain ⟨X, x1, x2, x3⟩ := id hS.row
                obtain ⟨au, cu, rfl⟩ := ownForm x1
                have hXl : X.length ≤ 30 := by
                  have h1 := congrArg List.length x2
                  rw [List.length_map, List.length_map, List.length_take] at h1
                  have := sortM_len M
                  have := HN.out.2.1
                  omega
                have hSS : ∀ w', Keep (FB XA XT XO XU (.slice au X.length cu)) wc w' → w'.cell? ⟨XU, 0, none⟩ = some (.slice au X.length cu) ∧ w'.cell? ⟨XO, 0, none⟩ = some (.pointer (some ⟨B, 0, none⟩)) := fun w' hk => ⟨cell_of_row _ _ 0 _ _ _ (hk.keep (.inr (.inr (.inr (.inl rfl)))) hS.xu), cell_of_row _ _ 0 _ _ _ (hk.keep (.inr (.inr (.inl rfl))) hS.xo)⟩
                have hS0 := hSS wc.drew (Keep.of_below (br wc).drew)
                have HSS := Lib.hid hSS
                have hSd := hS.below (br wc).drew
                have HD := Lib.hid (hSd.one.drain (hSd.inv.ok (by omega)) HN.out.2.2.2.2.1)
                have HZ := Lib.hid (And.intro hSd (And.intro x1 (And.intro x2 (And.intro x3 (show Keep (FB XA XT XO XU (.slice au X.length cu)) wc wc.drew from Keep.of_below (br wc).drew)))))
                clear hS hSS x1 x2 x3 hSd hen hlc hkk HS
                obtain ⟨i0, hi, hz0, hz1, hz2⟩ := info_parts info42
                go_upto_region 26 with (fail)
                refine wp_region_mask (fun w' => w'.cell? ⟨XU, 0, none⟩ = some (.slice au X.length cu) ∧ w'.cell? ⟨XO, 0, none⟩ = some (.pointer (some ⟨B, 0, none⟩))) 3 3 [true, true, false, false, false] #[true, true, false, false, false] (by kernel_rfl) (by kernel_rfl) (by kernel_rfl) hS0 ?_
                generalize wc.drew = W at *
                clear hS0
                iterate 2
                  refine wpMask_take _ (Or.inl ⟨by rfl, fun w' hS => by (try dsimp only at hS); go_simp; try with_reducible rfl⟩) ?_
                  simp only [Act.put, List.setIfInBounds_toArray, List.set_cons_zero, List.set_cons_succ]
                refine wpMask_skip (wpMask_skip (wpMask_skip (wpMask_nil ?_)))
                refine wpAnyS_ready (rs := [2]) (by kernel_rfl) (by simp) ?_
                refine AllReadyS.cons rfl (fun K hK => ?_) AllReadyS.nil
                go_simp
                refine HD.out.mono ?_
                rintro e w5 ⟨L, O', v5, d1, d2, rfl, ⟨M5, d3, d4, d5⟩, d6, d7⟩
                obtain ⟨a5, c5, rfl⟩ := ownForm d3
                refine hK.out _ _ (fun _ => HSS.out _ (HZ.out.2.2.2.2.trans d7)) ?_
                clear hK K HD
                simp only [Act.put, List.getElem_toArray, List.getElem_cons_succ, List.getElem_cons_zero, List.setIfInBounds_toArray, List.set_cons_zero, List.set_cons_succ]
                have hfd := Fed.drn d1 HN.out.1 HZ.out.1.fed
                have h5l : M5.length ≤ 30 := by
                  have h1 := congrArg List.length d4
                  rw [List.length_map, List.length_map] at h1
                  have := hfd.1.n
                  have := HN.out.2.1
                  omega
                have hbase : w.heap.size ≤ w5.heap.size := d6.bel.size
                have hrow5 : w5.ownsRow w.heap.size 42 6 (.slice au X.length cu) X.length (rowsM X) := d7.row (fun b hb => .inr (.inr (.inr (.inr hb)))) (HZ.out.2.2.2.2.row (fun b hb => .inr (.inr (.inr (.inr hb)))) HZ.out.2.1)
                have HRD := Lib.hid (Reads.of_own d3)
                have HONE := Lib.hid (rowsM_one M5)
                have HR5 := Lib.hid hrow5
                have HQ := Lib.hid (And.intro d1 (And.intro d2 (And.intro d3 (And.intro d4 (And.intro d5 (And.intro d6 (And.intro d7 hfd)))))))
                clear d1 d2 d3 d4 d5 d6 d7 hfd hrow5
                obtain ⟨xl, hxl⟩ : ∃ x, x = X.length := ⟨_, rfl⟩
                obtain ⟨ml, hml⟩ : ∃ x, x = M5.length := ⟨_, rfl⟩
                have HXM := Lib.hid (And.intro hxl hml)
                refine wpAnyS_ready (rs := [3]) (by kernel_rfl) (by simp) ?_
                refine AllReadyS.cons rfl (fun K hK => ?_) AllReadyS.nil
                refine step_append_any _ rfl (.tmp 87) (.tmp 89) 27 rfl w.heap.size 42 i0 _ 6 72 Tryd.underlying27 hi hz0 hz1 hz2 rfl (by decide) _ X.length (rowsM X) rfl HR5.out _ a5 M5.length c5 (rowsM M5) rfl HRD.out HONE.out (by unfold maxLen; omega) (by omega) hbase ?_
                intro v9 w9 ho9 hg9 hu9
                have hKg : Kept (fun b => (Value.slice au X.length cu).ownBlock = some b) w5 w9 := (Kept.of_grown' hg9).more fun q _ e => by
                  obtain ⟨b, hb, rfl⟩ := e
                  exact hb
                have HE := Lib.hid (show RowO w.heap.size w9 v9 ((sortM M).take M.length) ∧ Below w.heap.size w w9 from by
                  obtain ⟨d1, d2, d3, d4, d5, d6, d7, hfd⟩ := HQ.out
                  obtain ⟨hSd, x1, x2, x3, hkw⟩ := HZ.out
                  have hrow := RowO.more HR5.out x2 (d7.outs (hkw.outs x3)) d4 (fun m hm => by
                    obtain ⟨q1, q2, q3⟩ := d5 m hm
                    exact ⟨q1, q2, fun ad e1 e2 => Nat.le_trans hSd.bel.size (q3 ad e1 e2)⟩) ho9 hKg
                  have hful : n1 + L.length = M.length := hfd.1.full HN.out.1 (fun p hp => rfl) (fun m hm => by
                    rw [drn_H d1]
                    exact Nat.le_trans (HST.out m hm) (HEN.out.1.safe HEN.out.2.1)) d2
                  obtain ⟨R, r1, r2, r3⟩ := hrow
                  exact ⟨⟨R, r1, by rw [r2, hfd.2, hful], r3⟩, hKg.out d6.bel d6.bel.size (fun b hb e => by have := (HR5.out.lt b e).1; omega)⟩)
                obtain ⟨a9, c9, rfl⟩ := ownForm ho9
                refine hK.out _ _ (fun h => absurd h (by decide)) ?_
                clear hK K ho9 hg9 hu9 hKg HQ HZ HR5 HRD HONE hbase h5l hXl HEN
                simp only [Act.put, List.getElem_toArray, List.getElem_cons_succ, List.getElem_cons_zero, List.setIfInBounds_toArray, List.set_cons_zero, List.set_cons_succ]
                refine wpAnyS_ready (rs := [4]) (by kernel_rfl) (by simp) ?_
                refine AllReadyS.cons rfl (fun K hK => ?_) AllReadyS.nil
                go_simp
                refine hK.out _ _ (fun h => absurd h (by decide)) ?_
                clear hK K
                simp only [Act.put, List.getElem_toArray, List.getElem_cons_succ, List.getElem_cons_zero, List.setIfInBounds_toArray, List.set_cons_zero, List.set_cons_succ]
                refine wpAnyS_done (by kernel_rfl) ?_ _
                clear hxl hml HXM
                go_wp2_with fail
                go_ret
                exact ⟨_, rfl, M.length, Nat.le_refl _, rfl, HE.out.1, HE.out.2⟩
end Go.Proofs.YtgjlcjbmcnofiaaDoor
