/-
  What a hold and the reference's answer, side by side.
  Conditions: none.
-/
import Derived.Test.YtnjcebkdkklidaaHoldW
import Derived.Test.YtnjcebkdkklidaaHoldP
namespace Go.Proofs.Ytnjcebkdkklidaa
set_option linter.unusedVariables false
set_option linter.unusedSimpArgs false
open Go.RowKit
theorem wpList_load_row_want {P : Program} {ops : Array Oper} {rest : List Oper} {o : Oper} {a : Act} {w : World} {Q : Exit → Act → World → Prop} (hw : Region.wanted o (yielded ops a.tmps) = true) (ty : TypeId) (x : Operand) (ho : o.op = .load ty x)
    (g : Nat) (hx : a.eval x = .pointer (some ⟨g, 0, none⟩)) (t : TypeId) (cs : Array Value) (fr : Nat × Nat) (d : TypeDesc) (hg : w.heap[g]? = some (.cells cs t fr))
    (hu : P.underlying ty = some d) (hd : (match d with | .struct _ | .array _ _ => true | _ => false) = true) (hi : (P.info? ty).map (·.size) = some cs.size)
    (h : wpList P ops Q rest (a.put o.dst (.agg cs)) w) : wpList P ops Q (o :: rest) a w :=
  BigFrame.wpList_want hw fun _ hK => wp_load_row ty x ho g hx t cs fr d hg hu hd hi (hK _ _ h)
def GotEnd (o : Option Msg) (e : Ending) (w' : World) : Prop := ∃ m', e = .returned (.tuple #[.agg (msgA m'), .bool o.isSome]) ∧ core m' = core (o.getD zeroM) ∧ MsgOk w' m'
theorem zero_ok (w : World) : MsgOk w zeroM := ⟨by simp [zeroM], by simp [zeroM, ByteArray.size], by simp [zeroM], by simp [zeroM], by simp [zeroM]⟩
theorem playGet_any {B : Nat} {w0 w : World} {D M k : Nat} {lo : Nat → Nat} {R : Nat → List Msg} {V : Nat → Value} {A : List Msg} {vA : Value} (h : PlayAt B w0 w D M k lo R V A vA) (hk : k ≤ 400) (p : Int) (seq : Nat) :
    Calls Try.prog 15 #[.pointer (some ⟨D, 0, none⟩), .int .i64 p, .int .u32 (seq : Int)] w fun e w' => GotEnd (getA A lo p seq) e w' ∧ Below w.heap.size w w' := by
  refine (hGet_any D lo R V p seq w h.mid.hold.at_ (h.mid.hold.inv.bd (by omega)) h.mid.hold.inv.ds6).mono ?_
  rintro e w' ⟨he, hb⟩
  refine ⟨?_, hb⟩
  have hg := h.ref.get p seq
  unfold GetEnd at he
  unfold GotEnd
  split at he
  · rename_i e1
    rw [e1] at hg
    cases e2 : getA A lo p seq with
    | none => exact ⟨zeroM, he, rfl, zero_ok _⟩
    | some m => rw [e2] at hg; cases hg
  · rename_i m e1
    rw [e1] at hg
    obtain ⟨m', rfl, hc, hok⟩ := he
    cases e2 : getA A lo p seq with
    | none => rw [e2] at hg; cases hg
    | some m2 =>
      rw [e2] at hg
      simp at hg
      exact ⟨m', rfl, hc.trans hg.symm, hok⟩
theorem PlayAt.refLen {B : Nat} {w0 w : World} {D M k : Nat} {lo : Nat → Nat} {R : Nat → List Msg} {V : Nat → Value} {A : List Msg} {vA : Value} (h : PlayAt B w0 w D M k lo R V A vA) (hk : k ≤ 400) : A.length ≤ 1000 := by
  have := h.mid.len; omega
theorem playGetR_any {B : Nat} {w0 w : World} {D M k : Nat} {lo : Nat → Nat} {R : Nat → List Msg} {V : Nat → Value} {A : List Msg} {vA : Value} (h : PlayAt B w0 w D M k lo R V A vA) (hk : k ≤ 400) (p : Int) (seq : Nat) :
    Calls Try.prog 16 #[.agg (refX vA lo), .int .i64 p, .int .u32 (seq : Int)] w fun e w' => e = .returned (.tuple #[.agg (msgA ((getA A lo p seq).getD zeroM)), .bool (getA A lo p seq).isSome]) ∧ Below w.heap.size w w' := by
  refine (rGet_any vA lo A p seq w h.mid.rows (h.refLen hk) h.ref.frm).mono ?_
  rintro e w' ⟨rfl, hb⟩
  refine ⟨?_, hb⟩
  unfold getR
  split <;> rename_i e1 <;> rw [e1] <;> rfl
theorem PlayAt.getOk {B : Nat} {w0 w : World} {D M k : Nat} {lo : Nat → Nat} {R : Nat → List Msg} {V : Nat → Value} {A : List Msg} {vA : Value} (h : PlayAt B w0 w D M k lo R V A vA) (p : Int) (seq : Nat) : MsgOk w ((getA A lo p seq).getD zeroM) := by
  cases e : getA A lo p seq with
  | none => exact zero_ok w
  | some m => exact (h.mid.oks m (getA_mem e)).1
theorem playCount_any {B : Nat} {w0 w : World} {D M k : Nat} {lo : Nat → Nat} {R : Nat → List Msg} {V : Nat → Value} {A : List Msg} {vA : Value} (h : PlayAt B w0 w D M k lo R V A vA) (hk : k ≤ 400) (p : Int) :
    Calls Try.prog 18 #[.pointer (some ⟨D, 0, none⟩), .int .i64 p] w fun e w' => e = .returned (.int .u32 (cntA A p : Int)) ∧ Below w.heap.size w w' := by
  rw [h.ref.cnt p]
  exact hCount_at D lo R V p w h.mid.hold.at_ (h.mid.hold.inv.bd (by omega))
theorem playCountR_any {B : Nat} {w0 w : World} {D M k : Nat} {lo : Nat → Nat} {R : Nat → List Msg} {V : Nat → Value} {A : List Msg} {vA : Value} (h : PlayAt B w0 w D M k lo R V A vA) (hk : k ≤ 400) (p : Int) :
    Calls Try.prog 19 #[.agg (refX vA lo), .int .i64 p] w fun e w' => e = .returned (.int .u32 (cntA A p : Int)) ∧ Below w.heap.size w w' := rCount_any vA lo A p w h.mid.rows (h.refLen hk)
theorem CopyEnd.to {w : World} {l l' : List Msg} {e : Ending} {w' : World} (h : CopyEnd w l e w') (hl : l'.map core = l.map core) : CopyEnd w l' e w' := by
  obtain ⟨v, L, h1, h2, h3, h4⟩ := h
  exact ⟨v, L, h1, h2, h3.trans hl.symm, h4⟩
theorem playFrom_any {B : Nat} {w0 w : World} {D M k : Nat} {lo : Nat → Nat} {R : Nat → List Msg} {V : Nat → Value} {A : List Msg} {vA : Value} (h : PlayAt B w0 w D M k lo R V A vA) (hk : k ≤ 400) (p : Int) (seq : Nat) (most : Int) (hm : most ≤ 9223372036854775807) :
    Calls Try.prog 20 #[.pointer (some ⟨D, 0, none⟩), .int .i64 p, .int .u32 (seq : Int), .int .i64 most] w fun e w' => CopyEnd w ((fromA A lo p seq (cntA A p)).take most.toNat) e w' ∧ Below w.heap.size w w' :=
  (hFrom_any D lo R V p seq most w h.mid.hold.at_ (h.mid.hold.inv.bd (by omega)) hm h.mid.hold.inv.ds6).mono fun e w' ⟨he, hb⟩ => ⟨he.to (h.ref.from p seq most), hb⟩
theorem playAbove_any {B : Nat} {w0 w : World} {D M k : Nat} {lo : Nat → Nat} {R : Nat → List Msg} {V : Nat → Value} {A : List Msg} {vA : Value} (h : PlayAt B w0 w D M k lo R V A vA) (hk : k ≤ 400) (a b : Int) :
    Calls Try.prog 21 #[.pointer (some ⟨D, 0, none⟩), .agg #[.int .u64 a, .int .i64 b]] w fun e w' => CopyEnd w (sortM (aboveA A lo a b 64)) e w' ∧ Below w.heap.size w w' :=
  (hAbove_any D lo R V a b w h.mid.hold.at_ (h.mid.hold.inv.bd (by omega)) (by have := h.mid.hold.inv.tot; omega) h.mid.hold.inv.ds6).mono fun e w' ⟨he, hb⟩ => ⟨he.to (h.ref.sorted a b), hb⟩
def RefEnd (l : List Msg) (e : Ending) (w' : World) : Prop := ∃ v, e = .returned v ∧ MsgsAt w' v l
theorem aboveA_mem {A : List Msg} {lo : Nat → Nat} {a b : Int} {t : Nat} {m : Msg} (h : m ∈ aboveA A lo a b t) : m ∈ A := by
  unfold aboveA at h
  obtain ⟨p, _, h2⟩ := List.mem_flatMap.1 h
  exact fromA_mem (List.mem_filter.1 h2).1
theorem PlayAt.aboveLen {B : Nat} {w0 w : World} {D M k : Nat} {lo : Nat → Nat} {R : Nat → List Msg} {V : Nat → Value} {A : List Msg} {vA : Value} (h : PlayAt B w0 w D M k lo R V A vA) (hk : k ≤ 400) (a b : Int) (t : Nat) (ht : t ≤ 64) : (aboveA A lo a b t).length ≤ 1000 := by
  have h1 := congrArg List.length (h.ref.above a b t ht)
  simp only [List.length_map] at h1
  have h2 : (aboveN R a b t).length ≤ (allN R t).length := List.length_filter_le _ _
  have h3 := allN_le R ht
  have h4 := h.mid.hold.inv.tot
  omega
theorem playFromR_any {B : Nat} {w0 w : World} {D M k : Nat} {lo : Nat → Nat} {R : Nat → List Msg} {V : Nat → Value} {A : List Msg} {vA : Value} (h : PlayAt B w0 w D M k lo R V A vA) (hk : k ≤ 400) (p : Int) (seq : Nat) (most : Int) :
    Calls Try.prog 23 #[.agg (refX vA lo), .int .i64 p, .int .u32 (seq : Int), .int .i64 most] w fun e w' => RefEnd ((fromA A lo p seq (cntA A p)).take most.toNat) e w' ∧ Below w.heap.size w w' := by
  refine (rFrom_any vA lo A p seq most w h.mid.rows (h.refLen hk) h.ref.frm).mono ?_
  rintro e w' ⟨he, hb⟩
  obtain ⟨v, rfl, ho⟩ := he
  refine ⟨⟨v, rfl, (RowsAt.of_own ho).rowsIn.msgsAt ?_ fun m hm => (h.mid.oks m (fromA_mem (List.mem_of_mem_take hm))).1.below hb⟩, hb⟩
  have h1 := fromA_len A lo p seq (cntA A p)
  have h2 : cntA A p ≤ A.length := ofP_len A p
  have h3 := h.refLen hk
  rw [List.length_take]
  omega
theorem playAboveR_any {B : Nat} {w0 w : World} {D M k : Nat} {lo : Nat → Nat} {R : Nat → List Msg} {V : Nat → Value} {A : List Msg} {vA : Value} (h : PlayAt B w0 w D M k lo R V A vA) (hk : k ≤ 400) (a b : Int) :
    Calls Try.prog 24 #[.agg (refX vA lo), .agg #[.int .u64 a, .int .i64 b]] w fun e w' => RefEnd (sortM (aboveA A lo a b 64)) e w' ∧ Below w.heap.size w w' := by
  refine (rAbove_any vA lo A a b w h.mid.rows (h.refLen hk) h.ref.frm (fun t ht => h.aboveLen hk a b t ht)).mono ?_
  rintro e w' ⟨he, hb⟩
  obtain ⟨v, rfl, ho⟩ := he
  refine ⟨⟨v, rfl, (RowsAt.of_own ho).rowsIn.msgsAt ?_ fun m hm => (h.mid.oks m (aboveA_mem ((sortM_same _).mem.2 hm))).1.below hb⟩, hb⟩
  have h1 := h.aboveLen hk a b 64 (by omega)
  rw [sortM_len]
  omega
theorem ds_core {L l : List Msg} (h : L.map core = l.map core) {n : Nat} (hl : ∀ m ∈ l, m.ds.length ≤ n) : ∀ m ∈ L, m.ds.length ≤ n := by
  intro m hm
  have h1 : core m ∈ l.map core := h ▸ List.mem_map_of_mem hm
  obtain ⟨m', hm', hc⟩ := List.mem_map.1 h1
  obtain ⟨_, _, _, _, c5, _⟩ := core_iff.1 hc
  have := hl m' hm'
  rw [c5] at this
  exact this
theorem PlayAt.fromDs {B : Nat} {w0 w : World} {D M k : Nat} {lo : Nat → Nat} {R : Nat → List Msg} {V : Nat → Value} {A : List Msg} {vA : Value} (h : PlayAt B w0 w D M k lo R V A vA) (p : Int) (seq : Nat) (most : Int) {L : List Msg} (hL : L.map core = ((fromA A lo p seq (cntA A p)).take most.toNat).map core) : ∀ m ∈ L, m.ds.length ≤ 20000 := by
  refine ds_core (hL.trans (h.ref.from p seq most)) fun m hm => ?_
  unfold fromZ at hm
  split at hm
  · rename_i h1
    have h2 := procB_iff.1 h1.1
    unfold fromL at hm
    exact h.mid.hold.inv.ds p.toNat (by omega) m (List.mem_of_mem_drop (List.mem_of_mem_take hm))
  · cases hm
theorem PlayAt.aboveDs {B : Nat} {w0 w : World} {D M k : Nat} {lo : Nat → Nat} {R : Nat → List Msg} {V : Nat → Value} {A : List Msg} {vA : Value} (h : PlayAt B w0 w D M k lo R V A vA) (a b : Int) {L : List Msg} (hL : L.map core = (sortM (aboveA A lo a b 64)).map core) : ∀ m ∈ L, m.ds.length ≤ 20000 := by
  refine ds_core (hL.trans (h.ref.sorted a b)) fun m hm => ?_
  obtain ⟨p, h1, h2, _⟩ := aboveN_mem ((sortM_same _).mem.2 hm)
  exact h.mid.hold.inv.ds p h1 m h2
/-- an answer is written over: what was there stays -/
theorem PlayAt.spoilt {B : Nat} {w0 w w1 w2 : World} {D M k : Nat} {lo : Nat → Nat} {R : Nat → List Msg} {V : Nat → Value} {A : List Msg} {vA : Value} {ad : Option Addr} {L : List Msg} (h : PlayAt B w0 w D M k lo R V A vA) (hb : Below w.heap.size w w1) (hk : Kept (SpS ad L) w1 w2)
    (hS : ∀ b, SpS ad L b → w.heap.size ≤ b) : PlayAt B w0 w2 D M k lo R V A vA :=
  h.below (hk.out hb hb.size fun b hlt hs => by have := hS b hs; omega)
theorem own_spS {w : World} {B : Nat} {ad : Option Addr} {cap : Nat} {L : List Msg} (ho : w.ownsRow B 37 6 (.slice ad L.length cap) L.length (rowsM L)) (hf : ∀ m ∈ L, FreshM B w m) : ∀ b, SpS ad L b → B ≤ b := by
  rintro b (⟨o, rfl⟩ | ⟨m, hm, hl, o, e⟩)
  · exact (ho.lt b rfl).1
  · exact ((hf m hm).2.lt b (by rw [e]; rfl)).1
end Go.Proofs.Ytnjcebkdkklidaa
