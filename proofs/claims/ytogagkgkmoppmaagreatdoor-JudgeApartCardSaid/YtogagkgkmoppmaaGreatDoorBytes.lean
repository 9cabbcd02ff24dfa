/-
  Rows of bytes in memory, made out of texts and turned back into texts.
  Conditions: those that each theorem names.
-/
import Derived.Test.YtogagkgkmoppmaaGreatDoorProg
import Derived.Test.YtogagkgkmoppmaaGreatDoorBaseZs
import Derived.Lib.ConvBytes
namespace Go.Proofs.YtogagkgkmoppmaaGreatDoor
set_option linter.unusedVariables false
open Go.RowKit
/-- a row of bytes that may be written -/
def BytesAt (w : World) (g : Nat) (l : List UInt8) : Prop := ∀ j (h : j < l.length), w.cell? ⟨g, j, none⟩ = some (.int .u8 ((l[j]).toNat : Int)) ∧ w.frozen? ⟨g, j, none⟩ = false
theorem conv_bytes (s : ByteArray) (w : World) : ∃ (W : World) (cap : Nat), (convert 9 161 (.string s)).run Tryz.prog w = .ok (.slice (some ⟨w.heap.size, 0, none⟩) s.size cap) W ∧ Below w.heap.size w W ∧ W.heap.size = w.heap.size + 1 ∧ BytesAt W w.heap.size s.data.toList := by
  refine ⟨_, _, Lib.run_convert_string_bytes (P := Tryz.prog) w 9 161 5 s (u := .string) (by kernel_rfl) (by kernel_rfl) (by kernel_rfl), ⟨rfl, rfl, rfl, by rw [Lib.bytesWorld_size]; omega, fun k hk => Lib.bytesWorld_at_old _ _ _ _ hk⟩, Lib.bytesWorld_size _ _ _, fun j hj => ⟨?_, ?_⟩⟩
  · rw [Lib.bytesWorld_cell w 5 s j hj]
    simp at hj
    simp [List.getD_eq_getElem?_getD, hj]
  · have hj' : j < s.data.size := by simpa using hj
    simp only [World.frozen?, Lib.bytesWorld_at_new]
    have e : s.data.size = s.size := rfl
    simp [Lib.bytesCells]
    omega
theorem BytesAt.flip {w : World} {g : Nat} {l : List UInt8} (h : BytesAt w g l) (d : Nat) (y : UInt8) (hd : d < l.length) : BytesAt (w.setCell ⟨g, d, none⟩ (.int .u8 (y.toNat : Int))) g (l.set d y) := by
  intro j hj
  have hj' : j < l.length := by simpa using hj
  refine ⟨?_, ?_⟩
  · by_cases e : d = j
    · subst e
      obtain ⟨v, hv⟩ : ∃ v, w.cell? ⟨g, d, none⟩ = some v := ⟨_, (h d hd).1⟩
      rw [World.cell?_setCell_same' _ _ _ (by rw [hv]; rfl)]
      simp
    · rw [World.cell?_setCell_other _ _ _ _ (fun h => e (by injection h)), (h j hj').1]
      simp [e]
  · rw [World.frozen?_setCell]; exact (h j hj').2
theorem BytesAt.drew {w : World} {g : Nat} {l : List UInt8} (h : BytesAt w g l) : BytesAt w.drew g l := h
theorem BytesAt.below {w w' : World} {g B : Nat} {l : List UInt8} (h : BytesAt w g l) (hb : Below B w w') (hg : g < B) : BytesAt w' g l := fun j hj =>
  ⟨(hb.cell (p := ⟨g, j, none⟩) hg).trans (h j hj).1, (hb.frozen (p := ⟨g, j, none⟩) hg).trans (h j hj).2⟩
/-- bytes that are read alone -/
theorem conv_cells (l : List UInt8) (w : World) (g n cap : Nat) (hn : l.length = n) (h : ∀ j (h : j < l.length), w.cell? ⟨g, j, none⟩ = some (.int .u8 ((l[j]).toNat : Int))) : (convert 161 9 (.slice (some ⟨g, 0, none⟩) n cap)).run Tryz.prog w = .ok (.string ⟨l.toArray⟩) w := by
  have hconv := run_convert_bytes_arg (P := Tryz.prog) w 161 5 (by kernel_rfl) (by kernel_rfl) g 0 n cap (l.map fun b => (b.toNat : Int)) (by rw [List.length_map]; exact hn)
        (by intro i hi
            have hi' : i < l.length := by omega
            rw [Nat.zero_add, h i hi']
            simp [List.getD_eq_getElem?_getD, hi']) 9 (by kernel_rfl)
  rw [hconv]
  unfold strOfNums
  rw [List.map_map]
  have : l.map ((fun n : Int => UInt8.ofNat n.toNat) ∘ fun b : UInt8 => (b.toNat : Int)) = l := by
    rw [List.map_congr_left (g := id), List.map_id]
    intro b _
    simp
  rw [this]
theorem conv_back (l : List UInt8) (w : World) (g n cap : Nat) (hn : l.length = n) (h : BytesAt w g l) : (convert 161 9 (.slice (some ⟨g, 0, none⟩) n cap)).run Tryz.prog w = .ok (.string ⟨l.toArray⟩) w :=
  conv_cells l w g n cap hn fun j hj => (h j hj).1
end Go.Proofs.YtogagkgkmoppmaaGreatDoor
