/- More words on memory: bytes in a block. No condition. -/
import Derived.Test.YtamdanpkkcdhbaaBase
import Derived.Laws.BytesArg
import Derived.Lib.ConvBytes
import Derived.Deep.OwnRows
set_option linter.unusedVariables false
set_option linter.unusedSimpArgs false
namespace Go.PF
open Go.RowKit

/-! bytes in a block -/
def Bytes (w : World) (B n : Nat) (f : Nat → Int) : Prop := ∀ j, j < n → w.cell? ⟨B, j, none⟩ = some (.int .u8 (f j)) ∧ w.frozen? ⟨B, j, none⟩ = false
theorem Bytes.set {w : World} {B n : Nat} {f : Nat → Int} (h : Bytes w B n f) {k : Nat} (hk : k < n) (v : Int) : Bytes (w.setCell ⟨B, k, none⟩ (.int .u8 v)) B n (fun j => if j = k then v else f j) := by
  intro j hj
  refine ⟨?_, by rw [World.frozen?_setCell]; exact (h j hj).2⟩
  by_cases e : j = k
  · subst e
    show _ = some (Value.int .u8 (if j = j then v else f j))
    rw [if_pos rfl]
    exact cell_eq w _ (h j hj).1
  · show _ = some (Value.int .u8 (if j = k then v else f j))
    rw [if_neg e]
    exact (cell_ne w _ (.inr (fun e' => e e'.symm))).trans (h j hj).1
theorem Bytes.mods {F : Nat → Prop} {w w' : World} {B n : Nat} {f : Nat → Int} (h : Bytes w B n f) (m : Mods F w w') (hn : ¬ F B) : Bytes w' B n f :=
  fun j hj => ⟨m.cell (h j hj).1 hn, m.free (h j hj).1 (h j hj).2 hn⟩
theorem Bytes.congr {w : World} {B n : Nat} {f g : Nat → Int} (h : Bytes w B n f) (e : ∀ j, j < n → f j = g j) : Bytes w B n g := fun j hj => by rw [← e j hj]; exact h j hj
theorem Bytes.str {P : Program} {w : World} {B n : Nat} {f : Nat → Int} (h : Bytes w B n f) (cap : Nat) (src e dst : TypeId) (hs : P.underlying src = some (.slice e)) (he : P.underlying e = some (.int .u8)) (hd : P.underlying dst = some .string) :
    (convert src dst (.slice (some ⟨B, 0, none⟩) n cap)).run P w = .ok (.string (strOfNums ((List.range n).map f))) w :=
  run_convert_bytes_arg (P := P) w src e hs he B 0 n cap _ (by simp) (fun i hi => by rw [Nat.zero_add, (h i hi).1, List.getD, List.getElem?_map, List.getElem?_range hi]; rfl) dst hd
theorem Bytes.made (w : World) (e : TypeId) (n : Nat) : Bytes (w.alloc (.cells (madeCells #[.int .u8 0] n) e)) w.heap.size n (fun _ => 0) := by
  have hg := heap_alloc_new w (.cells (madeCells #[.int .u8 0] n) e)
  intro j hj
  refine ⟨?_, heap_free hg j⟩
  rw [heap_cell hg, madeCells1, List.getElem?_toArray, List.getElem?_replicate, if_pos hj]
theorem Bytes.conv (w : World) (e : TypeId) (s : ByteArray) : Bytes (Lib.bytesWorld w e s) w.heap.size s.size (fun j => ((s.data.toList.getD j 0).toNat : Int)) := by
  intro j hj
  refine ⟨Lib.bytesWorld_cell w e s j hj, ?_⟩
  have hc : s.size ≤ (Lib.bytesCells w e s).size := by simp [Lib.bytesCells]
  simp only [World.frozen?, Lib.bytesWorld_at_new]
  simp
  omega

end Go.PF
