/- SHA-256: the round constants. -/
import Derived.Test.YtamdanpkkcdhbaaSha1
import Derived.Test.YtamdanpkkcdhbaaArr
set_option linter.unusedVariables false
set_option linter.unusedSimpArgs false
namespace Go.Proofs.Ytamdanpkkcdhbaa
open Go.RowKit Go.PF

def kL : List Int := [
  0x428a2f98, 0x71374491, 0xb5c0fbcf, 0xe9b5dba5, 0x3956c25b, 0x59f111f1, 0x923f82a4, 0xab1c5ed5,
  0xd807aa98, 0x12835b01, 0x243185be, 0x550c7dc3, 0x72be5d74, 0x80deb1fe, 0x9bdc06a7, 0xc19bf174,
  0xe49b69c1, 0xefbe4786, 0x0fc19dc6, 0x240ca1cc, 0x2de92c6f, 0x4a7484aa, 0x5cb0a9dc, 0x76f988da,
  0x983e5152, 0xa831c66d, 0xb00327c8, 0xbf597fc7, 0xc6e00bf3, 0xd5a79147, 0x06ca6351, 0x14292967,
  0x27b70a85, 0x2e1b2138, 0x4d2c6dfc, 0x53380d13, 0x650a7354, 0x766a0abb, 0x81c2c92e, 0x92722c85,
  0xa2bfe8a1, 0xa81a664b, 0xc24b8b70, 0xc76c51a3, 0xd192e819, 0xd6990624, 0xf40e3585, 0x106aa070,
  0x19a4c116, 0x1e376c08, 0x2748774c, 0x34b0bcb5, 0x391c0cb3, 0x4ed8aa4a, 0x5b9cca4f, 0x682e6ff3,
  0x748f82ee, 0x78a5636f, 0x84c87814, 0x8cc70208, 0x90befffa, 0xa4506ceb, 0xbef9a3f7, 0xc67178f2]
def u32s (l : List Int) : List Value := l.map (Value.int .u32)

theorem there_new (w : World) (cs : Array Value) (T : TypeId) : (w.alloc (.cells cs T)).there w.heap.size 0 cs.size := by
  intro j hj
  have h := heap_alloc_new w (.cells cs T)
  rw [Nat.zero_add]
  exact ⟨by rw [heap_cell h j, Array.getElem?_eq_getElem hj]; rfl, heap_free h j⟩

set_option maxHeartbeats 1000000 in
set_option maxRecDepth 100000 in
theorem consts_any (w : World) : Calls Try.prog 47 #[] w fun e w' => e = .returned (.agg (u32s kL).toArray) ∧ Mods No w w' := by
  go_enter Try.func47, Try.ntmps47
  go_wp2_with (refine wpList_store_mid rfl 78 _ _ rfl _ _ _ rfl rfl ?c1 ?c2 ?c3 ?_)
  case c1 => exact there_new _ _ _
  case c2 => kernel_rfl
  case c3 => kernel_rfl
  have hl := run_loadVar_mid (P := Try.prog) ((w.alloc (.cells (u32s (List.replicate 64 0)).toArray 78)).setCells w.heap.size 0 (u32s kL)) w.heap.size 0 78 (u32s kL) _ (World.rangeAt_setCells_same _ _ _ _ (there_new w (u32s (List.replicate 64 0)).toArray 78)) Try.underlying78 rfl (by kernel_rfl)
  refine bodyPost_ret (v := .agg (u32s kL).toArray) ?_ rfl ⟨rfl, mods_setCells _ (.inr (Nat.le_refl _)) _ _ _ ((Mods.refl _ _).alloc _)⟩
  exact results_cell1 Try.results47 rfl hl
set_option maxHeartbeats 1000000 in
set_option maxRecDepth 100000 in
theorem words_any (w : World) : Calls Try.prog 49 #[] w fun e w' => e = .returned (.agg (u32s kL).toArray) ∧ Mods No w w' := by
  go_enter Try.func49, Try.ntmps49
  go_wp2_with (refine wpList_store_mid rfl 78 _ _ rfl _ _ _ rfl rfl ?c1 ?c2 ?c3 ?_)
  case c1 => exact there_new _ _ _
  case c2 => kernel_rfl
  case c3 => kernel_rfl
  have hl := run_loadVar_mid (P := Try.prog) ((w.alloc (.cells (u32s (List.replicate 64 0)).toArray 78)).setCells w.heap.size 0 (u32s kL)) w.heap.size 0 78 (u32s kL) _ (World.rangeAt_setCells_same _ _ _ _ (there_new w (u32s (List.replicate 64 0)).toArray 78)) Try.underlying78 rfl (by kernel_rfl)
  refine bodyPost_ret (v := .agg (u32s kL).toArray) ?_ rfl ⟨rfl, mods_setCells _ (.inr (Nat.le_refl _)) _ _ _ ((Mods.refl _ _).alloc _)⟩
  exact results_cell1 Try.results49 rfl hl
end Go.Proofs.Ytamdanpkkcdhbaa
