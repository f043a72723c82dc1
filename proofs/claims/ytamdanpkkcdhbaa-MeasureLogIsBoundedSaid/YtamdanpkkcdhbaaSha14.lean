/- HMAC: the masked key. -/
import Derived.Test.YtamdanpkkcdhbaaSha13
import Derived.Lib.LazyBuf
import Derived.Lib.SlBuf
set_option linter.unusedVariables false
set_option linter.unusedSimpArgs false
namespace Go.Proofs.Ytamdanpkkcdhbaa
open Go.RowKit Go.PF

def xor8 (a b : Int) : Int := Go.bits .xor .u8 a b
def keyL (key : ByteArray) : List Int := byts key ++ List.replicate (64 - key.size) 0
def mkTo (key : ByteArray) (m : Int) (k : Nat) : List Int := (List.range 64).map fun j => if j < k then xor8 ((keyL key).getD j 0) m else (keyL key).getD j 0
def maskL (key : ByteArray) (m : Int) : List Int := mkTo key m 64
theorem keyL_length {key : ByteArray} (h : key.size ≤ 64) : (keyL key).length = 64 := by simp [keyL, byts_length]; omega
theorem mkTo_length (key : ByteArray) (m : Int) (k : Nat) : (mkTo key m k).length = 64 := by simp [mkTo]
theorem mkTo_zero {key : ByteArray} (h : key.size ≤ 64) (m : Int) : mkTo key m 0 = keyL key := by
  have hl := keyL_length h
  unfold mkTo
  generalize keyL key = l at hl ⊢
  apply List.ext_getElem
  · simp [hl]
  · intro j h1 h2
    simp [List.getElem?_eq_getElem h2]
theorem mkTo_at (key : ByteArray) (m : Int) (k : Nat) (h : k < 64) : (mkTo key m k).getD k 0 = (keyL key).getD k 0 := by
  simp [mkTo, List.getD, h]
theorem mkTo_set (key : ByteArray) (m : Int) (k : Nat) : (u8s (mkTo key m k)).set k (.int .u8 (xor8 ((keyL key).getD k 0) m)) = u8s (mkTo key m (k + 1)) := by
  apply List.ext_getElem
  · simp [u8s, mkTo]
  · intro j h1 h2
    rw [List.getElem_set]
    simp only [u8s, mkTo, List.getElem_map, List.getElem_range]
    split
    · rename_i e
      subst e
      simp
    · rename_i e
      by_cases g : j < k
      · rw [if_pos g, if_pos (by omega)]
      · rw [if_neg g, if_neg (by omega)]
def z64 : List Int := List.replicate 64 0
theorem z64_length : (u8s z64).length = 64 := by rw [u8s_length]; rfl
theorem made64 : madeCells #[.int .u8 0] 64 = (u8s z64).toArray := by
  rw [madeCells1]
  unfold z64
  simp [u8s]
theorem u8s_rep (n : Nat) (x : Int) : u8s (List.replicate n x) = List.replicate n (Value.int .u8 x) := by simp [u8s]
theorem keyCells (key : ByteArray) : (key.data.toList.map fun x => Value.int .u8 (x.toNat : Int)) ++ (u8s z64).drop (key.data.toList.map fun x => Value.int .u8 (x.toNat : Int)).length = u8s (keyL key) := by
  rw [List.length_map, Array.length_toList, z64, u8s_rep, List.drop_replicate]
  unfold keyL u8s byts
  rw [List.map_append, List.map_map, List.map_replicate]
  rfl

set_option maxRecDepth 100000 in
set_option maxHeartbeats 1000000 in
theorem masked_any (key : ByteArray) (hk : key.size ≤ 64) (m : Int) (w : World) : Calls Try.prog 41 #[.string key, .int .u8 m] w fun e w' => e = .returned (.string (strOfNums (maskL key m))) ∧ Mods No w w' := by
  have hmk := run_make_row' (P := Try.prog) 23 5 (.int .u8 0) 1 Try.underlying23 infoByte rfl .i64 .i64 64 (by omega) (by omega)
  have hmk2 : ∀ W : World, (Instr.makeSlice 23 (.int .i64 64) (.int .i64 64)).run Try.prog W = .ok (.slice (some ⟨W.heap.size, 0, none⟩) 64 64) (W.alloc (.cells (madeCells #[.int .u8 0] 64) 5)) := hmk
  rw [made64] at hmk2
  clear hmk
  have hA := Arr.new w (u8s z64) 5
  have hr := fun ty => run_copy_string (P := Try.prog) (w.alloc (.cells (u8s z64).toArray 5)) 23 9 ty 5 w.heap.size 0 64 64 key Try.underlying23 (fun w => by kernel_rfl) hk
    (fun j hj => by rw [Nat.zero_add, (hA j _ (List.getElem?_eq_getElem (by rw [z64_length]; omega))).1]; rfl) (fun j hj => by rw [Nat.zero_add]; exact (hA j _ (List.getElem?_eq_getElem (by rw [z64_length]; omega))).2)
  have hL := hA.laid (key.data.toList.map fun x => Value.int .u8 (x.toNat : Int)) (by rw [List.length_map, Array.length_toList, z64_length]; exact hk)
  rw [keyCells key] at hL
  have hM : Mods No w ((w.alloc (.cells (u8s z64).toArray 5)).setCells w.heap.size 0 (key.data.toList.map fun x => Value.int .u8 (x.toNat : Int))) := mods_setCells (F := No) (a := w) w.heap.size (.inr (Nat.le_refl _)) _ 0 _ ((Mods.refl _ _).alloc _)
  have HR := Lib.hid hr
  have HL := Lib.hid hL
  have HM := Lib.hid hM
  clear hr hL hM hA
  go_enter Try.func41, Try.ntmps41
  go_wp2_with ((with_reducible refine Lib.wpList_copy_run _ ?_ (.tmp 8) (.tmp 9) 23 9 ?_ (.slice (some ⟨w.heap.size, 0, none⟩) 64 64) (.string key) ?_ ?_ (HR.out _) ?_); rfl; rfl; rfl; rfl)
  have hL := HL.out
  have hM := HM.out
  clear HL HM HR hmk2
  generalize (w.alloc (.cells (u8s z64).toArray 5)).setCells w.heap.size 0 (key.data.toList.map fun x => Value.int .u8 (x.toNat : Int)) = W at hL hM ⊢
  obtain ⟨B, hB⟩ : ∃ B, w.heap.size = B := ⟨_, rfl⟩
  rw [hB] at hL ⊢
  have bB : w.heap.size ≤ B := by omega
  clear hB
  rw [← mkTo_zero hk m] at hL
  go_loopw [13] (fun q wr => ∃ k : Nat, k ≤ 64 ∧ q = .int .i64 k ∧ Arr wr B (u8s (mkTo key m k)) ∧ Mods No w wr) (fun q _ => 64 - (intOf q).toNat)
  case atStart => exact ⟨0, Nat.zero_le _, rfl, hL, hM⟩
  case round =>
    obtain ⟨k, hk', rfl, gL, gM⟩ := hrel
    clear hL hM
    by_cases hlt : k < 64
    · have hk1 : (k : Int) < 64 := by omega
      obtain ⟨d0, f0⟩ := gL k _ (u8_at (by rw [mkTo_length]; exact hlt))
      rw [mkTo_at key m k hlt] at d0
      have HS := Lib.hid (mkTo_set key m k)
      have HL := Lib.hid gL
      have HM := Lib.hid gM
      clear gL gM
      generalize (keyL key).getD k 0 = X at d0 HS
      go_wp2_with fail
      go_roundw
      case rel =>
        refine ⟨k + 1, by omega, by go_num, ?_, HM.out.setCell (p := ⟨B, k, none⟩) (.inr bB) _⟩
        rw [← HS.out]
        exact HL.out.set k _
      case measure => simp [intOf]; omega
    · obtain rfl : k = 64 := by omega
      have hcv := Arr.str gL 64 (mkTo_length _ _ _) 64
      have HM := Lib.hid gM
      clear gL gM
      go_wp2_with fail
      go_ret
      exact ⟨rfl, HM.out⟩
theorem maskL_length (key : ByteArray) (m : Int) : (maskL key m).length = 64 := mkTo_length _ _ _
end Go.Proofs.Ytamdanpkkcdhbaa
