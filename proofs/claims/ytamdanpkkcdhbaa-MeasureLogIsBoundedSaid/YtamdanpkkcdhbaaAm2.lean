/- awake: the values, and the contract. -/
import Derived.Test.YtamdanpkkcdhbaaAm1
set_option linter.unusedVariables false
set_option linter.unusedSimpArgs false
namespace Go.Proofs.Ytamdanpkkcdhbaa
open Go.RowKit Go.PF

def kAbc : ByteArray := ⟨#[97, 98, 99]⟩
def kX : ByteArray := ⟨#[120]⟩
def kKey : ByteArray := ⟨#[107, 101, 121]⟩
def kFox : ByteArray := ⟨#[84, 104, 101, 32, 113, 117, 105, 99, 107, 32, 98, 114, 111, 119, 110, 32, 102, 111, 120, 32, 106, 117, 109, 112, 115, 32, 111, 118, 101, 114, 32, 116, 104, 101, 32, 108, 97, 122, 121, 32, 100, 111, 103]⟩
set_option maxRecDepth 100000 in
theorem abc_vals : (shaL kAbc)[0]? = some 186 ∧ (shaL kAbc)[1]? = some 120 ∧ (shaL kAbc)[31]? = some 173 := by decide +kernel
set_option maxRecDepth 100000 in
theorem mac_vals : (macL kKey kFox)[0]? = some 247 ∧ (macL kKey kFox)[1]? = some 188 := by decide +kernel
theorem zset (R : List Int) : (zeroRegs.set 2 R).getD 2 [] = R := rfl
theorem meas2 (D : List Int) (hD : shaL kAbc = D) : measRes zeroRegs [] 2 kX kAbc = (0, zeroRegs.set 2 (extL z32 D), [⟨2, D, kX⟩]) := by
  unfold measRes
  rw [if_neg (by decide), if_neg (by decide), hD]
  rfl
theorem meas8 (regs : List (List Int)) (evs : List Ev) : measRes regs evs 8 kX kAbc = (1, regs, evs) := by
  unfold measRes
  rw [if_pos (by decide)]
theorem awake_any (w : World) : Calls Try.prog 13 #[] w fun e w' => e = .returned (.bool true) ∧ Mods No w w' :=
  awake_gen kAbc kKey kFox kX (shaL kAbc) (macL kKey kFox) (extL z32 (shaL kAbc)) (zeroRegs.set 2 (extL z32 (shaL kAbc))) [⟨2, shaL kAbc, kX⟩] (shaL_length _) (macL_length _ _) (shaL_length _) (by decide)
    abc_vals.1 abc_vals.2.1 abc_vals.2.2 mac_vals.1 mac_vals.2 (fun w => sum_any kAbc (by decide) w) (fun w => mac_any kKey kFox (by decide) (by decide) w)
    (fun w => sum_any _ (by rw [ByteArray.size_append, str_size rfl, str_size (shaL_length _)]; omega) w)
    (meas2 _ rfl) (meas8 _ _) (by unfold regRes; rw [if_pos (by decide)]; exact congrArg (fun x => (x, (0 : Int))) (zset _)) rfl rfl rfl rfl w
end Go.Proofs.Ytamdanpkkcdhbaa
