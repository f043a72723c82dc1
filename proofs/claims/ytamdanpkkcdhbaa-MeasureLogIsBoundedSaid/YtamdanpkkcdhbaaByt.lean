/- Bytes of strings by number. -/
import Derived.Test.YtamdanpkkcdhbaaBase2
set_option linter.unusedVariables false
set_option linter.unusedSimpArgs false
namespace Go.Proofs.Ytamdanpkkcdhbaa
open Go.RowKit Go.PF

def byt (s : ByteArray) (i : Nat) : Int := ((s.data.toList.getD i 0).toNat : Int)

theorem byt_at (s : ByteArray) (i : Nat) (h : i < s.size) : ((s[i].toNat : Nat) : Int) = byt s i := by
  have h' : i < s.data.toList.length := by simpa using h
  simp only [byt, List.getD, List.getElem?_eq_getElem h', Option.getD_some]
  rfl

theorem byt_lt (s : ByteArray) (i : Nat) : 0 ≤ byt s i ∧ byt s i < 256 := by
  unfold byt
  have := (s.data.toList.getD i 0).toNat_lt
  omega

end Go.Proofs.Ytamdanpkkcdhbaa
