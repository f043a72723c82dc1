/- SHA-256: the model of a block. -/
import Derived.Test.YtamdanpkkcdhbaaSha2
import Derived.Test.YtamdanpkkcdhbaaByt
set_option linter.unusedVariables false
set_option linter.unusedSimpArgs false
namespace Go.Proofs.Ytamdanpkkcdhbaa
open Go.RowKit Go.PF

def xor32 (a b : Int) : Int := Go.bits .xor .u32 a b
def and32 (a b : Int) : Int := Go.bits .and .u32 a b
def add32 (a b : Int) : Int := (a + b) % 4294967296
/-- word i of a block, in big-endian order -/
def wordAt (b : ByteArray) (i : Nat) : Int := byt b (4 * i) * 16777216 + byt b (4 * i + 1) * 65536 + byt b (4 * i + 2) * 256 + byt b (4 * i + 3)
def sig0 (x : Int) : Int := xor32 (xor32 (rotr x 7) (rotr x 18)) (x / 2 ^ 3)
def sig1 (x : Int) : Int := xor32 (xor32 (rotr x 17) (rotr x 19)) (x / 2 ^ 10)
/-- the next word of the schedule, behind those of l -/
def wNext (b : ByteArray) (l : List Int) : Int :=
  if l.length < 16 then wordAt b l.length
  else add32 (add32 (add32 (l.getD (l.length - 16) 0) (sig0 (l.getD (l.length - 15) 0))) (l.getD (l.length - 7) 0)) (sig1 (l.getD (l.length - 2) 0))
def schedTo (b : ByteArray) : Nat → List Int
  | 0 => []
  | n + 1 => (fun l => l ++ [wNext b l]) (schedTo b n)
theorem schedTo_length (b : ByteArray) : ∀ n, (schedTo b n).length = n
  | 0 => rfl
  | n + 1 => by show (schedTo b n ++ [_]).length = _; rw [List.length_append, schedTo_length b n]; rfl
end Go.Proofs.Ytamdanpkkcdhbaa
