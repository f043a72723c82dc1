/- SHA-256: the rotations, and words of 32 bits. -/
import Derived.Test.YtamdanpkkcdhbaaBase2
import Derived.Test.YtamdanpkkcdhbaaRows
import Derived.RegionTactic
import Derived.Laws.BitsLemmas
set_option linter.unusedVariables false
set_option linter.unusedSimpArgs false
namespace Go.Proofs.Ytamdanpkkcdhbaa
open Go.RowKit Go.PF

/-- x rotated to the right by n -/
def rotr (x : Int) (n : Nat) : Int := Go.bits .or .u32 (x / 2 ^ n) (x * 2 ^ (32 - n) % 4294967296)

theorem wrap32 (x : BitVec 32) : IntKind.u32.wrap ((x.toNat : Nat) : Int) = x.toNat := by
  rw [IntKind.wrap_u32]
  have := x.isLt
  omega
theorem or32 (a b : Int) : Go.bits .or .u32 a b = ((BitVec.ofInt 32 a ||| BitVec.ofInt 32 b).toNat : Int) := wrap32 _
theorem or32_comm (a b : Int) : Go.bits .or .u32 a b = Go.bits .or .u32 b a := by rw [or32, or32, BitVec.or_comm]

theorem rotl_any (x : Int) (hx : 0 ≤ x ∧ x < 4294967296) (k : Nat) (hk : 1 ≤ k ∧ k ≤ 31) (m : Int) (hm : m = -(k : Int)) (w : World) :
    Calls Try.prog 48 #[.int .u32 x, .int .i64 m] w fun e w' => e = .returned (.int .u32 (rotr x k)) ∧ w' = w := by
  subst hm
  have h1 : IntKind.u64.wrap (-(k : Int)) = 18446744073709551616 - k := by rw [IntKind.wrap_u64]; omega
  have h2 : Go.bits .and .u64 (18446744073709551616 - (k : Int)) 31 = 32 - k := by
    have := bits_mask .u64 64 (by decide) (fun n h0 h1 => by rw [IntKind.wrap_u64]; omega) 5 (by decide) (18446744073709551616 - (k : Int)) (by omega) (by omega)
    rw [show ((2 : Int) ^ 5 - 1) = 31 from rfl] at this
    rw [this]
    omega
  go_enter Try.func48, Try.ntmps48
  go_wp2
  go_ret
  refine ⟨?_, rfl⟩
  show Ending.returned (.int .u32 (Go.bits .or .u32 (x * 2 ^ (32 - k) % 4294967296) (x / 2 ^ (32 - (32 - k))))) = _
  rw [show 32 - (32 - k) = k by omega, or32_comm]
  rfl

theorem rotate_any (x : Int) (hx : 0 ≤ x ∧ x < 4294967296) (k : Nat) (hk : 1 ≤ k ∧ k ≤ 31) (m : Int) (hm : m = (k : Int)) (w : World) :
    Calls Try.prog 50 #[.int .u32 x, .int .u64 m] w fun e w' => e = .returned (.int .u32 (rotr x k)) ∧ w' = w := by
  subst hm
  go_enter Try.func50, Try.ntmps50
  go_wp2
  go_ret
  exact ⟨rfl, rfl⟩

theorem rotr_range (x : Int) (n : Nat) : 0 ≤ rotr x n ∧ rotr x n < 4294967296 := by
  unfold rotr
  rw [or32]
  have := (BitVec.ofInt 32 (x / 2 ^ n) ||| BitVec.ofInt 32 (x * 2 ^ (32 - n) % 4294967296)).isLt
  omega
theorem rotl_lit (x : Int) (hx : 0 ≤ x ∧ x < 4294967296) (m : Int) (hm : -31 ≤ m ∧ m ≤ -1) (w : World) :
    Calls Try.prog 48 #[.int .u32 x, .int .i64 m] w fun e w' => e = .returned (.int .u32 (rotr x (-m).toNat)) ∧ w' = w :=
  rotl_any x hx (-m).toNat (by omega) m (by omega) w
theorem rotate_lit (x : Int) (hx : 0 ≤ x ∧ x < 4294967296) (m : Int) (hm : 1 ≤ m ∧ m ≤ 31) (w : World) :
    Calls Try.prog 50 #[.int .u32 x, .int .u64 m] w fun e w' => e = .returned (.int .u32 (rotr x m.toNat)) ∧ w' = w :=
  rotate_any x hx m.toNat (by omega) m (by omega) w
end Go.Proofs.Ytamdanpkkcdhbaa
