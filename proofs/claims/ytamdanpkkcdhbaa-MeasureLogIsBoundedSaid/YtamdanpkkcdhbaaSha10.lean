/- SHA-256: the model of the digest. -/
import Derived.Test.YtamdanpkkcdhbaaSha9
set_option linter.unusedVariables false
set_option linter.unusedSimpArgs false
namespace Go.Proofs.Ytamdanpkkcdhbaa
open Go.RowKit Go.PF

def H0 : St8 := ⟨0x6a09e667, 0xbb67ae85, 0x3c6ef372, 0xa54ff53a, 0x510e527f, 0x9b05688c, 0x1f83d9ab, 0x5be0cd19⟩
def blk (m : ByteArray) (k : Nat) : ByteArray := m.extract (64 * k) (64 * k + 64)
def tl (m : ByteArray) (k : Nat) : ByteArray := m.extract (64 * k) m.size
def sumTo (m : ByteArray) : Nat → St8
  | 0 => H0
  | k + 1 => comp (blk m k) (sumTo m k)
def byteOf (x : Int) (t : Nat) : Int := x / 2 ^ (24 - 8 * t) % 256
def dgTo (h : List Int) (k : Nat) : List Int := (List.range 32).map fun j => if j / 4 < k then byteOf (h.getD (j / 4) 0) (j % 4) else 0
def u8s (l : List Int) : List Value := l.map (Value.int .u8)
/-- the digest of s, byte by byte -/
def shaL (s : ByteArray) : List Int := dgTo (sumTo (padS s) ((padS s).size / 64)).l 8

theorem H0_ok : H0.Ok := by constructor <;> (unfold w32 H0; decide)
theorem sumTo_ok (m : ByteArray) : ∀ k, (sumTo m k).Ok
  | 0 => H0_ok
  | k + 1 => comp_ok _ _
theorem dgTo_length (h : List Int) (k : Nat) : (dgTo h k).length = 32 := by simp [dgTo]
theorem shaL_length (s : ByteArray) : (shaL s).length = 32 := dgTo_length _ _
theorem u8s_length (l : List Int) : (u8s l).length = l.length := by simp [u8s]
theorem u8s_one (l : List Int) : (u8s l).toArray.all (·.oneCell') = true := all_oneCell_toArray (by intro v hv; simp only [u8s, List.mem_map] at hv; obtain ⟨x, _, rfl⟩ := hv; rfl)
theorem u8_at {l : List Int} {i : Nat} (h : i < l.length) : (u8s l)[i]? = some (.int .u8 (l.getD i 0)) := by simp [u8s, List.getD, List.getElem?_eq_getElem h]
theorem dgTo_zero (h : List Int) : u8s (dgTo h 0) = u8s (List.replicate 32 0) := rfl
theorem dgTo_set (h : List Int) (k : Nat) (hk : k < 8) (v0 v1 v2 v3 : Int) (e : v0 = byteOf (h.getD k 0) 0 ∧ v1 = byteOf (h.getD k 0) 1 ∧ v2 = byteOf (h.getD k 0) 2 ∧ v3 = byteOf (h.getD k 0) 3) :
    ((((u8s (dgTo h k)).set (4 * k) (.int .u8 v0)).set (4 * k + 1) (.int .u8 v1)).set (4 * k + 2) (.int .u8 v2)).set (4 * k + 3) (.int .u8 v3) = u8s (dgTo h (k + 1)) := by
  obtain ⟨rfl, rfl, rfl, rfl⟩ := e
  match k, hk with
  | 0, _ => rfl
  | 1, _ => rfl
  | 2, _ => rfl
  | 3, _ => rfl
  | 4, _ => rfl
  | 5, _ => rfl
  | 6, _ => rfl
  | 7, _ => rfl
theorem info32 {l : List Int} (h : l.length = 32) : (Try.prog.info? 26).map (·.size) = some (u8s l).length := by
  rw [u8s_length, h]
  kernel_rfl
theorem info32' {l : List Int} (h : l.length = 32) : (Try.prog.info? 26).map (·.size) = some (u8s l).toArray.size := by
  rw [List.size_toArray]
  exact info32 h

theorem ext_size (m : ByteArray) (a b : Nat) : (m.extract a b).size = min b m.size - a := by simp
theorem ext_ext (m : ByteArray) (a b c d : Nat) : (m.extract a b).extract c d = m.extract (a + c) (min (a + d) b) := by
  apply ByteArray.ext
  simp [Array.extract_extract]
theorem blk_size (m : ByteArray) (k : Nat) (h : 64 * k + 64 ≤ m.size) : (blk m k).size = 64 := by unfold blk; rw [ext_size]; omega
theorem tl_size (m : ByteArray) (k : Nat) : (tl m k).size = m.size - 64 * k := by unfold tl; rw [ext_size]; omega
theorem tl_blk (m : ByteArray) (k : Nat) (h : 64 * k + 64 ≤ m.size) : (tl m k).extract 0 64 = blk m k := by
  unfold tl blk
  rw [ext_ext, Nat.add_zero, Nat.min_eq_left (by omega)]
theorem tl_next (m : ByteArray) (k : Nat) (h : 64 * k + 64 ≤ m.size) : (tl m k).extract 64 (tl m k).size = tl m (k + 1) := by
  rw [tl_size]
  unfold tl
  rw [ext_ext]
  congr 1
  omega
theorem tl_zero (m : ByteArray) : tl m 0 = m := by
  unfold tl
  simp
theorem padS_size (s : ByteArray) : (padS s).size = (padL s).length := strOfNums_size _
theorem notEmpty {s : ByteArray} (h : 0 < s.size) : s.toList.isEmpty = false := by
  rw [ByteArray.toList_eq]
  cases hl : s.data.toList with
  | nil =>
    have := congrArg List.length hl
    rw [Array.length_toList] at this
    have h2 : s.data.size = s.size := rfl
    rw [List.length_nil] at this
    omega
  | cons a l => rfl
theorem isEmpty' {s : ByteArray} (h : s.size = 0) : s.toList.isEmpty = true := by
  rw [ByteArray.toList_eq]
  cases hl : s.data.toList with
  | nil => rfl
  | cons a l =>
    have := congrArg List.length hl
    rw [Array.length_toList] at this
    have h2 : s.data.size = s.size := rfl
    rw [List.length_cons] at this
    omega
end Go.Proofs.Ytamdanpkkcdhbaa
