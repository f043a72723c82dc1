/- The walk over within, of chapter 40's law. -/
import Derived.Test.YtachkcoilhlggaaPl4
set_option linter.unusedVariables false
set_option linter.unusedSimpArgs false
namespace Go.Proofs.Ytachkcoilhlggaa
open Go.RowKit Go.PF

theorem within_yes (x a b : ByteArray) (w : World) (hx : x.size = 64) (ha : a.size = 64) (hb : b.size = 64) (hw : ∀ i, i < 64 → Go.bits .andNot .u8 (Go.bits .and .u8 (byt a i) (byt b i)) (byt x i) = 0 ∧ Go.bits .andNot .u8 (byt x i) (Go.bits .or .u8 (byt a i) (byt b i)) = 0) :
    Calls Try.prog 25 #[.string x, .string a, .string b] w fun e w' => e = .returned (.bool true) ∧ ∃ n, w.drewN n = w' := by
  have e1 : ((x.size : Int) != a.size) = false := by simp [hx, ha]
  have e2 : ((x.size : Int) != b.size) = false := by simp [hx, hb]
  have HW : Hid (∀ i, i < 64 → Go.bits .andNot .u8 (Go.bits .and .u8 (byt a i) (byt b i)) (byt x i) = 0 ∧ Go.bits .andNot .u8 (byt x i) (Go.bits .or .u8 (byt a i) (byt b i)) = 0) := hw
  clear hw
  go_enter Try.func25, Try.ntmps25
  go_wp2
  go_loopw [7] (fun q wr => ∃ k : Nat, k ≤ 64 ∧ q = .int .i64 k ∧ ∃ n, w.drewN n = wr) (fun q _ => 64 - (intOf q).toNat)
  case atStart => exact ⟨0, Nat.zero_le _, rfl, 0, rfl⟩
  case round =>
    obtain ⟨k, hk, rfl, n, rfl⟩ := hrel
    by_cases hlt : k < 64
    · have hq1 : (k : Int) < x.size := by omega
      have hq2 : (k : Int) < a.size := by omega
      have hq3 : (k : Int) < b.size := by omega
      obtain ⟨z1, z2⟩ := HW.out k hlt
      have f1 : ∀ h1 h2 h3, (Go.bits .andNot .u8 (Go.bits .and .u8 (((a[k]'h1).toNat : Nat) : Int) (((b[k]'h2).toNat : Nat) : Int)) (((x[k]'h3).toNat : Nat) : Int) != 0) = false := fun h1 h2 h3 => by rw [byt_at, byt_at, byt_at, z1]; rfl
      have f2 : ∀ h1 h2 h3, (Go.bits .andNot .u8 (((x[k]'h3).toNat : Nat) : Int) (Go.bits .or .u8 (((a[k]'h1).toNat : Nat) : Int) (((b[k]'h2).toNat : Nat) : Int)) != 0) = false := fun h1 h2 h3 => by rw [byt_at, byt_at, byt_at, z2]; rfl
      clear z1 z2
      go_wp2
      go_quiet (fail)
      go_wp2
      go_roundw
      case rel => exact ⟨k + 1, by omega, by go_num, _, rfl⟩
      case measure => simp [intOf]; omega
    · obtain rfl : k = 64 := by omega
      have hq1 : ¬ (((64 : Nat) : Int) < x.size) := by omega
      go_wp2
      go_ret
      exact ⟨rfl, n, rfl⟩
end Go.Proofs.Ytachkcoilhlggaa
