/- The walks over the statements' helpers of chapter 40. -/
import Derived.Test.YtachkcoilhlggaaBase2
import Derived.Test.YtachkcoilhlggaaRows
import Derived.RegionTactic
import Derived.Laws.CopyOwn
import Derived.Deep.OwnRows
set_option linter.unusedVariables false
set_option linter.unusedSimpArgs false
namespace Go.Proofs.Ytachkcoilhlggaa
open Go.RowKit Go.PF

/-- help.Mod -/
def modU (v n : Int) : Int := (v % 18446744073709551616) % n
theorem modU_range (v : Int) {n : Int} (h : 0 < n) : 0 ≤ modU v n ∧ modU v n < n := ⟨Int.emod_nonneg _ (by omega), Int.emod_lt_of_pos _ (by omega)⟩

theorem mod_any (v n : Int) (w : World) (hn : 0 < n) (hn2 : n < 9223372036854775808) :
    Calls Try.prog 15 #[.int .i64 v, .int .i64 n] w fun e w' => e = .returned (.int .i64 (modU v n)) ∧ w' = w := by
  have hr := modU_range v hn
  have HR : Hid (0 ≤ modU v n ∧ modU v n < n) := hr
  clear hr
  have hz : (n == 0) = false := by simp; omega
  have hu : IntKind.u64.wrap n = n := by rw [IntKind.wrap_u64]; omega
  have hn0 : 0 ≤ n := by omega
  go_enter Try.func15, Try.ntmps15
  go_wp2
  go_ret
  refine ⟨?_, rfl⟩
  have hu2 : IntKind.u64.wrap v = v % 18446744073709551616 := by rw [IntKind.wrap_u64]
  have ht : (v % 18446744073709551616).tmod n = modU v n := by rw [Int.tmod_eq_emod_of_nonneg (Int.emod_nonneg _ (by omega))]; rfl
  have hw : wrap64 (modU v n) = modU v n := by have := HR.out; unfold wrap64; omega
  show Ending.returned (.int .i64 (wrap64 ((IntKind.u64.wrap v).tmod n))) = _
  rw [hu2, ht, hw]

theorem infoByte : (Try.prog.info? 5).map (fun i => (i.zero, i.size, i.bytes)) = some (some (.int .u8 0), 1, 1) := by kernel_rfl

def fillS (c : Int) : ByteArray := strOfNums (List.replicate 64 c)
theorem fill_any (c : Int) (w : World) :
    Calls Try.prog 19 #[.int .u8 c] w fun e w' => e = .returned (.string (fillS c)) ∧ Mods No w w' := by
  have hmk := run_make_row' (P := Try.prog) 71 5 (.int .u8 0) 1 Try.underlying71 infoByte rfl .i64 .i64 64 (by omega) (by omega)
  have hmk2 : ∀ W : World, (Instr.makeSlice 71 (.int .i64 64) (.int .i64 64)).run Try.prog W = .ok (.slice (some ⟨W.heap.size, 0, none⟩) 64 64) (W.alloc (.cells (madeCells #[.int .u8 0] 64) 5)) := hmk
  clear hmk
  go_enter Try.func19, Try.ntmps19
  go_wp2
  have hb0 := Bytes.made w 5 64
  go_loopw [4] (fun q wr => ∃ k : Nat, k ≤ 64 ∧ q = .int .i64 k ∧ Bytes wr w.heap.size 64 (fun j => if j < k then c else 0) ∧ Mods No w wr) (fun q _ => 64 - (intOf q).toNat)
  case atStart => exact ⟨0, by omega, rfl, hb0.congr (fun j _ => by simp), (Mods.refl _ _).alloc _⟩
  case round =>
    obtain ⟨k, hk, rfl, hB, hM⟩ := hrel
    clear hb0
    by_cases hlt : k < 64
    · obtain ⟨c0, f0⟩ := hB k hlt
      have HB : Hid (Bytes wr w.heap.size 64 (fun j => if j < k then c else 0)) := hB
      clear hB
      go_wp2
      go_roundw
      case rel => exact ⟨k + 1, by omega, by go_num, (HB.out.set hlt c).congr (fun j _ => by
        by_cases e : j = k
        · rw [if_pos e, if_pos (by omega)]
        · rw [if_neg e]
          by_cases g : j < k
          · rw [if_pos g, if_pos (by omega)]
          · rw [if_neg g, if_neg (by omega)]), hM.setCell (.inr (Nat.le_refl _)) _⟩
      case measure => simp [intOf]; omega
    · obtain rfl : k = 64 := by omega
      have hcv := (hB.congr (g := fun _ => c) (fun j hj => by rw [if_pos hj])).str (P := Try.prog) 64 71 5 9 Try.underlying71 Try.underlying5 Try.underlying9
      clear hB
      go_wp2
      go_ret
      refine ⟨?_, hM⟩
      have e : (List.range 64).map (fun _ => c) = List.replicate 64 c := by rw [List.map_const', List.length_range]
      show Ending.returned (.string (strOfNums ((List.range 64).map fun _ => c))) = _
      rw [e]
      rfl
end Go.Proofs.Ytachkcoilhlggaa
