/- help.Mod, and the statement MeasureSumAgrees. -/
import Derived.Test.YtamdanpkkcdhbaaAm2
set_option linter.unusedVariables false
set_option linter.unusedSimpArgs false
namespace Go.Proofs.Ytamdanpkkcdhbaa
open Go.RowKit Go.PF

theorem mod_any (n m : Int) (hn : -9223372036854775808 ≤ n ∧ n < 9223372036854775808) (hm : 0 < m ∧ m < 9223372036854775808) (w : World) :
    Calls Try.prog 14 #[.int .i64 n, .int .i64 m] w fun e w' => ∃ r : Nat, (r : Int) < m ∧ e = .returned (.int .i64 r) ∧ w = w' := by
  have h1 : IntKind.u64.wrap m = m := by rw [IntKind.wrap_u64]; omega
  obtain ⟨u, hu⟩ : ∃ u, IntKind.u64.wrap n = u := ⟨_, rfl⟩
  have hu0 : 0 ≤ u ∧ u < 18446744073709551616 := by rw [← hu, IntKind.wrap_u64]; omega
  have hz : (m == 0) = false := by simp; omega
  go_enter Try.func14, Try.ntmps14
  go_wp2
  obtain ⟨r, hr⟩ : ∃ r : Nat, u % m = r := ⟨(u % m).toNat, by have := Int.emod_nonneg u (show m ≠ 0 by omega); omega⟩
  have hlt : u % m < m := Int.emod_lt_of_pos u hm.1
  have hw : wrap64 (u % m) = r := by rw [hr]; unfold wrap64; omega
  rw [hw]
  go_ret
  exact ⟨r, by omega, rfl, rfl⟩

/-- a slice of n bytes in a block of its own -/
theorem byte_there {w : World} {B : Nat} {l : List Int} (h : Arr w B (u8s l)) {k : Nat} (hk : k < l.length) : w.cell? ⟨B, k, none⟩ = some (.int .u8 (l.getD k 0)) ∧ w.frozen? ⟨B, k, none⟩ = false := h k _ (u8_at hk)
theorem u8s_set (l : List Int) (k : Nat) (c : Int) : (u8s l).set k (.int .u8 c) = u8s (l.set k c) := by simp [u8s, List.map_set]

/-- the tail of MeasureSumAgrees -/
theorem made_any (r : Nat) (hr : r ≤ 100000) (W : World) : (Instr.makeSlice 23 (.int .i64 r) (.int .i64 r)).run Try.prog W = .ok (.slice (some ⟨W.heap.size, 0, none⟩) r r) (W.alloc (.cells (u8s (List.replicate r 0)).toArray 5)) := by
  have h := run_make_row' (P := Try.prog) 23 5 (.int .u8 0) 1 Try.underlying23 infoByte rfl .i64 .i64 r (by omega) (by omega) W
  rw [madeCells1] at h
  rw [h]
  simp [u8s]

set_option maxHeartbeats 1000000 in
theorem sum_law (s : ByteArray) (_ : s.size ≤ 140737488351232) (n : Int) (hn : -9223372036854775808 ≤ n ∧ n < 9223372036854775808) (c : Int) (hc : 0 ≤ c ∧ c < 256) {W : World} :
    Calls Try.prog 3 #[.string s, .int .i64 n, .int .u8 c] W fun e w' => e = .returned (.bool true) ∧ Below W.heap.size W w' := by
  refine Calls.mono (R := fun e w' => e = .returned (.bool true) ∧ Mods No W w') ?_ (fun e w' ⟨h1, h2⟩ => ⟨h1, h2.toBelow (fun _ h => h.elim) (Nat.le_refl _)⟩)
  by_cases hs : 500 < s.size
  · have hs1 : (500 : Int) < s.size := by omega
    go_enter Try.func3, Try.ntmps3
    go_wp2_with fail
    refine (awake_any _).mono ?_
    rintro e w9 ⟨rfl, hb⟩
    go_wp2
    go_ret
    exact ⟨rfl, hb⟩
  · have hs1 : (s.size : Int) ≤ 500 := by omega
    go_enter Try.func3, Try.ntmps3
    go_wp2_with fail
    refine (mod_any n 200 hn (by omega) _).mono ?_
    rintro e w1 ⟨r, hr, rfl, rfl⟩
    have hmk := made_any r (by omega)
    go_wp2_with fail
    have hA := Arr.new W (u8s (List.replicate r 0)) 5
    have hM : Mods No W (W.alloc (.cells (u8s (List.replicate r 0)).toArray 5)) := (Mods.refl _ _).alloc _
    generalize W.alloc (.cells (u8s (List.replicate r 0)).toArray 5) = W1 at hA hM ⊢
    obtain ⟨B, hB⟩ : ∃ B, W.heap.size = B := ⟨_, rfl⟩
    rw [hB] at hA ⊢
    have bB : W.heap.size ≤ B := by omega
    clear hB hmk
    go_loopw [8] (fun q wr => ∃ (k : Nat) (l : List Int), k ≤ r ∧ q = .int .i64 k ∧ l.length = r ∧ Arr wr B (u8s l) ∧ Mods No W wr) (fun q _ => r - (intOf q).toNat)
    case atStart => exact ⟨0, _, Nat.zero_le _, rfl, List.length_replicate .., hA, hM⟩
    case round =>
      obtain ⟨k, l, hk, rfl, hl, gA, gM⟩ := hrel
      clear hA hM
      by_cases hlt : k < r
      · have hk1 : (k : Int) < r := by omega
        obtain ⟨d0, f0⟩ := byte_there gA (k := k) (by omega)
        have HA := Lib.hid (gA.set k (.int .u8 c))
        have HM := Lib.hid (gM.setCell (p := ⟨B, k, none⟩) (.inr bB) (.int .u8 c))
        have Hl := Lib.hid hl
        rw [u8s_set] at HA
        clear gA gM hl
        go_wp2_with fail
        go_roundw
        case rel => exact ⟨k + 1, l.set k c, by omega, by go_num, by rw [List.length_set]; exact Hl.out, HA.out, HM.out⟩
        case measure => simp [intOf]; omega
      · obtain rfl : k = r := by omega
        have hq : s.size ≤ 1000000 := by omega
        have hq2 : (strOfNums l).size ≤ 1000000 := by rw [strOfNums_size]; omega
        have HS1 := Lib.hid (fun w => sum_any s hq w)
        have HR1 := Lib.hid (fun w => refSum_any s hq w)
        have HS2 := Lib.hid (fun w => sum_any _ hq2 w)
        have HR2 := Lib.hid (fun w => refSum_any _ hq2 w)
        have hE1 := fun w => digEq (shaL s) (shaL s) (shaL_length _) (shaL_length _) w
        have hE2 := fun w => digEq (shaL (strOfNums l)) (shaL (strOfNums l)) (shaL_length _) (shaL_length _) w
        simp only [beq_self_eq_true] at hE1 hE2
        obtain ⟨L1, hL1⟩ : ∃ L, shaL s = L := ⟨_, rfl⟩
        obtain ⟨L2, hL2⟩ : ∃ L, shaL (strOfNums l) = L := ⟨_, rfl⟩
        rw [hL1] at HS1 HR1 hE1
        rw [hL2] at HS2 HR2 hE2
        have hcv := fun y : Ext wr => Arr.str (gA.ext y) k hl k
        obtain ⟨T, hT⟩ : ∃ T, strOfNums l = T := ⟨_, rfl⟩
        rw [hT] at HS2 HR2 hcv
        clear hL1 hL2 hT hq hq2 hlt hk hl gA
        go_wp2_with fail
        refine wp_region_ext 17 (by kernel_rfl) (by kernel_rfl) ?_
        simp only [List.take_succ_cons, List.take_zero, List.drop_succ_cons, List.drop_zero]
        repeat (first | go_big_quiet_skip | (go_big_quiet_want; first
          | (refine quiet_of_run (.bool true) (fun w _ => op_value _ (by rfl) (hE1 w)) ?_; go_big_quiet_on; simp only [Act.put, List.setIfInBounds_toArray, List.set_cons_succ, List.set_cons_zero])
          | (refine quiet_of_run (.bool true) (fun w _ => op_value _ (by rfl) (hE2 w)) ?_; go_big_quiet_on; simp only [Act.put, List.setIfInBounds_toArray, List.set_cons_succ, List.set_cons_zero])
          | (refine quiet_of_run (.string T) (fun w ⟨x, e⟩ => e ▸ op_value _ (by rfl) (hcv x)) ?_; go_big_quiet_on; simp only [Act.put, List.setIfInBounds_toArray, List.set_cons_succ, List.set_cons_zero])
          | (go_big_quiet_op; first | go_big_quiet_on | go_big_quiet_call ((first | (go_at_call_of 15 s; exact Ext.call _ (HS1.out _)) | (go_at_call_of 15 T; exact Ext.call _ (HS2.out _)) | (go_at_call_of 16 s; exact Ext.call _ (HR1.out _)) | (go_at_call_of 16 T; exact Ext.call _ (HR2.out _)) | (go_at_call 13; exact Ext.call _ (awake_any _)))))))
        refine wpQuiet_nil ?_
        intro x
        have HM := Lib.hid (gM.no x.m)
        clear gM hcv
        go_wp2_with fail
        go_ret
        exact ⟨rfl, HM.out⟩
end Go.Proofs.Ytamdanpkkcdhbaa
