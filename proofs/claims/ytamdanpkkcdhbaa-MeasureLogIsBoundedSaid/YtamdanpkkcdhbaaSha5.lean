/- SHA-256: the walk over schedule. -/
import Derived.Test.YtamdanpkkcdhbaaSha4
import Derived.Test.YtamdanpkkcdhbaaRq
import Derived.Lib.Hide
set_option linter.unusedVariables false
set_option linter.unusedSimpArgs false
namespace Go.Proofs.Ytamdanpkkcdhbaa
open Go.RowKit Go.PF

set_option maxHeartbeats 1000000 in
set_option maxRecDepth 100000 in
theorem schedule_any (b : ByteArray) (hb : b.size = 64) (w : World) : Calls Try.prog 46 #[.string b] w fun e w' => e = .returned (.agg (u32s (schedTo b 64)).toArray) ∧ Mods No w w' := by
  go_enter Try.func46, Try.ntmps46
  go_wp2_with fail
  have hW0 := W64.new (w.alloc (.cells #[.int .u32 0, .int .u32 0, .int .u32 0, .int .u32 0, .int .u32 0, .int .u32 0, .int .u32 0, .int .u32 0, .int .u32 0, .int .u32 0, .int .u32 0, .int .u32 0, .int .u32 0, .int .u32 0, .int .u32 0, .int .u32 0, .int .u32 0, .int .u32 0, .int .u32 0, .int .u32 0, .int .u32 0, .int .u32 0, .int .u32 0, .int .u32 0, .int .u32 0, .int .u32 0, .int .u32 0, .int .u32 0, .int .u32 0, .int .u32 0, .int .u32 0, .int .u32 0, .int .u32 0, .int .u32 0, .int .u32 0, .int .u32 0, .int .u32 0, .int .u32 0, .int .u32 0, .int .u32 0, .int .u32 0, .int .u32 0, .int .u32 0, .int .u32 0, .int .u32 0, .int .u32 0, .int .u32 0, .int .u32 0, .int .u32 0, .int .u32 0, .int .u32 0, .int .u32 0, .int .u32 0, .int .u32 0, .int .u32 0, .int .u32 0, .int .u32 0, .int .u32 0, .int .u32 0, .int .u32 0, .int .u32 0, .int .u32 0, .int .u32 0, .int .u32 0] 78)) 78
  have hR1 : ((w.alloc (.cells #[.int .u32 0, .int .u32 0, .int .u32 0, .int .u32 0, .int .u32 0, .int .u32 0, .int .u32 0, .int .u32 0, .int .u32 0, .int .u32 0, .int .u32 0, .int .u32 0, .int .u32 0, .int .u32 0, .int .u32 0, .int .u32 0, .int .u32 0, .int .u32 0, .int .u32 0, .int .u32 0, .int .u32 0, .int .u32 0, .int .u32 0, .int .u32 0, .int .u32 0, .int .u32 0, .int .u32 0, .int .u32 0, .int .u32 0, .int .u32 0, .int .u32 0, .int .u32 0, .int .u32 0, .int .u32 0, .int .u32 0, .int .u32 0, .int .u32 0, .int .u32 0, .int .u32 0, .int .u32 0, .int .u32 0, .int .u32 0, .int .u32 0, .int .u32 0, .int .u32 0, .int .u32 0, .int .u32 0, .int .u32 0, .int .u32 0, .int .u32 0, .int .u32 0, .int .u32 0, .int .u32 0, .int .u32 0, .int .u32 0, .int .u32 0, .int .u32 0, .int .u32 0, .int .u32 0, .int .u32 0, .int .u32 0, .int .u32 0, .int .u32 0, .int .u32 0] 78)).alloc (.cells #[.int .u32 0, .int .u32 0, .int .u32 0, .int .u32 0, .int .u32 0, .int .u32 0, .int .u32 0, .int .u32 0, .int .u32 0, .int .u32 0, .int .u32 0, .int .u32 0, .int .u32 0, .int .u32 0, .int .u32 0, .int .u32 0, .int .u32 0, .int .u32 0, .int .u32 0, .int .u32 0, .int .u32 0, .int .u32 0, .int .u32 0, .int .u32 0, .int .u32 0, .int .u32 0, .int .u32 0, .int .u32 0, .int .u32 0, .int .u32 0, .int .u32 0, .int .u32 0, .int .u32 0, .int .u32 0, .int .u32 0, .int .u32 0, .int .u32 0, .int .u32 0, .int .u32 0, .int .u32 0, .int .u32 0, .int .u32 0, .int .u32 0, .int .u32 0, .int .u32 0, .int .u32 0, .int .u32 0, .int .u32 0, .int .u32 0, .int .u32 0, .int .u32 0, .int .u32 0, .int .u32 0, .int .u32 0, .int .u32 0, .int .u32 0, .int .u32 0, .int .u32 0, .int .u32 0, .int .u32 0, .int .u32 0, .int .u32 0, .int .u32 0, .int .u32 0] 78)).there w.heap.size 0 64 := there_mods (there_new w #[.int .u32 0, .int .u32 0, .int .u32 0, .int .u32 0, .int .u32 0, .int .u32 0, .int .u32 0, .int .u32 0, .int .u32 0, .int .u32 0, .int .u32 0, .int .u32 0, .int .u32 0, .int .u32 0, .int .u32 0, .int .u32 0, .int .u32 0, .int .u32 0, .int .u32 0, .int .u32 0, .int .u32 0, .int .u32 0, .int .u32 0, .int .u32 0, .int .u32 0, .int .u32 0, .int .u32 0, .int .u32 0, .int .u32 0, .int .u32 0, .int .u32 0, .int .u32 0, .int .u32 0, .int .u32 0, .int .u32 0, .int .u32 0, .int .u32 0, .int .u32 0, .int .u32 0, .int .u32 0, .int .u32 0, .int .u32 0, .int .u32 0, .int .u32 0, .int .u32 0, .int .u32 0, .int .u32 0, .int .u32 0, .int .u32 0, .int .u32 0, .int .u32 0, .int .u32 0, .int .u32 0, .int .u32 0, .int .u32 0, .int .u32 0, .int .u32 0, .int .u32 0, .int .u32 0, .int .u32 0, .int .u32 0, .int .u32 0, .int .u32 0, .int .u32 0] 78) ((Mods.refl No _).alloc _) id
  have hM0 : Mods No w ((w.alloc (.cells #[.int .u32 0, .int .u32 0, .int .u32 0, .int .u32 0, .int .u32 0, .int .u32 0, .int .u32 0, .int .u32 0, .int .u32 0, .int .u32 0, .int .u32 0, .int .u32 0, .int .u32 0, .int .u32 0, .int .u32 0, .int .u32 0, .int .u32 0, .int .u32 0, .int .u32 0, .int .u32 0, .int .u32 0, .int .u32 0, .int .u32 0, .int .u32 0, .int .u32 0, .int .u32 0, .int .u32 0, .int .u32 0, .int .u32 0, .int .u32 0, .int .u32 0, .int .u32 0, .int .u32 0, .int .u32 0, .int .u32 0, .int .u32 0, .int .u32 0, .int .u32 0, .int .u32 0, .int .u32 0, .int .u32 0, .int .u32 0, .int .u32 0, .int .u32 0, .int .u32 0, .int .u32 0, .int .u32 0, .int .u32 0, .int .u32 0, .int .u32 0, .int .u32 0, .int .u32 0, .int .u32 0, .int .u32 0, .int .u32 0, .int .u32 0, .int .u32 0, .int .u32 0, .int .u32 0, .int .u32 0, .int .u32 0, .int .u32 0, .int .u32 0, .int .u32 0] 78)).alloc (.cells #[.int .u32 0, .int .u32 0, .int .u32 0, .int .u32 0, .int .u32 0, .int .u32 0, .int .u32 0, .int .u32 0, .int .u32 0, .int .u32 0, .int .u32 0, .int .u32 0, .int .u32 0, .int .u32 0, .int .u32 0, .int .u32 0, .int .u32 0, .int .u32 0, .int .u32 0, .int .u32 0, .int .u32 0, .int .u32 0, .int .u32 0, .int .u32 0, .int .u32 0, .int .u32 0, .int .u32 0, .int .u32 0, .int .u32 0, .int .u32 0, .int .u32 0, .int .u32 0, .int .u32 0, .int .u32 0, .int .u32 0, .int .u32 0, .int .u32 0, .int .u32 0, .int .u32 0, .int .u32 0, .int .u32 0, .int .u32 0, .int .u32 0, .int .u32 0, .int .u32 0, .int .u32 0, .int .u32 0, .int .u32 0, .int .u32 0, .int .u32 0, .int .u32 0, .int .u32 0, .int .u32 0, .int .u32 0, .int .u32 0, .int .u32 0, .int .u32 0, .int .u32 0, .int .u32 0, .int .u32 0, .int .u32 0, .int .u32 0, .int .u32 0, .int .u32 0] 78)) := ((Mods.refl _ _).alloc _).alloc _
  rw [World.size_alloc] at hW0
  generalize (w.alloc (.cells #[.int .u32 0, .int .u32 0, .int .u32 0, .int .u32 0, .int .u32 0, .int .u32 0, .int .u32 0, .int .u32 0, .int .u32 0, .int .u32 0, .int .u32 0, .int .u32 0, .int .u32 0, .int .u32 0, .int .u32 0, .int .u32 0, .int .u32 0, .int .u32 0, .int .u32 0, .int .u32 0, .int .u32 0, .int .u32 0, .int .u32 0, .int .u32 0, .int .u32 0, .int .u32 0, .int .u32 0, .int .u32 0, .int .u32 0, .int .u32 0, .int .u32 0, .int .u32 0, .int .u32 0, .int .u32 0, .int .u32 0, .int .u32 0, .int .u32 0, .int .u32 0, .int .u32 0, .int .u32 0, .int .u32 0, .int .u32 0, .int .u32 0, .int .u32 0, .int .u32 0, .int .u32 0, .int .u32 0, .int .u32 0, .int .u32 0, .int .u32 0, .int .u32 0, .int .u32 0, .int .u32 0, .int .u32 0, .int .u32 0, .int .u32 0, .int .u32 0, .int .u32 0, .int .u32 0, .int .u32 0, .int .u32 0, .int .u32 0, .int .u32 0, .int .u32 0] 78)).alloc (.cells #[.int .u32 0, .int .u32 0, .int .u32 0, .int .u32 0, .int .u32 0, .int .u32 0, .int .u32 0, .int .u32 0, .int .u32 0, .int .u32 0, .int .u32 0, .int .u32 0, .int .u32 0, .int .u32 0, .int .u32 0, .int .u32 0, .int .u32 0, .int .u32 0, .int .u32 0, .int .u32 0, .int .u32 0, .int .u32 0, .int .u32 0, .int .u32 0, .int .u32 0, .int .u32 0, .int .u32 0, .int .u32 0, .int .u32 0, .int .u32 0, .int .u32 0, .int .u32 0, .int .u32 0, .int .u32 0, .int .u32 0, .int .u32 0, .int .u32 0, .int .u32 0, .int .u32 0, .int .u32 0, .int .u32 0, .int .u32 0, .int .u32 0, .int .u32 0, .int .u32 0, .int .u32 0, .int .u32 0, .int .u32 0, .int .u32 0, .int .u32 0, .int .u32 0, .int .u32 0, .int .u32 0, .int .u32 0, .int .u32 0, .int .u32 0, .int .u32 0, .int .u32 0, .int .u32 0, .int .u32 0, .int .u32 0, .int .u32 0, .int .u32 0, .int .u32 0] 78) = W at hW0 hM0 hR1 ⊢
  go_loopw [8] (fun q wr => ∃ k : Nat, k ≤ 16 ∧ q = .int .i64 k ∧ W64 wr (w.heap.size + 1) (schedTo b k) ∧ wr.there w.heap.size 0 64 ∧ Mods No w wr) (fun q _ => 16 - (intOf q).toNat)
  case atStart => exact ⟨0, Nat.zero_le _, rfl, hW0, hR1, hM0⟩
  case round =>
    obtain ⟨k, hk, rfl, hW, hR, hM⟩ := hrel
    clear hW0 hR1 hM0
    by_cases hlt : k < 16
    · have hk1 : (k : Int) < 16 := by omega
      obtain ⟨c0, f0⟩ := hW k (by omega)
      obtain ⟨m0, hm0⟩ : ∃ m : Nat, m = 4 * k := ⟨_, rfl⟩
      obtain ⟨m1, hm1⟩ : ∃ m : Nat, m = 4 * k + 1 := ⟨_, rfl⟩
      obtain ⟨m2, hm2⟩ : ∃ m : Nat, m = 4 * k + 2 := ⟨_, rfl⟩
      obtain ⟨m3, hm3⟩ : ∃ m : Nat, m = 4 * k + 3 := ⟨_, rfl⟩
      have q0 : 4 * (k : Int) = (m0 : Int) := by omega
      have q1 : (m0 : Int) + 1 = (m1 : Int) := by omega
      have q2 : (m0 : Int) + 2 = (m2 : Int) := by omega
      have q3 : (m0 : Int) + 3 = (m3 : Int) := by omega
      have i0 : (m0 : Int) < 64 := by omega
      have i1 : (m1 : Int) < 64 := by omega
      have i2 : (m2 : Int) < 64 := by omega
      have i3 : (m3 : Int) < 64 := by omega
      have HM : Hid (m0 = 4 * k ∧ m1 = 4 * k + 1 ∧ m2 = 4 * k + 2 ∧ m3 = 4 * k + 3) := ⟨hm0, hm1, hm2, hm3⟩
      clear hm0 hm1 hm2 hm3
      have t0 := byt_lt b m0
      have t1 := byt_lt b m1
      have t2 := byt_lt b m2
      have t3 := byt_lt b m3
      have e0 := byt_at b m0 (by omega)
      have e1 := byt_at b m1 (by omega)
      have e2 := byt_at b m2 (by omega)
      have e3 := byt_at b m3 (by omega)
      go_wp2_with fail
      refine wp_region_ext 31 (by kernel_rfl) (by kernel_rfl) ?_
      simp only [List.take_succ_cons, List.take_zero, List.drop_succ_cons, List.drop_zero, List.take_nil, List.drop_nil]
      repeat (first | go_big_quiet_skip | (go_big_quiet_want; go_big_quiet_op; first | go_big_quiet_on | go_big_quiet_call ((fail))))
      refine wpQuiet_nil ?_
      intro x
      have c1 := x.cell c0
      have f1 := x.free c0 f0
      have hW1 := (hW.mods x.m id).next (by omega) _ ((word_byt b k m0 m1 m2 m3 HM.out).trans (wNext_lo b k hlt).symm)
      have hR1 := there_set (there_mods hR x.m id) ⟨w.heap.size + 1, k, none⟩ (.int .u32 (Go.bits .or .u32 (Go.bits .or .u32 (Go.bits .or .u32 (byt b m0 * 16777216) (byt b m1 * 65536)) (byt b m2 * 256)) (byt b m3)))
      have hM1 := (hM.no x.m).setCell (p := ⟨w.heap.size + 1, k, none⟩) (.inr (by simp)) (.int .u32 (Go.bits .or .u32 (Go.bits .or .u32 (Go.bits .or .u32 (byt b m0 * 16777216) (byt b m1 * 65536)) (byt b m2 * 256)) (byt b m3)))
      have HW := Lib.hid hW1
      have HR := Lib.hid hR1
      have HM := Lib.hid hM1
      clear hW1 hR1 hM1
      go_wp2_with fail
      go_roundw
      case rel => exact ⟨k + 1, by omega, by go_num, HW.out, HR.out, HM.out⟩
      case measure => simp [intOf]; omega
    · obtain rfl : k = 16 := by omega
      clear hlt hk
      go_wp2_with fail
      go_loopw [5] (fun q wr => ∃ k : Nat, 16 ≤ k ∧ k ≤ 64 ∧ q = .int .i64 k ∧ W64 wr (w.heap.size + 1) (schedTo b k) ∧ wr.there w.heap.size 0 64 ∧ Mods No w wr) (fun q _ => 64 - (intOf q).toNat)
      case atStart => exact ⟨16, Nat.le_refl _, by omega, rfl, hW, hR, hM⟩
      case round =>
        obtain ⟨k, hk0, hk, rfl, hW, hR, hM⟩ := hrel
        by_cases hlt : k < 64
        · have hk1 : (k : Int) < 64 := by omega
          have hk2 : (16 : Int) ≤ k := by omega
          obtain ⟨c0, f0⟩ := hW k (by omega)
          obtain ⟨n15, g15⟩ : ∃ m : Nat, m = k - 15 := ⟨_, rfl⟩
          obtain ⟨n2, g2⟩ : ∃ m : Nat, m = k - 2 := ⟨_, rfl⟩
          obtain ⟨n16, g16⟩ : ∃ m : Nat, m = k - 16 := ⟨_, rfl⟩
          obtain ⟨n7, g7⟩ : ∃ m : Nat, m = k - 7 := ⟨_, rfl⟩
          have r15 : (k : Int) - 15 = n15 := by omega
          have r2 : (k : Int) - 2 = n2 := by omega
          have r16 : (k : Int) - 16 = n16 := by omega
          have r7 : (k : Int) - 7 = n7 := by omega
          have b15 : (n15 : Int) < 64 := by omega
          have b2 : (n2 : Int) < 64 := by omega
          have b16 : (n16 : Int) < 64 := by omega
          have b7 : (n7 : Int) < 64 := by omega
          obtain ⟨d15, -⟩ := hW n15 (by omega)
          obtain ⟨d2, -⟩ := hW n2 (by omega)
          obtain ⟨d16, -⟩ := hW n16 (by omega)
          obtain ⟨d7, -⟩ := hW n7 (by omega)
          have z15 := sched_range b k n15
          have z2 := sched_range b k n2
          have z16 := sched_range b k n16
          have z7 := sched_range b k n7
          have HN := Lib.hid (wNext_hi b k hk0)
          rw [← g15, ← g2, ← g16, ← g7] at HN
          clear g15 g2 g16 g7
          generalize (schedTo b k).getD n15 0 = X15 at *
          generalize (schedTo b k).getD n2 0 = X2 at *
          generalize (schedTo b k).getD n16 0 = X16 at *
          generalize (schedTo b k).getD n7 0 = X7 at *
          go_wp2_with fail
          have d15x : ∀ x : Ext wr, x.w.cell? _ = _ := fun x => x.cell d15
          have d2x : ∀ x : Ext wr, x.w.cell? _ = _ := fun x => x.cell d2
          refine wp_region_ext 10 (by kernel_rfl) (by kernel_rfl) ?_
          simp only [List.take_succ_cons, List.take_zero, List.drop_succ_cons, List.drop_zero, List.take_nil, List.drop_nil]
          repeat (first | go_big_quiet_skip | (go_big_quiet_want; go_big_quiet_op; first | go_big_quiet_on | go_big_quiet_call ((fail))))
          refine wpQuiet_nil ?_
          intro x
          clear d15x d2x
          go_wp2_with fail
          have d16x : ∀ y : Ext x.w, y.w.cell? _ = _ := fun y => y.cell (x.cell d16)
          have d7x : ∀ y : Ext x.w, y.w.cell? _ = _ := fun y => y.cell (x.cell d7)
          have hW' := hW.mods x.m id
          have hR' := there_mods hR x.m id
          have hM' := hM.no x.m
          have c0' := x.cell c0
          have f0' := x.free c0 f0
          clear hW hR hM d15 d2 d16 d7 c0 f0
          generalize x.w = wr' at *
          clear x
          refine wp_region_ext 29 (by kernel_rfl) (by kernel_rfl) ?_
          simp only [List.take_succ_cons, List.take_zero, List.drop_succ_cons, List.drop_zero, List.take_nil, List.drop_nil]
          repeat (first | go_big_quiet_skip | (go_big_quiet_want; go_big_quiet_op; first | go_big_quiet_on | go_big_quiet_call ((go_at_call 48; refine Ext.call_same _ (rotl_lit _ (by omega) _ (by omega) _)))))
          refine wpQuiet_nil ?_
          intro x
          have c1 := x.cell c0'
          have f1 := x.free c0' f0'
          have hW2 := hW'.mods x.m id
          have hR2 := there_mods hR' x.m id
          have hM2 := hM'.no x.m
          clear d16x d7x
          go_wp2_with fail
          go_roundw
          case rel =>
            refine ⟨k + 1, by omega, by omega, by go_num, W64.next hW2 hlt _ ?_, there_set hR2 _ _, hM2.setCell (p := ⟨_, _, none⟩) (.inr (by simp)) _⟩
            rw [HN.out]
            simp only [sig0, sig1, xor32, add32, Int.reducePow]
            omega
          case measure => simp [intOf]; omega
        · obtain rfl : k = 64 := by omega
          have hl := schedTo_length b 64
          clear hlt hk hk0
          obtain ⟨L, hL⟩ : ∃ L, schedTo b 64 = L := ⟨_, rfl⟩
          rw [hL] at hW hl
          have HE := Lib.hid hL
          clear hL
          have hR1 := hW.range hl
          have hI := info64 hl
          have hI' := info64' hl
          have hT := there_of hR hl
          clear hW hR
          have hl' := run_loadVar_mid (P := Try.prog) (wr.setCells w.heap.size 0 (u32s L)) w.heap.size 0 78 (u32s L) _ (World.rangeAt_setCells_same _ _ _ _ (by simpa using hT)) Try.underlying78 rfl hI
          have hM' := mods_setCells (F := No) (a := w) w.heap.size (.inr (Nat.le_refl _)) (u32s L) 0 wr hM
          have HL := Lib.hid hl'
          have HM := Lib.hid hM'
          have HT := Lib.hid hT
          have HI := Lib.hid hI
          have HI' := Lib.hid hI'
          have HR := Lib.hid hR1
          clear hl' hM' hM hl hT hI hI' hR1
          go_wp2_with (first | (refine wpList_load_mid rfl 78 _ rfl _ _ (by rfl) (u32s L) _ HR.out Try.underlying78 rfl HI.out ?_) | (refine wpList_store_mid rfl 78 _ _ rfl _ _ (u32s L).toArray (by rfl) (by rfl) HT.out HI'.out (u32s_one L) ?_))
          refine bodyPost_ret (v := .agg (u32s L).toArray) ?_ rfl ⟨by rw [HE.out], HM.out⟩
          exact results_cell1 Try.results46 (by rfl) HL.out
end Go.Proofs.Ytamdanpkkcdhbaa
