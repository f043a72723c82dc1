/- SHA-256: the walk over the reference's block. -/
import Derived.Test.YtamdanpkkcdhbaaSha7
set_option linter.unusedVariables false
set_option linter.unusedSimpArgs false
namespace Go.Proofs.Ytamdanpkkcdhbaa
open Go.RowKit Go.PF

set_option maxHeartbeats 8000000 in
set_option maxRecDepth 100000 in
theorem block_gen (b : ByteArray) (hb : b.size = 64) (K : List Int) (hK : K.length = 64)
    (hCon : ∀ w, Calls Try.prog 49 #[] w fun e w' => e = .returned (.agg (u32s K).toArray) ∧ Mods No w w')
    (s : St8) (hs : s.Ok) (w : World) : Calls Try.prog 39 #[.agg s.vals.toArray, .string b] w fun e w' => e = .returned (.agg ((rnds K (schedTo b 64) s 64).add s).vals.toArray) ∧ Mods No w w' := by
  have HCon := Lib.hid hCon
  have HK := Lib.hid hK
  have HI2 := Lib.hid (info64' hK)
  have HI3 := Lib.hid (info8' s)
  have HI3' := Lib.hid (info8 s)
  clear hCon hK
  have hsg : IntKind.u32.signed = false := rfl
  go_enter Try.func39, Try.ntmps39
  go_wp2_with fail
  have hS : Arr ((w.alloc (Obj.cells s.vals.toArray 63)).alloc (Obj.cells (u32s [0,0,0,0,0,0,0,0]).toArray 63)) w.heap.size s.vals := (Arr.new _ _ _).alloc _
  have hR : Arr ((w.alloc (Obj.cells s.vals.toArray 63)).alloc (Obj.cells (u32s [0,0,0,0,0,0,0,0]).toArray 63)) (w.heap.size + 1) (u32s [0,0,0,0,0,0,0,0]) := by
    have := Arr.new (w.alloc (Obj.cells s.vals.toArray 63)) (u32s [0,0,0,0,0,0,0,0]) 63
    rwa [World.size_alloc] at this
  have hM : Mods No w ((w.alloc (Obj.cells s.vals.toArray 63)).alloc (Obj.cells (u32s [0,0,0,0,0,0,0,0]).toArray 63)) := ((Mods.refl _ _).alloc _).alloc _
  have hZ : w.heap.size + 2 ≤ ((w.alloc (Obj.cells s.vals.toArray 63)).alloc (Obj.cells (u32s [0,0,0,0,0,0,0,0]).toArray 63)).heap.size := by simp
  generalize hN : w.heap.size = N at hS hR hZ ⊢
  rw [show #[Value.int .u32 0, .int .u32 0, .int .u32 0, .int .u32 0, .int .u32 0, .int .u32 0, .int .u32 0, .int .u32 0] = (u32s [0,0,0,0,0,0,0,0]).toArray from rfl]
  generalize (w.alloc (Obj.cells s.vals.toArray 63)).alloc (Obj.cells (u32s [0,0,0,0,0,0,0,0]).toArray 63) = W at hS hR hM hZ ⊢
  refine (HCon.out _).mono ?_
  rintro e w1 ⟨rfl, m1⟩
  have HT : Hid ((w1.alloc (.cells #[.int .u32 0, .int .u32 0, .int .u32 0, .int .u32 0, .int .u32 0, .int .u32 0, .int .u32 0, .int .u32 0, .int .u32 0, .int .u32 0, .int .u32 0, .int .u32 0, .int .u32 0, .int .u32 0, .int .u32 0, .int .u32 0, .int .u32 0, .int .u32 0, .int .u32 0, .int .u32 0, .int .u32 0, .int .u32 0, .int .u32 0, .int .u32 0, .int .u32 0, .int .u32 0, .int .u32 0, .int .u32 0, .int .u32 0, .int .u32 0, .int .u32 0, .int .u32 0, .int .u32 0, .int .u32 0, .int .u32 0, .int .u32 0, .int .u32 0, .int .u32 0, .int .u32 0, .int .u32 0, .int .u32 0, .int .u32 0, .int .u32 0, .int .u32 0, .int .u32 0, .int .u32 0, .int .u32 0, .int .u32 0, .int .u32 0, .int .u32 0, .int .u32 0, .int .u32 0, .int .u32 0, .int .u32 0, .int .u32 0, .int .u32 0, .int .u32 0, .int .u32 0, .int .u32 0, .int .u32 0, .int .u32 0, .int .u32 0, .int .u32 0, .int .u32 0] 78)).there w1.heap.size 0 (u32s K).toArray.size) := (Arr.new w1 (u32s (List.replicate 64 0)) 78).there' (by rw [List.size_toArray, u32s_length, HK.out]; rfl)
  go_wp2_with ((with_reducible refine wpList_store_mid ?_ 78 (.tmp 5) (.tmp 17) ?_ w1.heap.size 0 (u32s K).toArray ?_ ?_ HT.out HI2.out (u32s_one _) ?_); rfl; rfl; rfl; rfl)
  have hA5 : Arr ((w1.alloc (.cells #[.int .u32 0, .int .u32 0, .int .u32 0, .int .u32 0, .int .u32 0, .int .u32 0, .int .u32 0, .int .u32 0, .int .u32 0, .int .u32 0, .int .u32 0, .int .u32 0, .int .u32 0, .int .u32 0, .int .u32 0, .int .u32 0, .int .u32 0, .int .u32 0, .int .u32 0, .int .u32 0, .int .u32 0, .int .u32 0, .int .u32 0, .int .u32 0, .int .u32 0, .int .u32 0, .int .u32 0, .int .u32 0, .int .u32 0, .int .u32 0, .int .u32 0, .int .u32 0, .int .u32 0, .int .u32 0, .int .u32 0, .int .u32 0, .int .u32 0, .int .u32 0, .int .u32 0, .int .u32 0, .int .u32 0, .int .u32 0, .int .u32 0, .int .u32 0, .int .u32 0, .int .u32 0, .int .u32 0, .int .u32 0, .int .u32 0, .int .u32 0, .int .u32 0, .int .u32 0, .int .u32 0, .int .u32 0, .int .u32 0, .int .u32 0, .int .u32 0, .int .u32 0, .int .u32 0, .int .u32 0, .int .u32 0, .int .u32 0, .int .u32 0, .int .u32 0] 78)).setCells w1.heap.size 0 (u32s K)) w1.heap.size (u32s K) := (Arr.new w1 (u32s (List.replicate 64 0)) 78).stored _ (by rw [u32s_length, HK.out]; rfl)
  have hS1 : Arr ((w1.alloc (.cells #[.int .u32 0, .int .u32 0, .int .u32 0, .int .u32 0, .int .u32 0, .int .u32 0, .int .u32 0, .int .u32 0, .int .u32 0, .int .u32 0, .int .u32 0, .int .u32 0, .int .u32 0, .int .u32 0, .int .u32 0, .int .u32 0, .int .u32 0, .int .u32 0, .int .u32 0, .int .u32 0, .int .u32 0, .int .u32 0, .int .u32 0, .int .u32 0, .int .u32 0, .int .u32 0, .int .u32 0, .int .u32 0, .int .u32 0, .int .u32 0, .int .u32 0, .int .u32 0, .int .u32 0, .int .u32 0, .int .u32 0, .int .u32 0, .int .u32 0, .int .u32 0, .int .u32 0, .int .u32 0, .int .u32 0, .int .u32 0, .int .u32 0, .int .u32 0, .int .u32 0, .int .u32 0, .int .u32 0, .int .u32 0, .int .u32 0, .int .u32 0, .int .u32 0, .int .u32 0, .int .u32 0, .int .u32 0, .int .u32 0, .int .u32 0, .int .u32 0, .int .u32 0, .int .u32 0, .int .u32 0, .int .u32 0, .int .u32 0, .int .u32 0, .int .u32 0] 78)).setCells w1.heap.size 0 (u32s K)) N s.vals := ((hS.mods m1 id).alloc _).farCells _ (by have := (hS.mods m1 id).lt (by rw [vals_length]; omega); omega) _
  have hR1 : Arr ((w1.alloc (.cells #[.int .u32 0, .int .u32 0, .int .u32 0, .int .u32 0, .int .u32 0, .int .u32 0, .int .u32 0, .int .u32 0, .int .u32 0, .int .u32 0, .int .u32 0, .int .u32 0, .int .u32 0, .int .u32 0, .int .u32 0, .int .u32 0, .int .u32 0, .int .u32 0, .int .u32 0, .int .u32 0, .int .u32 0, .int .u32 0, .int .u32 0, .int .u32 0, .int .u32 0, .int .u32 0, .int .u32 0, .int .u32 0, .int .u32 0, .int .u32 0, .int .u32 0, .int .u32 0, .int .u32 0, .int .u32 0, .int .u32 0, .int .u32 0, .int .u32 0, .int .u32 0, .int .u32 0, .int .u32 0, .int .u32 0, .int .u32 0, .int .u32 0, .int .u32 0, .int .u32 0, .int .u32 0, .int .u32 0, .int .u32 0, .int .u32 0, .int .u32 0, .int .u32 0, .int .u32 0, .int .u32 0, .int .u32 0, .int .u32 0, .int .u32 0, .int .u32 0, .int .u32 0, .int .u32 0, .int .u32 0, .int .u32 0, .int .u32 0, .int .u32 0, .int .u32 0] 78)).setCells w1.heap.size 0 (u32s K)) (N + 1) (u32s [0,0,0,0,0,0,0,0]) := ((hR.mods m1 id).alloc _).farCells _ (by have := (hR.mods m1 id).lt (by decide); omega) _
  have hM1 : Mods No w ((w1.alloc (.cells #[.int .u32 0, .int .u32 0, .int .u32 0, .int .u32 0, .int .u32 0, .int .u32 0, .int .u32 0, .int .u32 0, .int .u32 0, .int .u32 0, .int .u32 0, .int .u32 0, .int .u32 0, .int .u32 0, .int .u32 0, .int .u32 0, .int .u32 0, .int .u32 0, .int .u32 0, .int .u32 0, .int .u32 0, .int .u32 0, .int .u32 0, .int .u32 0, .int .u32 0, .int .u32 0, .int .u32 0, .int .u32 0, .int .u32 0, .int .u32 0, .int .u32 0, .int .u32 0, .int .u32 0, .int .u32 0, .int .u32 0, .int .u32 0, .int .u32 0, .int .u32 0, .int .u32 0, .int .u32 0, .int .u32 0, .int .u32 0, .int .u32 0, .int .u32 0, .int .u32 0, .int .u32 0, .int .u32 0, .int .u32 0, .int .u32 0, .int .u32 0, .int .u32 0, .int .u32 0, .int .u32 0, .int .u32 0, .int .u32 0, .int .u32 0, .int .u32 0, .int .u32 0, .int .u32 0, .int .u32 0, .int .u32 0, .int .u32 0, .int .u32 0, .int .u32 0] 78)).setCells w1.heap.size 0 (u32s K)) := mods_setCells (F := No) (a := w) w1.heap.size (.inr (Nat.le_trans hM.size m1.size)) _ 0 _ ((hM.no m1).alloc _)
  have b5' : w.heap.size ≤ w1.heap.size := Nat.le_trans hM.size m1.size
  generalize (w1.alloc (.cells #[.int .u32 0, .int .u32 0, .int .u32 0, .int .u32 0, .int .u32 0, .int .u32 0, .int .u32 0, .int .u32 0, .int .u32 0, .int .u32 0, .int .u32 0, .int .u32 0, .int .u32 0, .int .u32 0, .int .u32 0, .int .u32 0, .int .u32 0, .int .u32 0, .int .u32 0, .int .u32 0, .int .u32 0, .int .u32 0, .int .u32 0, .int .u32 0, .int .u32 0, .int .u32 0, .int .u32 0, .int .u32 0, .int .u32 0, .int .u32 0, .int .u32 0, .int .u32 0, .int .u32 0, .int .u32 0, .int .u32 0, .int .u32 0, .int .u32 0, .int .u32 0, .int .u32 0, .int .u32 0, .int .u32 0, .int .u32 0, .int .u32 0, .int .u32 0, .int .u32 0, .int .u32 0, .int .u32 0, .int .u32 0, .int .u32 0, .int .u32 0, .int .u32 0, .int .u32 0, .int .u32 0, .int .u32 0, .int .u32 0, .int .u32 0, .int .u32 0, .int .u32 0, .int .u32 0, .int .u32 0, .int .u32 0, .int .u32 0, .int .u32 0, .int .u32 0] 78)).setCells w1.heap.size 0 (u32s K) = W2 at hA5 hS1 hR1 hM1 ⊢
  generalize w1.heap.size = B5 at hA5 b5' ⊢
  have n56 : B5 ≠ W2.heap.size := by have := hA5.lt (by rw [u32s_length, HK.out]; omega); omega
  have n6s : N ≠ W2.heap.size := by have := hS1.lt (by rw [vals_length]; omega); omega
  have n6r : N + 1 ≠ W2.heap.size := by have := hR1.lt (by decide); omega
  have b6' : w.heap.size ≤ W2.heap.size := hM1.size
  have hW2 : W64 (W2.alloc (.cells #[.int .u32 0, .int .u32 0, .int .u32 0, .int .u32 0, .int .u32 0, .int .u32 0, .int .u32 0, .int .u32 0, .int .u32 0, .int .u32 0, .int .u32 0, .int .u32 0, .int .u32 0, .int .u32 0, .int .u32 0, .int .u32 0, .int .u32 0, .int .u32 0, .int .u32 0, .int .u32 0, .int .u32 0, .int .u32 0, .int .u32 0, .int .u32 0, .int .u32 0, .int .u32 0, .int .u32 0, .int .u32 0, .int .u32 0, .int .u32 0, .int .u32 0, .int .u32 0, .int .u32 0, .int .u32 0, .int .u32 0, .int .u32 0, .int .u32 0, .int .u32 0, .int .u32 0, .int .u32 0, .int .u32 0, .int .u32 0, .int .u32 0, .int .u32 0, .int .u32 0, .int .u32 0, .int .u32 0, .int .u32 0, .int .u32 0, .int .u32 0, .int .u32 0, .int .u32 0, .int .u32 0, .int .u32 0, .int .u32 0, .int .u32 0, .int .u32 0, .int .u32 0, .int .u32 0, .int .u32 0, .int .u32 0, .int .u32 0, .int .u32 0, .int .u32 0] 78)) W2.heap.size (schedTo b 0) := W64.new W2 78
  have hI0 : BIn w (W2.alloc (.cells #[.int .u32 0, .int .u32 0, .int .u32 0, .int .u32 0, .int .u32 0, .int .u32 0, .int .u32 0, .int .u32 0, .int .u32 0, .int .u32 0, .int .u32 0, .int .u32 0, .int .u32 0, .int .u32 0, .int .u32 0, .int .u32 0, .int .u32 0, .int .u32 0, .int .u32 0, .int .u32 0, .int .u32 0, .int .u32 0, .int .u32 0, .int .u32 0, .int .u32 0, .int .u32 0, .int .u32 0, .int .u32 0, .int .u32 0, .int .u32 0, .int .u32 0, .int .u32 0, .int .u32 0, .int .u32 0, .int .u32 0, .int .u32 0, .int .u32 0, .int .u32 0, .int .u32 0, .int .u32 0, .int .u32 0, .int .u32 0, .int .u32 0, .int .u32 0, .int .u32 0, .int .u32 0, .int .u32 0, .int .u32 0, .int .u32 0, .int .u32 0, .int .u32 0, .int .u32 0, .int .u32 0, .int .u32 0, .int .u32 0, .int .u32 0, .int .u32 0, .int .u32 0, .int .u32 0, .int .u32 0, .int .u32 0, .int .u32 0, .int .u32 0, .int .u32 0] 78)) N (N + 1) B5 W2.heap.size K s (schedTo b 0) := ⟨hA5.alloc _, hW2, hS1.alloc _, hR1.alloc _, hM1.alloc _⟩
  generalize W2.alloc (.cells #[.int .u32 0, .int .u32 0, .int .u32 0, .int .u32 0, .int .u32 0, .int .u32 0, .int .u32 0, .int .u32 0, .int .u32 0, .int .u32 0, .int .u32 0, .int .u32 0, .int .u32 0, .int .u32 0, .int .u32 0, .int .u32 0, .int .u32 0, .int .u32 0, .int .u32 0, .int .u32 0, .int .u32 0, .int .u32 0, .int .u32 0, .int .u32 0, .int .u32 0, .int .u32 0, .int .u32 0, .int .u32 0, .int .u32 0, .int .u32 0, .int .u32 0, .int .u32 0, .int .u32 0, .int .u32 0, .int .u32 0, .int .u32 0, .int .u32 0, .int .u32 0, .int .u32 0, .int .u32 0, .int .u32 0, .int .u32 0, .int .u32 0, .int .u32 0, .int .u32 0, .int .u32 0, .int .u32 0, .int .u32 0, .int .u32 0, .int .u32 0, .int .u32 0, .int .u32 0, .int .u32 0, .int .u32 0, .int .u32 0, .int .u32 0, .int .u32 0, .int .u32 0, .int .u32 0, .int .u32 0, .int .u32 0, .int .u32 0, .int .u32 0, .int .u32 0] 78) = W3 at hI0 ⊢
  generalize W2.heap.size = B6 at hI0 n56 n6s n6r b6' ⊢
  clear hA5 hS1 hR1 hM1 hW2 HT hS hR hM hZ m1 W2 W w1
  go_loopw [7] (fun q wr => ∃ k : Nat, k ≤ 64 ∧ q = .int .i64 k ∧ BIn w wr N (N + 1) B5 B6 K s (schedTo b k)) (fun q _ => 64 - (intOf q).toNat)
  case atStart => exact ⟨0, Nat.zero_le _, rfl, hI0⟩
  case round =>
    obtain ⟨k, hk, rfl, hI⟩ := hrel
    clear hI0
    by_cases hlt : k < 64
    · have hk1 : (k : Int) < 64 := by omega
      by_cases h16 : k < 16
      · have hk2 : (k : Int) < 16 := by omega
        have hk3 : decide ((k : Int) < 16) = true := by simpa using hk2
        obtain ⟨m0, hm0⟩ : ∃ m : Nat, m = 4 * k := ⟨_, rfl⟩
        obtain ⟨m1, hm1⟩ : ∃ m : Nat, m = 4 * k + 1 := ⟨_, rfl⟩
        obtain ⟨m2, hm2⟩ : ∃ m : Nat, m = 4 * k + 2 := ⟨_, rfl⟩
        obtain ⟨m3, hm3⟩ : ∃ m : Nat, m = 4 * k + 3 := ⟨_, rfl⟩
        have q0 : 4 * (k : Int) = (m0 : Int) := by omega
        have q1 : (m0 : Int) + 1 = (m1 : Int) := by omega
        have q2 : (m0 : Int) + 2 = (m2 : Int) := by omega
        have q3 : (m0 : Int) + 3 = (m3 : Int) := by omega
        have i0 : (m0 : Int) < 64 := by omega
        have i1 : (m1 : Int) < 64 := by omega
        have i2 : (m2 : Int) < 64 := by omega
        have i3 : (m3 : Int) < 64 := by omega
        have HM : Hid (m0 = 4 * k ∧ m1 = 4 * k + 1 ∧ m2 = 4 * k + 2 ∧ m3 = 4 * k + 3) := ⟨hm0, hm1, hm2, hm3⟩
        clear hm0 hm1 hm2 hm3
        have t0 := byt_lt b m0
        have t1 := byt_lt b m1
        have t2 := byt_lt b m2
        have t3 := byt_lt b m3
        have e0 := byt_at b m0 (by omega)
        have e1 := byt_at b m1 (by omega)
        have e2 := byt_at b m2 (by omega)
        have e3 := byt_at b m3 (by omega)
        go_wp2_with fail
        refine wp_region_ext 31 (by kernel_rfl) (by kernel_rfl) ?_
        simp only [List.take_succ_cons, List.take_zero, List.drop_succ_cons, List.drop_zero, List.take_nil, List.drop_nil]
        repeat (first | go_big_quiet_skip | (go_big_quiet_want; go_big_quiet_op; first | go_big_quiet_on | go_big_quiet_call ((fail))))
        refine wpQuiet_nil ?_
        intro x
        have c1 := ((hI.ext x).a6 k hlt).1
        have f1 := ((hI.ext x).a6 k hlt).2
        have HR := fun v hv => Lib.hid ((hI.ext x).next hlt v hv n56 n6s n6r b6')
        have HRR := Lib.hid HR
        have HWW := Lib.hid ((word_sum b k m0 m1 m2 m3 HM.out).trans (wNext_lo b k h16).symm)
        clear HR hI
        go_wp2_with fail
        go_roundw
        case rel => exact ⟨k + 1, by omega, by go_num, (HRR.out _ HWW.out).out⟩
        case measure => simp [intOf]; omega
      · have hk0 : 16 ≤ k := by omega
        have hk2 : (16 : Int) ≤ k := by omega
        have hk3 : decide ((k : Int) < 16) = false := by simp; omega
        obtain ⟨n15, g15⟩ : ∃ m : Nat, m = k - 15 := ⟨_, rfl⟩
        obtain ⟨n2, g2⟩ : ∃ m : Nat, m = k - 2 := ⟨_, rfl⟩
        obtain ⟨n16, g16⟩ : ∃ m : Nat, m = k - 16 := ⟨_, rfl⟩
        obtain ⟨n7, g7⟩ : ∃ m : Nat, m = k - 7 := ⟨_, rfl⟩
        have r15 : (k : Int) - 15 = n15 := by omega
        have r2 : (k : Int) - 2 = n2 := by omega
        have r16 : (k : Int) - 16 = n16 := by omega
        have r7 : (k : Int) - 7 = n7 := by omega
        have b15 : (n15 : Int) < 64 := by omega
        have b2 : (n2 : Int) < 64 := by omega
        have b16 : (n16 : Int) < 64 := by omega
        have b7 : (n7 : Int) < 64 := by omega
        obtain ⟨d15, -⟩ := hI.a6 n15 (by omega)
        obtain ⟨d2, -⟩ := hI.a6 n2 (by omega)
        obtain ⟨d16, -⟩ := hI.a6 n16 (by omega)
        obtain ⟨d7, -⟩ := hI.a6 n7 (by omega)
        have z15 := sched_range b k n15
        have z2 := sched_range b k n2
        have z16 := sched_range b k n16
        have z7 := sched_range b k n7
        have HN := Lib.hid (wNext_hi b k hk0)
        rw [← g15, ← g2, ← g16, ← g7] at HN
        clear g15 g2 g16 g7
        generalize (schedTo b k).getD n15 0 = X15 at d15 z15 HN
        generalize (schedTo b k).getD n2 0 = X2 at d2 z2 HN
        generalize (schedTo b k).getD n16 0 = X16 at d16 z16 HN
        generalize (schedTo b k).getD n7 0 = X7 at d7 z7 HN
        go_wp2_with fail
        have d15x : ∀ x : Ext wr, x.w.cell? _ = _ := fun x => x.cell d15
        have d2x : ∀ x : Ext wr, x.w.cell? _ = _ := fun x => x.cell d2
        refine wp_region_ext 10 (by kernel_rfl) (by kernel_rfl) ?_
        simp only [List.take_succ_cons, List.take_zero, List.drop_succ_cons, List.drop_zero, List.take_nil, List.drop_nil]
        repeat (first | go_big_quiet_skip | (go_big_quiet_want; go_big_quiet_op; first | go_big_quiet_on | go_big_quiet_call ((fail))))
        refine wpQuiet_nil ?_
        intro x
        clear d15x d2x
        go_wp2_with fail
        have d16x : ∀ y : Ext x.w, y.w.cell? _ = _ := fun y => y.cell (x.cell d16)
        have d7x : ∀ y : Ext x.w, y.w.cell? _ = _ := fun y => y.cell (x.cell d7)
        replace hI := hI.ext x
        clear d15 d2 d16 d7
        generalize x.w = wr' at hI d16x d7x ⊢
        clear x
        refine wp_region_ext 29 (by kernel_rfl) (by kernel_rfl) ?_
        simp only [List.take_succ_cons, List.take_zero, List.drop_succ_cons, List.drop_zero, List.take_nil, List.drop_nil]
        repeat (first | go_big_quiet_skip | (go_big_quiet_want; go_big_quiet_op; first | go_big_quiet_on | go_big_quiet_call ((go_at_call 50; refine Ext.call_same _ (rotate_lit _ (by omega) _ (by omega) _)))))
        refine wpQuiet_nil ?_
        intro x
        have c1 := ((hI.ext x).a6 k hlt).1
        have f1 := ((hI.ext x).a6 k hlt).2
        have HR := fun v hv => Lib.hid ((hI.ext x).next hlt v hv n56 n6s n6r b6')
        have HRR := Lib.hid HR
        clear HR hI d16x d7x
        go_wp2_with fail
        go_roundw
        case rel =>
          refine ⟨k + 1, by omega, by go_num, (HRR.out _ ?_).out⟩
          rw [HN.out]
          simp only [sig0, sig1, xor32, add32, Int.reducePow]
          omega
        case measure => simp [intOf]; omega
    · obtain rfl : k = 64 := by omega
      obtain ⟨L, hL⟩ : ∃ L, schedTo b 64 = L := ⟨_, rfl⟩
      have hLl : L.length = 64 := by rw [← hL]; exact schedTo_length b 64
      have hI6 := hI.a6
      rw [hL] at hI6
      have A6 := hI6.arr hLl
      have A5 := hI.a5
      have hS := hI.aS
      have hR := hI.aR
      have hM := hI.m
      have HEL := Lib.hid hL
      have HL := Lib.hid hLl
      clear hI hI6 hL hLl hlt hk
      have HS1 := Lib.hid hS.range
      have HN : Hid ((wr.alloc (.cells #[.int .u32 0, .int .u32 0, .int .u32 0, .int .u32 0, .int .u32 0, .int .u32 0, .int .u32 0, .int .u32 0] 63)).there wr.heap.size 0 s.vals.toArray.size) := (Arr.new wr (u32s [0, 0, 0, 0, 0, 0, 0, 0]) 63).there' rfl
      go_wp2_with (first | ((with_reducible refine wpList_load_mid ?_ 63 (.tmp 2) ?_ N 0 ?_ s.vals _ HS1.out Try.underlying63 rfl HI3'.out ?_); rfl; rfl; rfl) | ((with_reducible refine wpList_store_mid ?_ 63 (.tmp 10) (.tmp 92) ?_ wr.heap.size 0 s.vals.toArray ?_ ?_ HN.out HI3.out (vals_one _) ?_); rfl; rfl; rfl; rfl))
      have hA10 : Arr ((wr.alloc (.cells #[.int .u32 0, .int .u32 0, .int .u32 0, .int .u32 0, .int .u32 0, .int .u32 0, .int .u32 0, .int .u32 0] 63)).setCells wr.heap.size 0 s.vals) wr.heap.size s.vals := (Arr.new wr (u32s [0, 0, 0, 0, 0, 0, 0, 0]) 63).stored _ rfl
      have n510 : B5 ≠ wr.heap.size := by have := A5.lt (by rw [u32s_length, HK.out]; omega); omega
      have n610 : B6 ≠ wr.heap.size := by have := A6.lt (by rw [u32s_length, HL.out]; omega); omega
      have n10s : N ≠ wr.heap.size := by have := hS.lt (by rw [vals_length]; omega); omega
      have n10r : N + 1 ≠ wr.heap.size := by have := hR.lt (by decide); omega
      have b10' : w.heap.size ≤ wr.heap.size := hM.size
      have hI0 : CIn w ((wr.alloc (.cells #[.int .u32 0, .int .u32 0, .int .u32 0, .int .u32 0, .int .u32 0, .int .u32 0, .int .u32 0, .int .u32 0] 63)).setCells wr.heap.size 0 s.vals) N (N + 1) B6 B5 wr.heap.size K L s s :=
        ⟨(A6.alloc _).farCells _ n610 _, (A5.alloc _).farCells _ n510 _, hA10, (hS.alloc _).farCells _ n10s _, (hR.alloc _).farCells _ n10r _, mods_setCells (F := No) (a := w) wr.heap.size (.inr b10') _ 0 _ (hM.alloc _)⟩
      generalize (wr.alloc (.cells #[.int .u32 0, .int .u32 0, .int .u32 0, .int .u32 0, .int .u32 0, .int .u32 0, .int .u32 0, .int .u32 0] 63)).setCells wr.heap.size 0 s.vals = W4 at hI0 ⊢
      generalize wr.heap.size = B10 at hI0 n510 n610 n10s n10r b10' ⊢
      clear hA10 HN A6 A5 hS hR hM HS1 wr
      go_loopw [11] (fun q wr => ∃ k : Nat, k ≤ 64 ∧ q = .int .i64 k ∧ CIn w wr N (N + 1) B6 B5 B10 K L s (rnds K L s k)) (fun q _ => 64 - (intOf q).toNat)
      case atStart => exact ⟨0, Nat.zero_le _, rfl, hI0⟩
      case round =>
        obtain ⟨k, hk, rfl, hI⟩ := hrel
        clear hI0
        by_cases hlt : k < 64
        · have hk1 : (k : Int) < 64 := by omega
          have HS := Lib.hid (rnds_succ K L s k)
          have hO := rnds_ok K L hs k
          generalize rnds K L s k = t at hI hO HS
          have zE := hO.e
          have zA := hO.a
          unfold w32 at zE zA
          go_wp2_with fail
          have c0 : ∀ y : Ext wr, y.w.cell? ⟨B10, 0, none⟩ = some (.int .u32 t.a) := fun y => ((hI.ext y).a7 0 _ rfl).1
          have c1 : ∀ y : Ext wr, y.w.cell? ⟨B10, 1, none⟩ = some (.int .u32 t.b) := fun y => ((hI.ext y).a7 1 _ rfl).1
          have c2 : ∀ y : Ext wr, y.w.cell? ⟨B10, 2, none⟩ = some (.int .u32 t.c) := fun y => ((hI.ext y).a7 2 _ rfl).1
          have c4 : ∀ y : Ext wr, y.w.cell? ⟨B10, 4, none⟩ = some (.int .u32 t.e) := fun y => ((hI.ext y).a7 4 _ rfl).1
          have c5 : ∀ y : Ext wr, y.w.cell? ⟨B10, 5, none⟩ = some (.int .u32 t.f) := fun y => ((hI.ext y).a7 5 _ rfl).1
          have c6 : ∀ y : Ext wr, y.w.cell? ⟨B10, 6, none⟩ = some (.int .u32 t.g) := fun y => ((hI.ext y).a7 6 _ rfl).1
          have c7 : ∀ y : Ext wr, y.w.cell? ⟨B10, 7, none⟩ = some (.int .u32 t.h) := fun y => ((hI.ext y).a7 7 _ rfl).1
          have cK : ∀ y : Ext wr, y.w.cell? ⟨B5, k, none⟩ = some (.int .u32 (K.getD k 0)) := fun y => ((hI.ext y).a6 k _ (u32_at (by rw [HK.out]; exact hlt))).1
          have cL : ∀ y : Ext wr, y.w.cell? ⟨B6, k, none⟩ = some (.int .u32 (L.getD k 0)) := fun y => ((hI.ext y).a5 k _ (u32_at (by rw [HL.out]; exact hlt))).1
          refine wp_region_ext 6 (by kernel_rfl) (by kernel_rfl) ?_
          simp only [List.take_succ_cons, List.take_zero, List.drop_succ_cons, List.drop_zero, List.take_nil, List.drop_nil]
          repeat (first | go_big_quiet_skip | (go_big_quiet_want; go_big_quiet_op; first | go_big_quiet_on | go_big_quiet_call ((fail))))
          refine wpQuiet_nil ?_
          intro x
          replace hI := hI.ext x
          clear c0 c1 c2 c4 c5 c6 c7 cK cL
          generalize x.w = wr at hI ⊢
          clear x
          go_wp2_with fail
          have c0 : ∀ y : Ext wr, y.w.cell? ⟨B10, 0, none⟩ = some (.int .u32 t.a) := fun y => ((hI.ext y).a7 0 _ rfl).1
          have c1 : ∀ y : Ext wr, y.w.cell? ⟨B10, 1, none⟩ = some (.int .u32 t.b) := fun y => ((hI.ext y).a7 1 _ rfl).1
          have c2 : ∀ y : Ext wr, y.w.cell? ⟨B10, 2, none⟩ = some (.int .u32 t.c) := fun y => ((hI.ext y).a7 2 _ rfl).1
          have c4 : ∀ y : Ext wr, y.w.cell? ⟨B10, 4, none⟩ = some (.int .u32 t.e) := fun y => ((hI.ext y).a7 4 _ rfl).1
          have c5 : ∀ y : Ext wr, y.w.cell? ⟨B10, 5, none⟩ = some (.int .u32 t.f) := fun y => ((hI.ext y).a7 5 _ rfl).1
          have c6 : ∀ y : Ext wr, y.w.cell? ⟨B10, 6, none⟩ = some (.int .u32 t.g) := fun y => ((hI.ext y).a7 6 _ rfl).1
          have c7 : ∀ y : Ext wr, y.w.cell? ⟨B10, 7, none⟩ = some (.int .u32 t.h) := fun y => ((hI.ext y).a7 7 _ rfl).1
          have cK : ∀ y : Ext wr, y.w.cell? ⟨B5, k, none⟩ = some (.int .u32 (K.getD k 0)) := fun y => ((hI.ext y).a6 k _ (u32_at (by rw [HK.out]; exact hlt))).1
          have cL : ∀ y : Ext wr, y.w.cell? ⟨B6, k, none⟩ = some (.int .u32 (L.getD k 0)) := fun y => ((hI.ext y).a5 k _ (u32_at (by rw [HL.out]; exact hlt))).1
          refine wp_region_ext 31 (by kernel_rfl) (by kernel_rfl) ?_
          simp only [List.take_succ_cons, List.take_zero, List.drop_succ_cons, List.drop_zero, List.take_nil, List.drop_nil]
          repeat (first | go_big_quiet_skip | (go_big_quiet_want; go_big_quiet_op; first | go_big_quiet_on | go_big_quiet_call ((go_at_call 50; refine Ext.call_same _ (rotate_lit _ (by omega) _ (by omega) _)))))
          refine wpQuiet_nil ?_
          intro x
          replace hI := hI.ext x
          clear c0 c1 c2 c4 c5 c6 c7 cK cL
          generalize x.w = wr at hI ⊢
          clear x
          go_wp2_with fail
          have c0 : ∀ y : Ext wr, y.w.cell? ⟨B10, 0, none⟩ = some (.int .u32 t.a) := fun y => ((hI.ext y).a7 0 _ rfl).1
          have c1 : ∀ y : Ext wr, y.w.cell? ⟨B10, 1, none⟩ = some (.int .u32 t.b) := fun y => ((hI.ext y).a7 1 _ rfl).1
          have c2 : ∀ y : Ext wr, y.w.cell? ⟨B10, 2, none⟩ = some (.int .u32 t.c) := fun y => ((hI.ext y).a7 2 _ rfl).1
          have c4 : ∀ y : Ext wr, y.w.cell? ⟨B10, 4, none⟩ = some (.int .u32 t.e) := fun y => ((hI.ext y).a7 4 _ rfl).1
          have c5 : ∀ y : Ext wr, y.w.cell? ⟨B10, 5, none⟩ = some (.int .u32 t.f) := fun y => ((hI.ext y).a7 5 _ rfl).1
          have c6 : ∀ y : Ext wr, y.w.cell? ⟨B10, 6, none⟩ = some (.int .u32 t.g) := fun y => ((hI.ext y).a7 6 _ rfl).1
          have c7 : ∀ y : Ext wr, y.w.cell? ⟨B10, 7, none⟩ = some (.int .u32 t.h) := fun y => ((hI.ext y).a7 7 _ rfl).1
          have cK : ∀ y : Ext wr, y.w.cell? ⟨B5, k, none⟩ = some (.int .u32 (K.getD k 0)) := fun y => ((hI.ext y).a6 k _ (u32_at (by rw [HK.out]; exact hlt))).1
          have cL : ∀ y : Ext wr, y.w.cell? ⟨B6, k, none⟩ = some (.int .u32 (L.getD k 0)) := fun y => ((hI.ext y).a5 k _ (u32_at (by rw [HL.out]; exact hlt))).1
          refine wp_region_ext 25 (by kernel_rfl) (by kernel_rfl) ?_
          simp only [List.take_succ_cons, List.take_zero, List.drop_succ_cons, List.drop_zero, List.take_nil, List.drop_nil]
          repeat (first | go_big_quiet_skip | (go_big_quiet_want; go_big_quiet_op; first | go_big_quiet_on | go_big_quiet_call ((go_at_call 50; refine Ext.call_same _ (rotate_lit _ (by omega) _ (by omega) _)))))
          refine wpQuiet_nil ?_
          intro x
          replace hI := hI.ext x
          clear c0 c1 c2 c4 c5 c6 c7 cK cL
          generalize x.w = wr at hI ⊢
          clear x
          have hX : ((t.h + Go.bits .xor .u32 (Go.bits .xor .u32 (rotr t.e 6) (rotr t.e 11)) (rotr t.e 25) + Go.bits .xor .u32 (Go.bits .and .u32 t.e t.f) (Go.bits .and .u32 (Go.bits .xor .u32 IntKind.u32.max t.e) t.g) + K[k]?.getD 0) % 4294967296 + L[k]?.getD 0) % 4294967296 = rndX t (K.getD k 0) (L.getD k 0) := by
            simp only [rndX, add32, big1, chs, xor32, and32, not32, List.getD_eq_getElem?_getD]
            omega
          have hY : (Go.bits .xor .u32 (Go.bits .xor .u32 (rotr t.a 2) (rotr t.a 13)) (rotr t.a 22) + Go.bits .xor .u32 (Go.bits .xor .u32 (Go.bits .and .u32 t.a t.b) (Go.bits .and .u32 t.a t.c)) (Go.bits .and .u32 t.b t.c)) % 4294967296 = rndY t := by
            simp only [rndY, add32, big0, maj, xor32, and32]
          rw [hX, hY]
          have HX : Hid (rnd t (K.getD k 0) (L.getD k 0) = ⟨add32 (rndX t (K.getD k 0) (L.getD k 0)) (rndY t), t.a, t.b, t.c, add32 t.d (rndX t (K.getD k 0) (L.getD k 0)), t.e, t.f, t.g⟩) := rfl
          clear hX hY
          generalize rndX t (K.getD k 0) (L.getD k 0) = X at HX ⊢
          generalize rndY t = Y at HX ⊢
          have d0 := (hI.a7 0 _ rfl).1
          have d1 := (hI.a7 1 _ rfl).1
          have d2 := (hI.a7 2 _ rfl).1
          have d3 := (hI.a7 3 _ rfl).1
          have d4 := (hI.a7 4 _ rfl).1
          have d5 := (hI.a7 5 _ rfl).1
          have d6 := (hI.a7 6 _ rfl).1
          obtain ⟨t', ht'⟩ : ∃ t' : St8, t' = ⟨add32 X Y, t.a, t.b, t.c, add32 t.d X, t.e, t.f, t.g⟩ := ⟨_, rfl⟩
          have HT := Lib.hid (hI.a7.there' (vs := t'.vals.toArray) rfl)
          have HI := Lib.hid (info8' t')
          have HV : Hid (∀ a : Act, a.eval (.tmp 172) = .agg #[.int .u32 ((X + Y) % 4294967296), .int .u32 t.a, .int .u32 t.b, .int .u32 t.c, .int .u32 ((t.d + X) % 4294967296), .int .u32 t.e, .int .u32 t.f, .int .u32 t.g] → a.eval (.tmp 172) = .agg t'.vals.toArray) := by
            subst ht'
            exact fun _ h => h
          have HX2 := Lib.hid (HX.out.trans ht'.symm)
          have HR := Lib.hid (hI.round t' t'.vals rfl n610 n510 n10s n10r b10')
          clear ht' HX
          go_wp2_with ((with_reducible refine wpList_store_mid ?_ 63 (.tmp 10) (.tmp 172) ?_ B10 0 t'.vals.toArray ?_ ?_ HT.out HI.out (vals_one _) ?_); rfl; rfl; rfl; exact HV.out _ rfl)
          go_roundw
          case rel => exact ⟨k + 1, by omega, by go_num, by rw [HS.out, HX2.out]; exact HR.out⟩
          case measure => simp [intOf]; omega
        · obtain rfl : k = 64 := by omega
          clear hlt hk
          have HF : Hid (rnds K L s 64 = rnds K L s 64) := rfl
          obtain ⟨t, ht⟩ : ∃ t, rnds K L s 64 = t := ⟨_, rfl⟩
          rw [ht] at hI
          have HE := Lib.hid ht
          clear ht HF
          go_wp2_with fail
          go_loopw [16] (fun q wr => ∃ k : Nat, k ≤ 8 ∧ q = .int .i64 k ∧ Arr wr B10 (u32s (mixl t.l s.l k)) ∧ Arr wr N s.vals ∧ Arr wr (N + 1) (u32s [0, 0, 0, 0, 0, 0, 0, 0]) ∧ Mods No w wr) (fun q _ => 8 - (intOf q).toNat)
          case atStart => exact ⟨0, Nat.zero_le _, rfl, by rw [mixl_zero]; exact hI.a7, hI.aS, hI.aR, hI.m⟩
          case round =>
            obtain ⟨k, hk, rfl, h7, hS, hR, hM⟩ := hrel
            clear hI
            by_cases hlt : k < 8
            · have hk1 : (k : Int) < 8 := by omega
              have H7 := Lib.hid h7
              have cT : ∀ y : Ext wr, y.w.cell? ⟨B10, k, none⟩ = some (.int .u32 (t.l.getD k 0)) := fun y => ((h7.ext y) k _ (mixl_at _ _ _ hlt)).1
              have cS : ∀ y : Ext wr, y.w.cell? ⟨N, k, none⟩ = some (.int .u32 (s.l.getD k 0)) := fun y => ((hS.ext y) k _ (vals_at _ _ hlt)).1
              have HM := Lib.hid (mixl_set t.l s.l k hlt)
              have fT := (h7 k _ (mixl_at _ _ _ hlt)).2
              generalize t.l.getD k 0 = X at cT HM
              generalize s.l.getD k 0 = Y at cS HM
              go_wp2_with fail
              refine wp_region_ext 9 (by kernel_rfl) (by kernel_rfl) ?_
              simp only [List.take_succ_cons, List.take_zero, List.drop_succ_cons, List.drop_zero, List.take_nil, List.drop_nil]
              repeat (first | go_big_quiet_skip | (go_big_quiet_want; go_big_quiet_op; first | go_big_quiet_on | go_big_quiet_call ((fail))))
              refine wpQuiet_nil ?_
              intro x
              have d1 := cT x
              have f1 : x.w.frozen? ⟨B10, k, none⟩ = false := ((h7.ext x) k _ (mixl_at _ _ _ hlt)).2
              have HR := Lib.hid ((h7.ext x).set k (.int .u32 (add32 X Y)))
              rw [HM.out] at HR
              have hS' := (hS.ext x).far ⟨B10, k, none⟩ n10s (.int .u32 (add32 X Y))
              have hR' := (hR.ext x).far ⟨B10, k, none⟩ n10r (.int .u32 (add32 X Y))
              have hM' := (hM.no x.m).setCell (p := ⟨B10, k, none⟩) (.inr b10') (.int .u32 (add32 X Y))
              have HS' := Lib.hid hS'
              have HR' := Lib.hid hR'
              have HM' := Lib.hid hM'
              clear cT cS hS' hR' hM' hS hR hM h7
              go_wp2_with fail
              go_roundw
              case rel => exact ⟨k + 1, by omega, by go_num, HR.out, HS'.out, HR'.out, HM'.out⟩
              case measure => simp [intOf]; omega
            · obtain rfl : k = 8 := by omega
              rw [mixl_full] at h7
              obtain ⟨r, hr⟩ : ∃ r, t.add s = r := ⟨_, rfl⟩
              have hrv : Arr wr B10 r.vals := by rw [← hr]; exact h7
              have HE2 := Lib.hid hr
              have hst := (hR.stored r.vals rfl)
              have hl' := run_loadVar_mid (P := Try.prog) (wr.setCells (N + 1) 0 r.vals) (N + 1) 0 63 r.vals _ hst.range Try.underlying63 rfl (info8 r)
              have hM' := mods_setCells (F := No) (a := w) (N + 1) (.inr (by omega)) r.vals 0 wr hM
              have HL := Lib.hid hl'
              have HM := Lib.hid hM'
              have HT := Lib.hid (hR.there' (vs := r.vals.toArray) rfl)
              have HI := Lib.hid (info8 r)
              have HI' := Lib.hid (info8' r)
              have HR := Lib.hid hrv.range
              clear hl' hM' hM hr hrv hst hR h7 hS hlt hk
              go_wp2_with (first | ((with_reducible refine wpList_load_mid ?_ 63 (.tmp 10) ?_ B10 0 ?_ r.vals _ HR.out Try.underlying63 rfl HI.out ?_); rfl; rfl; rfl) | ((with_reducible refine wpList_store_mid ?_ 63 (.tmp 4) (.tmp 186) ?_ (N + 1) 0 r.vals.toArray ?_ ?_ HT.out HI'.out (vals_one _) ?_); rfl; rfl; rfl; rfl))
              refine bodyPost_ret (v := .agg r.vals.toArray) ?_ rfl ⟨by rw [HEL.out, HE.out, HE2.out], HM.out⟩
              exact results_cell1 Try.results39 (by rfl) HL.out

theorem block_any (b : ByteArray) (hb : b.size = 64) (s : St8) (hs : s.Ok) (w : World) : Calls Try.prog 39 #[.agg s.vals.toArray, .string b] w fun e w' => e = .returned (.agg (comp b s).vals.toArray) ∧ Mods No w w' :=
  block_gen b hb kL kL_length (fun w => words_any w) s hs w
end Go.Proofs.Ytamdanpkkcdhbaa
