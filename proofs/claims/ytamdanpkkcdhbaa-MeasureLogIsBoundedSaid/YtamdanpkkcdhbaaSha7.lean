/- SHA-256: the walk over compress. -/
import Derived.Test.YtamdanpkkcdhbaaSha6
import Derived.Test.YtamdanpkkcdhbaaRf
set_option linter.unusedVariables false
set_option linter.unusedSimpArgs false
namespace Go.Proofs.Ytamdanpkkcdhbaa
open Go.RowKit Go.PF

set_option maxHeartbeats 1000000 in
set_option maxRecDepth 100000 in
theorem compress_gen (b : ByteArray) (K L : List Int) (hK : K.length = 64) (hL : L.length = 64)
    (hSch : ∀ w, Calls Try.prog 46 #[.string b] w fun e w' => e = .returned (.agg (u32s L).toArray) ∧ Mods No w w')
    (hCon : ∀ w, Calls Try.prog 47 #[] w fun e w' => e = .returned (.agg (u32s K).toArray) ∧ Mods No w w')
    (s : St8) (hs : s.Ok) (w : World) : Calls Try.prog 38 #[.agg s.vals.toArray, .string b] w fun e w' => e = .returned (.agg ((rnds K L s 64).add s).vals.toArray) ∧ Mods No w w' := by
  have HSch := Lib.hid hSch
  have HCon := Lib.hid hCon
  have lS : (u32s L).length = 64 := by rw [u32s_length, hL]
  have lK : (u32s K).length = 64 := by rw [u32s_length, hK]
  have I1 := info64' hL
  have I2 := info64' hK
  have I3 := info8' s
  have HL := Lib.hid hL
  have HK := Lib.hid hK
  have HlS := Lib.hid lS
  have HlK := Lib.hid lK
  have HI1 := Lib.hid I1
  have HI2 := Lib.hid I2
  have HI3 := Lib.hid I3
  clear hSch hCon lS lK I1 I2 I3 hL hK
  go_enter Try.func38, Try.ntmps38
  go_wp2_with fail
  have hS : Arr ((w.alloc (Obj.cells s.vals.toArray 63)).alloc (Obj.cells (u32s [0,0,0,0,0,0,0,0]).toArray 63)) w.heap.size s.vals := (Arr.new _ _ _).alloc _
  have hR : Arr ((w.alloc (Obj.cells s.vals.toArray 63)).alloc (Obj.cells (u32s [0,0,0,0,0,0,0,0]).toArray 63)) (w.heap.size + 1) (u32s [0,0,0,0,0,0,0,0]) := by
    have := Arr.new (w.alloc (Obj.cells s.vals.toArray 63)) (u32s [0,0,0,0,0,0,0,0]) 63
    rwa [World.size_alloc] at this
  have hM : Mods No w ((w.alloc (Obj.cells s.vals.toArray 63)).alloc (Obj.cells (u32s [0,0,0,0,0,0,0,0]).toArray 63)) := ((Mods.refl _ _).alloc _).alloc _
  have hZ : w.heap.size + 2 ≤ ((w.alloc (Obj.cells s.vals.toArray 63)).alloc (Obj.cells (u32s [0,0,0,0,0,0,0,0]).toArray 63)).heap.size := by simp
  generalize hN : w.heap.size = N at hS hR hZ ⊢
  rw [show #[Value.int .u32 0, .int .u32 0, .int .u32 0, .int .u32 0, .int .u32 0, .int .u32 0, .int .u32 0, .int .u32 0] = (u32s [0,0,0,0,0,0,0,0]).toArray from rfl]
  generalize (w.alloc (Obj.cells s.vals.toArray 63)).alloc (Obj.cells (u32s [0,0,0,0,0,0,0,0]).toArray 63) = W at hS hR hM hZ ⊢
  refine wp_region_taken' 7 [15, 16, 5, 6, 7] [3] (by kernel_rfl) (by kernel_rfl) (by kernel_rfl) (by kernel_rfl) ?_
  simp only [List.take_succ_cons, List.take_zero, List.drop_succ_cons, List.drop_zero]
  refine wpNew_quiet rfl ?_
  go_big_quiet_want
  go_big_quiet_op
  go_big_quiet_on
  refine wpQuiet_nil ?_
  refine wpNew_new (New.val (.agg (u32s L).toArray)) (New.val_stable _) rfl rfl (fun x => newAt_val (by go_simp) (HSch.out _)) ?_
  refine wpNew_new (New.val (.agg (u32s K).toArray)) (New.val_stable _) rfl rfl (fun x => newAt_val (by go_simp) (HCon.out _)) ?_
  refine wpNew_quiet rfl ?_
  go_big_quiet_want
  refine quiet_load_row 63 _ rfl _ _ (by rfl) s.vals _ (fun _ ⟨x, e⟩ => e ▸ (hS.ext x).range) Try.underlying63 rfl (info8 s) ?_
  go_big_quiet_on
  refine wpQuiet_nil ?_
  refine wpNew_new (New.arr (u32s (List.replicate 64 0))) (New.arr_stable _) rfl rfl (fun x => newAt_arr _ 78 (by go_simp; rfl)) ?_
  refine wpNew_new (New.arr (u32s (List.replicate 64 0))) (New.arr_stable _) rfl rfl (fun x => newAt_arr _ 78 (by go_simp; rfl)) ?_
  refine wpNew_new (New.arr (u32s (List.replicate 8 0))) (New.arr_stable _) rfl rfl (fun x => newAt_arr _ 63 (by go_simp; rfl)) ?_
  refine wpNew_nil ?_
  intro x
  rintro v1 l1 h1 rfl - - - -
  rintro v2 l2 h2 rfl - - - -
  rintro _ B5 h3 ⟨rfl, z3, A3⟩ b3 - s3 -
  rintro _ B6 h4 ⟨rfl, z4, A4⟩ b4 - s4 d4
  rintro _ B7 h5 ⟨rfl, z5, A5⟩ b5 - s5 d5
  have n56 : B5 ≠ B6 := by have := d4 (B5, h3) (by simp); simp only at this; omega
  have n57 : B5 ≠ B7 := by have := d5 (B5, h3) (by simp); simp only at this; omega
  have n67 : B6 ≠ B7 := by have := d5 (B6, h4) (by simp); simp only at this; omega
  clear d4 d5
  have lS := HlS.out
  have lK := HlK.out
  have I1 := HI1.out
  have I2 := HI2.out
  have I3 := HI3.out
  have A5' := A3.stored (u32s L) (by rw [lS, zeros_length])
  have A6' := A4.farCells B5 (Ne.symm n56) (u32s L)
  have A7' := A5.farCells B5 (Ne.symm n57) (u32s L)
  have A5b := A5'.farCells B6 n56 (u32s K)
  have A6b := A6'.stored (u32s K) (by rw [lK, zeros_length])
  have A7b := A7'.farCells B6 (Ne.symm n67) (u32s K)
  have A5c := A5b.farCells B7 n57 s.vals
  have A6c := A6b.farCells B7 n67 s.vals
  have A7c := A7b.stored s.vals (by rw [zeros_length]; rfl)
  have M1 := mods_setCells (F := No) (a := W) B5 (.inr b3) (u32s L) 0 _ x.m
  have M2 := mods_setCells (F := No) (a := W) B6 (.inr b4) (u32s K) 0 _ M1
  have M3 := mods_setCells (F := No) (a := W) B7 (.inr b5) s.vals 0 _ M2
  have T1 : x.w.there B5 0 (u32s L).toArray.size := A3.there' (by rw [List.size_toArray, lS, zeros_length])
  have T2 : (x.w.setCells B5 0 (u32s L)).there B6 0 (u32s K).toArray.size := A6'.there' (by rw [List.size_toArray, lK, zeros_length])
  have T3 : ((x.w.setCells B5 0 (u32s L)).setCells B6 0 (u32s K)).there B7 0 s.vals.toArray.size := A7b.there' (by rw [List.size_toArray, zeros_length]; rfl)
  simp only [finNew, Act.put, List.setIfInBounds_toArray, List.set_cons_succ, List.set_cons_zero]
  with_reducible refine wpKept_plain ?_ ?_
  · rfl
  with_reducible refine wp_store_mid 78 (.tmp 5) (.tmp 15) ?_ B5 0 (u32s L).toArray ?_ ?_ T1 I1 (u32s_one _) ?_
  · rfl
  · rfl
  · rfl
  refine ⟨M1, ?_⟩
  with_reducible refine wpKept_plain ?_ ?_
  · rfl
  with_reducible refine wp_store_mid 78 (.tmp 6) (.tmp 16) ?_ B6 0 (u32s K).toArray ?_ ?_ T2 I2 (u32s_one _) ?_
  · rfl
  · rfl
  · rfl
  refine ⟨M2, ?_⟩
  with_reducible refine wpKept_plain ?_ ?_
  · rfl
  with_reducible refine wp_store_mid 63 (.tmp 7) (.tmp 17) ?_ B7 0 s.vals.toArray ?_ ?_ T3 I3 (vals_one s) ?_
  · rfl
  · rfl
  · rfl
  refine ⟨M3, ?_⟩
  with_reducible refine wpKept_nil ?_
  simp only [noPanic, List.toList_toArray]
  have hS3 := ((hS.ext x).farCells B5 (by have := hS.lt (by rw [vals_length]; omega); omega) (u32s L)).farCells B6 (by have := hS.lt (by rw [vals_length]; omega); omega) (u32s K) |>.farCells B7 (by have := hS.lt (by rw [vals_length]; omega); omega) s.vals
  have hR3 := ((hR.ext x).farCells B5 (by have := hR.lt (by decide); omega) (u32s L)).farCells B6 (by have := hR.lt (by decide); omega) (u32s K) |>.farCells B7 (by have := hR.lt (by decide); omega) s.vals
  have hM3 := hM.no M3
  have hNW : w.heap.size ≤ W.heap.size := hM.size
  have b5' : w.heap.size ≤ B5 := by omega
  have b6' : w.heap.size ≤ B6 := by omega
  have b7' : w.heap.size ≤ B7 := by omega
  have n7s : N ≠ B7 := by have := hS.lt (by rw [vals_length]; omega); omega
  have n7r : N + 1 ≠ B7 := by have := hR.lt (by decide); omega
  generalize ((x.w.setCells B5 0 (u32s L)).setCells B6 0 (u32s K)).setCells B7 0 s.vals = W3 at A5c A6c A7c hS3 hR3 hM3 ⊢
  clear A5' A6' A7' A5b A6b A7b T1 T2 T3 I1 I2 I3 lS lK M1 M2 M3 A3 A4 A5 hS hR hM hZ z3 z4 z5 s3 s4 s5 b3 b4 b5 hNW
  clear x
  clear W
  go_wp2_with fail
  have hI0 : CIn w W3 N (N + 1) B5 B6 B7 K L s s := ⟨A5c, A6c, A7c, hS3, hR3, hM3⟩
  clear A5c A6c A7c hS3 hR3 hM3
  go_loopw [18] (fun q wr => ∃ k : Nat, k ≤ 64 ∧ q = .int .i64 k ∧ CIn w wr N (N + 1) B5 B6 B7 K L s (rnds K L s k)) (fun q _ => 64 - (intOf q).toNat)
  case atStart => exact ⟨0, Nat.zero_le _, rfl, hI0⟩
  case round =>
    obtain ⟨k, hk, rfl, hI⟩ := hrel
    clear hI0
    by_cases hlt : k < 64
    · have hk1 : (k : Int) < 64 := by omega
      have HS := Lib.hid (rnds_succ K L s k)
      have hO := rnds_ok K L hs k
      generalize rnds K L s k = t at hI hO HS
      have zE := hO.e
      have zA := hO.a
      unfold w32 at zE zA
      go_wp2_with fail
      have c0 : ∀ y : Ext wr, y.w.cell? ⟨B7, 0, none⟩ = some (.int .u32 t.a) := fun y => ((hI.ext y).a7 0 _ rfl).1
      have c1 : ∀ y : Ext wr, y.w.cell? ⟨B7, 1, none⟩ = some (.int .u32 t.b) := fun y => ((hI.ext y).a7 1 _ rfl).1
      have c2 : ∀ y : Ext wr, y.w.cell? ⟨B7, 2, none⟩ = some (.int .u32 t.c) := fun y => ((hI.ext y).a7 2 _ rfl).1
      have c4 : ∀ y : Ext wr, y.w.cell? ⟨B7, 4, none⟩ = some (.int .u32 t.e) := fun y => ((hI.ext y).a7 4 _ rfl).1
      have c5 : ∀ y : Ext wr, y.w.cell? ⟨B7, 5, none⟩ = some (.int .u32 t.f) := fun y => ((hI.ext y).a7 5 _ rfl).1
      have c6 : ∀ y : Ext wr, y.w.cell? ⟨B7, 6, none⟩ = some (.int .u32 t.g) := fun y => ((hI.ext y).a7 6 _ rfl).1
      have c7 : ∀ y : Ext wr, y.w.cell? ⟨B7, 7, none⟩ = some (.int .u32 t.h) := fun y => ((hI.ext y).a7 7 _ rfl).1
      have cK : ∀ y : Ext wr, y.w.cell? ⟨B6, k, none⟩ = some (.int .u32 (K.getD k 0)) := fun y => ((hI.ext y).a6 k _ (u32_at (by rw [HK.out]; exact hlt))).1
      have cL : ∀ y : Ext wr, y.w.cell? ⟨B5, k, none⟩ = some (.int .u32 (L.getD k 0)) := fun y => ((hI.ext y).a5 k _ (u32_at (by rw [HL.out]; exact hlt))).1
      refine wp_region_ext 6 (by kernel_rfl) (by kernel_rfl) ?_
      simp only [List.take_succ_cons, List.take_zero, List.drop_succ_cons, List.drop_zero, List.take_nil, List.drop_nil]
      repeat (first | go_big_quiet_skip | (go_big_quiet_want; go_big_quiet_op; first | go_big_quiet_on | go_big_quiet_call ((fail))))
      refine wpQuiet_nil ?_
      intro x
      replace hI := hI.ext x
      clear c0 c1 c2 c4 c5 c6 c7 cK cL
      generalize x.w = wr at hI ⊢
      clear x
      go_wp2_with fail
      have c0 : ∀ y : Ext wr, y.w.cell? ⟨B7, 0, none⟩ = some (.int .u32 t.a) := fun y => ((hI.ext y).a7 0 _ rfl).1
      have c1 : ∀ y : Ext wr, y.w.cell? ⟨B7, 1, none⟩ = some (.int .u32 t.b) := fun y => ((hI.ext y).a7 1 _ rfl).1
      have c2 : ∀ y : Ext wr, y.w.cell? ⟨B7, 2, none⟩ = some (.int .u32 t.c) := fun y => ((hI.ext y).a7 2 _ rfl).1
      have c4 : ∀ y : Ext wr, y.w.cell? ⟨B7, 4, none⟩ = some (.int .u32 t.e) := fun y => ((hI.ext y).a7 4 _ rfl).1
      have c5 : ∀ y : Ext wr, y.w.cell? ⟨B7, 5, none⟩ = some (.int .u32 t.f) := fun y => ((hI.ext y).a7 5 _ rfl).1
      have c6 : ∀ y : Ext wr, y.w.cell? ⟨B7, 6, none⟩ = some (.int .u32 t.g) := fun y => ((hI.ext y).a7 6 _ rfl).1
      have c7 : ∀ y : Ext wr, y.w.cell? ⟨B7, 7, none⟩ = some (.int .u32 t.h) := fun y => ((hI.ext y).a7 7 _ rfl).1
      have cK : ∀ y : Ext wr, y.w.cell? ⟨B6, k, none⟩ = some (.int .u32 (K.getD k 0)) := fun y => ((hI.ext y).a6 k _ (u32_at (by rw [HK.out]; exact hlt))).1
      have cL : ∀ y : Ext wr, y.w.cell? ⟨B5, k, none⟩ = some (.int .u32 (L.getD k 0)) := fun y => ((hI.ext y).a5 k _ (u32_at (by rw [HL.out]; exact hlt))).1
      refine wp_region_ext 31 (by kernel_rfl) (by kernel_rfl) ?_
      simp only [List.take_succ_cons, List.take_zero, List.drop_succ_cons, List.drop_zero, List.take_nil, List.drop_nil]
      repeat (first | go_big_quiet_skip | (go_big_quiet_want; go_big_quiet_op; first | go_big_quiet_on | go_big_quiet_call ((go_at_call 48; refine Ext.call_same _ (rotl_lit _ (by omega) _ (by omega) _)))))
      refine wpQuiet_nil ?_
      intro x
      replace hI := hI.ext x
      clear c0 c1 c2 c4 c5 c6 c7 cK cL
      generalize x.w = wr at hI ⊢
      clear x
      go_wp2_with fail
      have c0 : ∀ y : Ext wr, y.w.cell? ⟨B7, 0, none⟩ = some (.int .u32 t.a) := fun y => ((hI.ext y).a7 0 _ rfl).1
      have c1 : ∀ y : Ext wr, y.w.cell? ⟨B7, 1, none⟩ = some (.int .u32 t.b) := fun y => ((hI.ext y).a7 1 _ rfl).1
      have c2 : ∀ y : Ext wr, y.w.cell? ⟨B7, 2, none⟩ = some (.int .u32 t.c) := fun y => ((hI.ext y).a7 2 _ rfl).1
      have c4 : ∀ y : Ext wr, y.w.cell? ⟨B7, 4, none⟩ = some (.int .u32 t.e) := fun y => ((hI.ext y).a7 4 _ rfl).1
      have c5 : ∀ y : Ext wr, y.w.cell? ⟨B7, 5, none⟩ = some (.int .u32 t.f) := fun y => ((hI.ext y).a7 5 _ rfl).1
      have c6 : ∀ y : Ext wr, y.w.cell? ⟨B7, 6, none⟩ = some (.int .u32 t.g) := fun y => ((hI.ext y).a7 6 _ rfl).1
      have c7 : ∀ y : Ext wr, y.w.cell? ⟨B7, 7, none⟩ = some (.int .u32 t.h) := fun y => ((hI.ext y).a7 7 _ rfl).1
      have cK : ∀ y : Ext wr, y.w.cell? ⟨B6, k, none⟩ = some (.int .u32 (K.getD k 0)) := fun y => ((hI.ext y).a6 k _ (u32_at (by rw [HK.out]; exact hlt))).1
      have cL : ∀ y : Ext wr, y.w.cell? ⟨B5, k, none⟩ = some (.int .u32 (L.getD k 0)) := fun y => ((hI.ext y).a5 k _ (u32_at (by rw [HL.out]; exact hlt))).1
      refine wp_region_ext 25 (by kernel_rfl) (by kernel_rfl) ?_
      simp only [List.take_succ_cons, List.take_zero, List.drop_succ_cons, List.drop_zero, List.take_nil, List.drop_nil]
      repeat (first | go_big_quiet_skip | (go_big_quiet_want; go_big_quiet_op; first | go_big_quiet_on | go_big_quiet_call ((go_at_call 48; refine Ext.call_same _ (rotl_lit _ (by omega) _ (by omega) _)))))
      refine wpQuiet_nil ?_
      intro x
      replace hI := hI.ext x
      clear c0 c1 c2 c4 c5 c6 c7 cK cL
      generalize x.w = wr at hI ⊢
      clear x
      have hX : (t.h + Go.bits .xor .u32 (Go.bits .xor .u32 (rotr t.e 6) (rotr t.e 11)) (rotr t.e 25) + Go.bits .xor .u32 (Go.bits .and .u32 t.e t.f) (Go.bits .and .u32 (Go.bits .xor .u32 IntKind.u32.max t.e) t.g) + K[k]?.getD 0 + L[k]?.getD 0) % 4294967296 = rndX t (K.getD k 0) (L.getD k 0) := by
        simp only [rndX, add32, big1, chs, xor32, and32, not32, List.getD_eq_getElem?_getD]
        omega
      have hY : (Go.bits .xor .u32 (Go.bits .xor .u32 (rotr t.a 2) (rotr t.a 13)) (rotr t.a 22) + Go.bits .xor .u32 (Go.bits .xor .u32 (Go.bits .and .u32 t.a t.b) (Go.bits .and .u32 t.a t.c)) (Go.bits .and .u32 t.b t.c)) % 4294967296 = rndY t := by
        simp only [rndY, add32, big0, maj, xor32, and32]
      rw [hX, hY]
      have HX : Hid (rnd t (K.getD k 0) (L.getD k 0) = ⟨add32 (rndX t (K.getD k 0) (L.getD k 0)) (rndY t), t.a, t.b, t.c, add32 t.d (rndX t (K.getD k 0) (L.getD k 0)), t.e, t.f, t.g⟩) := rfl
      clear hX hY
      generalize rndX t (K.getD k 0) (L.getD k 0) = X at HX ⊢
      generalize rndY t = Y at HX ⊢
      have d0 := (hI.a7 0 _ rfl).1
      have d1 := (hI.a7 1 _ rfl).1
      have d2 := (hI.a7 2 _ rfl).1
      have d3 := (hI.a7 3 _ rfl).1
      have d4 := (hI.a7 4 _ rfl).1
      have d5 := (hI.a7 5 _ rfl).1
      have d6 := (hI.a7 6 _ rfl).1
      obtain ⟨t', ht'⟩ : ∃ t' : St8, t' = ⟨add32 X Y, t.a, t.b, t.c, add32 t.d X, t.e, t.f, t.g⟩ := ⟨_, rfl⟩
      have HT := Lib.hid (hI.a7.there' (vs := t'.vals.toArray) rfl)
      have HI := Lib.hid (info8' t')
      have HV : Hid (∀ a : Act, a.eval (.tmp 98) = .agg #[.int .u32 ((X + Y) % 4294967296), .int .u32 t.a, .int .u32 t.b, .int .u32 t.c, .int .u32 ((t.d + X) % 4294967296), .int .u32 t.e, .int .u32 t.f, .int .u32 t.g] → a.eval (.tmp 98) = .agg t'.vals.toArray) := by
        subst ht'
        exact fun _ h => h
      have HX2 := Lib.hid (HX.out.trans ht'.symm)
      have HR := Lib.hid (hI.round t' t'.vals rfl n57 n67 n7s n7r b7')
      clear ht' HX
      go_wp2_with ((with_reducible refine wpList_store_mid ?_ 63 (.tmp 7) (.tmp 98) ?_ B7 0 t'.vals.toArray ?_ ?_ HT.out HI.out (vals_one _) ?_); rfl; rfl; rfl; exact HV.out _ rfl)
      go_roundw
      case rel => exact ⟨k + 1, by omega, by go_num, by rw [HS.out, HX2.out]; exact HR.out⟩
      case measure => simp [intOf]; omega
    · obtain rfl : k = 64 := by omega
      clear hlt hk
      have HF : Hid (rnds K L s 64 = rnds K L s 64) := rfl
      obtain ⟨t, ht⟩ : ∃ t, rnds K L s 64 = t := ⟨_, rfl⟩
      rw [ht] at hI
      have HE := Lib.hid ht
      clear ht HF
      go_wp2_with fail
      go_loopw [100] (fun q wr => ∃ k : Nat, k ≤ 8 ∧ q = .int .i64 k ∧ Arr wr B7 (u32s (mixl t.l s.l k)) ∧ Arr wr N s.vals ∧ Arr wr (N + 1) (u32s [0, 0, 0, 0, 0, 0, 0, 0]) ∧ Mods No w wr) (fun q _ => 8 - (intOf q).toNat)
      case atStart => exact ⟨0, Nat.zero_le _, rfl, by rw [mixl_zero]; exact hI.a7, hI.aS, hI.aR, hI.m⟩
      case round =>
        obtain ⟨k, hk, rfl, h7, hS, hR, hM⟩ := hrel
        clear hI
        by_cases hlt : k < 8
        · have hk1 : (k : Int) < 8 := by omega
          have H7 := Lib.hid h7
          have cT : ∀ y : Ext wr, y.w.cell? ⟨B7, k, none⟩ = some (.int .u32 (t.l.getD k 0)) := fun y => ((h7.ext y) k _ (mixl_at _ _ _ hlt)).1
          have cS : ∀ y : Ext wr, y.w.cell? ⟨N, k, none⟩ = some (.int .u32 (s.l.getD k 0)) := fun y => ((hS.ext y) k _ (vals_at _ _ hlt)).1
          have HM := Lib.hid (mixl_set t.l s.l k hlt)
          have fT := (h7 k _ (mixl_at _ _ _ hlt)).2
          generalize t.l.getD k 0 = X at cT HM
          generalize s.l.getD k 0 = Y at cS HM
          go_wp2_with fail
          refine wp_region_ext 8 (by kernel_rfl) (by kernel_rfl) ?_
          simp only [List.take_succ_cons, List.take_zero, List.drop_succ_cons, List.drop_zero, List.take_nil, List.drop_nil]
          repeat (first | go_big_quiet_skip | (go_big_quiet_want; go_big_quiet_op; first | go_big_quiet_on | go_big_quiet_call ((fail))))
          refine wpQuiet_nil ?_
          intro x
          have d1 := cT x
          have f1 : x.w.frozen? ⟨B7, k, none⟩ = false := ((h7.ext x) k _ (mixl_at _ _ _ hlt)).2
          have HR := Lib.hid ((h7.ext x).set k (.int .u32 (add32 X Y)))
          rw [HM.out] at HR
          have hS' := (hS.ext x).far ⟨B7, k, none⟩ n7s (.int .u32 (add32 X Y))
          have hR' := (hR.ext x).far ⟨B7, k, none⟩ n7r (.int .u32 (add32 X Y))
          have hM' := (hM.no x.m).setCell (p := ⟨B7, k, none⟩) (.inr b7') (.int .u32 (add32 X Y))
          have HS' := Lib.hid hS'
          have HR' := Lib.hid hR'
          have HM' := Lib.hid hM'
          clear cT cS hS' hR' hM' hS hR hM h7
          go_wp2_with fail
          go_roundw
          case rel => exact ⟨k + 1, by omega, by go_num, HR.out, HS'.out, HR'.out, HM'.out⟩
          case measure => simp [intOf]; omega
        · obtain rfl : k = 8 := by omega
          rw [mixl_full] at h7
          obtain ⟨r, hr⟩ : ∃ r, t.add s = r := ⟨_, rfl⟩
          have hrv : Arr wr B7 r.vals := by rw [← hr]; exact h7
          have HE2 := Lib.hid hr
          have hst := (hR.stored r.vals rfl)
          have hl' := run_loadVar_mid (P := Try.prog) (wr.setCells (N + 1) 0 r.vals) (N + 1) 0 63 r.vals _ hst.range Try.underlying63 rfl (info8 r)
          have hM' := mods_setCells (F := No) (a := w) (N + 1) (.inr (by omega)) r.vals 0 wr hM
          have HL := Lib.hid hl'
          have HM := Lib.hid hM'
          have HT := Lib.hid (hR.there' (vs := r.vals.toArray) rfl)
          have HI := Lib.hid (info8 r)
          have HI' := Lib.hid (info8' r)
          have HR := Lib.hid hrv.range
          clear hl' hM' hM hr hrv hst hR h7 hS hlt hk
          go_wp2_with (first | ((with_reducible refine wpList_load_mid ?_ 63 (.tmp 7) ?_ B7 0 ?_ r.vals _ HR.out Try.underlying63 rfl HI.out ?_); rfl; rfl; rfl) | ((with_reducible refine wpList_store_mid ?_ 63 (.tmp 4) (.tmp 112) ?_ (N + 1) 0 r.vals.toArray ?_ ?_ HT.out HI'.out (vals_one _) ?_); rfl; rfl; rfl; rfl))
          refine bodyPost_ret (v := .agg r.vals.toArray) ?_ rfl ⟨by rw [HE.out, HE2.out], HM.out⟩
          exact results_cell1 Try.results38 (by rfl) HL.out

theorem compress_any (b : ByteArray) (hb : b.size = 64) (s : St8) (hs : s.Ok) (w : World) : Calls Try.prog 38 #[.agg s.vals.toArray, .string b] w fun e w' => e = .returned (.agg (comp b s).vals.toArray) ∧ Mods No w w' :=
  compress_gen b kL (schedTo b 64) kL_length (schedTo_length b 64) (fun w => schedule_any b hb w) (fun w => consts_any w) s hs w
end Go.Proofs.Ytamdanpkkcdhbaa
