/- The statement MeasureMACAgrees. -/
import Derived.Test.YtamdanpkkcdhbaaMd1
set_option linter.unusedVariables false
set_option linter.unusedSimpArgs false
namespace Go.Proofs.Ytamdanpkkcdhbaa
open Go.RowKit Go.PF

theorem macL_long (t m : ByteArray) (h : 64 < t.size) : macL (strOfNums (shaL t)) m = macL t m := by
  have h1 : keyOf (strOfNums (shaL t)) = strOfNums (shaL t) := by
    unfold keyOf
    rw [if_pos (by rw [strOfNums_size, shaL_length]; omega)]
  have h2 : keyOf t = strOfNums (shaL t) := by
    unfold keyOf
    rw [if_neg (by omega)]
    rfl
  unfold macL
  rw [h1, h2]

set_option maxRecDepth 100000 in
set_option maxHeartbeats 2000000 in
theorem mac_law_gen (key m : ByteArray) (F G : ByteArray → List Int) (hF : ∀ k, (F k).length = 32) (hG : ∀ k, (G k).length = 32)
    (hMac : m.size ≤ 400 → ∀ k : ByteArray, k.size ≤ 400 → ∀ w, Calls Try.prog 17 #[.string k, .string m] w fun e w' => e = .returned (.agg (u8s (F k)).toArray) ∧ Mods No w w')
    (hRef : m.size ≤ 400 → ∀ k : ByteArray, k.size ≤ 400 → ∀ w, Calls Try.prog 18 #[.string k, .string m] w fun e w' => e = .returned (.agg (u8s (F k)).toArray) ∧ Mods No w w')
    (hSum : ∀ k : ByteArray, k.size ≤ 400 → ∀ w, Calls Try.prog 15 #[.string k] w fun e w' => e = .returned (.agg (u8s (G k)).toArray) ∧ Mods No w w')
    (hlong : ∀ t : ByteArray, 64 < t.size → F (strOfNums (G t)) = F t) (n : Int) (hn : -9223372036854775808 ≤ n ∧ n < 9223372036854775808) (c : Int) (hc : 0 ≤ c ∧ c < 256) {W : World} :
    Calls Try.prog 4 #[.string key, .string m, .int .i64 n, .int .u8 c] W fun e w' => e = .returned (.bool true) ∧ Below W.heap.size W w' := by
  refine Calls.mono (R := fun e w' => e = .returned (.bool true) ∧ Mods No W w') ?_ (fun e w' ⟨h1, h2⟩ => ⟨h1, h2.toBelow (fun _ h => h.elim) (Nat.le_refl _)⟩)
  by_cases hs : 300 < key.size
  · have hs1 : (300 : Int) < key.size := by omega
    go_enter Try.func4, Try.ntmps4
    go_wp2_with fail
    refine (awake_any _).mono ?_
    rintro e w9 ⟨rfl, hb⟩
    go_wp2
    go_ret
    exact ⟨rfl, hb⟩
  by_cases hm : 300 < m.size
  · have hs1 : (key.size : Int) ≤ 300 := by omega
    have hm1 : (300 : Int) < m.size := by omega
    go_enter Try.func4, Try.ntmps4
    go_wp2_with fail
    refine (awake_any _).mono ?_
    rintro e w9 ⟨rfl, hb⟩
    go_wp2
    go_ret
    exact ⟨rfl, hb⟩
  · have hs1 : (key.size : Int) ≤ 300 := by omega
    have hm1 : (m.size : Int) ≤ 300 := by omega
    go_enter Try.func4, Try.ntmps4
    go_wp2_with fail
    refine (mod_any n 100 hn (by omega) _).mono ?_
    rintro e w1 ⟨r, hr, rfl, rfl⟩
    have hmk := made_any r (by omega)
    go_wp2_with fail
    have hA := Arr.new W (u8s (List.replicate r 0)) 5
    have hM : Mods No W (W.alloc (.cells (u8s (List.replicate r 0)).toArray 5)) := (Mods.refl _ _).alloc _
    generalize W.alloc (.cells (u8s (List.replicate r 0)).toArray 5) = W1 at hA hM ⊢
    obtain ⟨B, hB⟩ : ∃ B, W.heap.size = B := ⟨_, rfl⟩
    rw [hB] at hA ⊢
    have bB : W.heap.size ≤ B := by omega
    clear hB hmk
    go_loopw [10] (fun q wr => ∃ (k : Nat) (l : List Int), k ≤ r ∧ q = .int .i64 k ∧ l.length = r ∧ Arr wr B (u8s l) ∧ Mods No W wr) (fun q _ => r - (intOf q).toNat)
    case atStart => exact ⟨0, _, Nat.zero_le _, rfl, List.length_replicate .., hA, hM⟩
    case round =>
      obtain ⟨k, l, hk, rfl, hl, gA, gM⟩ := hrel
      clear hA hM
      by_cases hlt : k < r
      · have hk1 : (k : Int) < r := by omega
        obtain ⟨d0, f0⟩ := byte_there gA (k := k) (by omega)
        have HA := Lib.hid (gA.set k (.int .u8 c))
        have HM := Lib.hid (gM.setCell (p := ⟨B, k, none⟩) (.inr bB) (.int .u8 c))
        have Hl := Lib.hid hl
        rw [u8s_set] at HA
        clear gA gM hl
        go_wp2_with fail
        go_roundw
        case rel => exact ⟨k + 1, l.set k c, by omega, by go_num, by rw [List.length_set]; exact Hl.out, HA.out, HM.out⟩
        case measure => simp [intOf]; omega
      · obtain rfl : k = r := by omega
        have hz : (strOfNums l).size = k := by rw [strOfNums_size, hl]
        have hz2 : (strOfNums (G (strOfNums l))).size = 32 := by rw [strOfNums_size, hG]
        have hcv := Arr.str gA k hl k
        obtain ⟨T, hT⟩ : ∃ T, strOfNums l = T := ⟨_, rfl⟩
        rw [hT] at hcv hz hz2
        clear hT
        have hlg := hlong T
        have hz0 := hG T
        have HM0 := Lib.hid (hMac (by omega) key (by omega))
        have HN0 := Lib.hid (hRef (by omega) key (by omega))
        have HM1 := Lib.hid (hMac (by omega) T (by omega))
        have HN1 := Lib.hid (hRef (by omega) T (by omega))
        have HM2 := Lib.hid (hMac (by omega) (strOfNums (G T)) (by omega))
        have HS1 := Lib.hid (hSum T (by omega))
        have hE1 := fun w => digEq (F key) (F key) (hF _) (hF _) w
        have hE2 := fun w => digEq (F T) (F T) (hF _) (hF _) w
        have hE3 := fun w => digNe (F T) (F T) (hF _) (hF _) w
        simp only [beq_self_eq_true, bne_self_eq_false] at hE1 hE2 hE3
        clear hlong hG hF hMac hRef hSum
        obtain ⟨D, hD⟩ : ∃ D, G T = D := ⟨_, rfl⟩
        rw [hD] at HS1 hz0 HM2 hz2 hlg
        clear hD
        obtain ⟨L1, hL1⟩ : ∃ L, F key = L := ⟨_, rfl⟩
        rw [hL1] at HM0 HN0 hE1
        obtain ⟨L2, hL2⟩ : ∃ L, F T = L := ⟨_, rfl⟩
        rw [hL2] at HM1 HN1 hE2 hE3 hlg
        obtain ⟨L3, hL3⟩ : ∃ L, F (strOfNums D) = L := ⟨_, rfl⟩
        rw [hL3] at HM2 hlg
        clear hL1 hL2 hL3
        have HM := Lib.hid gM
        have HD := Lib.hid hz0
        clear gA gM hlt hk hl hz0
        by_cases hc2 : 64 < T.size
        · have hc3 : (64 : Int) < T.size := by omega
          have h3 := hlg hc2
          subst h3
          clear hlg hz
          go_wp2_with fail
          refine (HS1.out _).mono ?_
          rintro e v1 ⟨rfl, n1⟩
          have hN : Arr (v1.alloc (.cells #[Value.int .u8 0, Value.int .u8 0, Value.int .u8 0, Value.int .u8 0, Value.int .u8 0, Value.int .u8 0, Value.int .u8 0, Value.int .u8 0, Value.int .u8 0, Value.int .u8 0, Value.int .u8 0, Value.int .u8 0, Value.int .u8 0, Value.int .u8 0, Value.int .u8 0, Value.int .u8 0, Value.int .u8 0, Value.int .u8 0, Value.int .u8 0, Value.int .u8 0, Value.int .u8 0, Value.int .u8 0, Value.int .u8 0, Value.int .u8 0, Value.int .u8 0, Value.int .u8 0, Value.int .u8 0, Value.int .u8 0, Value.int .u8 0, Value.int .u8 0, Value.int .u8 0, Value.int .u8 0] 26)) v1.heap.size (u8s z32) := Arr.new v1 (u8s z32) 26
          have HT1 := Lib.hid (hN.there' (vs := (u8s D).toArray) (by rw [List.size_toArray, u8s_length, u8s_length, HD.out]; rfl))
          have HI1 := Lib.hid (info32' HD.out)
          have n4 := HM.out.no n1
          have HA := Lib.hid (hN.stored (u8s D) (by rw [u8s_length, u8s_length, HD.out]; rfl))
          have HM4 := Lib.hid (mods_setCells (F := No) (a := W) v1.heap.size (.inr n4.size) (u8s D) 0 _ (n4.alloc (.cells #[Value.int .u8 0, Value.int .u8 0, Value.int .u8 0, Value.int .u8 0, Value.int .u8 0, Value.int .u8 0, Value.int .u8 0, Value.int .u8 0, Value.int .u8 0, Value.int .u8 0, Value.int .u8 0, Value.int .u8 0, Value.int .u8 0, Value.int .u8 0, Value.int .u8 0, Value.int .u8 0, Value.int .u8 0, Value.int .u8 0, Value.int .u8 0, Value.int .u8 0, Value.int .u8 0, Value.int .u8 0, Value.int .u8 0, Value.int .u8 0, Value.int .u8 0, Value.int .u8 0, Value.int .u8 0, Value.int .u8 0, Value.int .u8 0, Value.int .u8 0, Value.int .u8 0, Value.int .u8 0] 26)))
          clear hN n1 n4
          go_wp2_with ((with_reducible refine wpList_store_mid ?_ 26 (.tmp 12) (.tmp 41) ?_ v1.heap.size 0 (u8s D).toArray ?_ ?_ HT1.out HI1.out (u8s_one _) ?_); rfl; rfl; rfl; rfl)
          clear HT1 HI1
          generalize (v1.alloc (.cells #[Value.int .u8 0, Value.int .u8 0, Value.int .u8 0, Value.int .u8 0, Value.int .u8 0, Value.int .u8 0, Value.int .u8 0, Value.int .u8 0, Value.int .u8 0, Value.int .u8 0, Value.int .u8 0, Value.int .u8 0, Value.int .u8 0, Value.int .u8 0, Value.int .u8 0, Value.int .u8 0, Value.int .u8 0, Value.int .u8 0, Value.int .u8 0, Value.int .u8 0, Value.int .u8 0, Value.int .u8 0, Value.int .u8 0, Value.int .u8 0, Value.int .u8 0, Value.int .u8 0, Value.int .u8 0, Value.int .u8 0, Value.int .u8 0, Value.int .u8 0, Value.int .u8 0, Value.int .u8 0] 26)).setCells v1.heap.size 0 (u8s D) = W4 at HA HM4 ⊢
          generalize v1.heap.size = B2 at HA ⊢
          have hcv2 := fun y : Ext W4 => Arr.str (HA.out.ext y) 32 HD.out 32
          obtain ⟨T2, hT2⟩ : ∃ T, strOfNums D = T := ⟨_, rfl⟩
          rw [hT2] at HM2 hcv2
          clear hT2
          simp only [Act.put]
          refine wp_region_ext 8 (by kernel_rfl) (by kernel_rfl) ?_
          simp only [List.take_succ_cons, List.take_zero, List.drop_succ_cons, List.drop_zero]
          go_big_quiet_want
          go_big_quiet_op
          go_big_quiet_on
          go_big_quiet_want
          go_big_quiet_op
          go_big_quiet_on
          go_big_quiet_want
          go_big_quiet_op
          go_big_quiet_call ((go_at_call 17; exact Ext.call _ (HM1.out _)))
          go_big_quiet_want
          go_big_quiet_op
          go_big_quiet_on
          go_big_quiet_want
          refine quiet_of_run (.string T2) (fun w ⟨x, e⟩ => e ▸ op_value _ (by rfl) (hcv2 x)) ?_
          go_big_quiet_on
          simp only [Act.put, List.setIfInBounds_toArray, List.set_cons_succ, List.set_cons_zero]
          go_big_quiet_want
          go_big_quiet_op
          go_big_quiet_on
          go_big_quiet_want
          go_big_quiet_op
          go_big_quiet_call ((go_at_call 17; exact Ext.call _ (HM2.out _)))
          go_big_quiet_want
          go_big_quiet_op
          go_big_quiet_on
          refine wpQuiet_nil ?_
          intro x
          have HM5 := Lib.hid (HM4.out.no x.m)
          clear HM4 hcv2 HA
          generalize x.w = v2 at HM5 ⊢
          go_wp2_with fail
          refine (HM0.out _).mono ?_
          rintro e v1 ⟨rfl, n1⟩
          go_wp2_with fail
          refine (HN0.out _).mono ?_
          rintro e v2 ⟨rfl, n2⟩
          go_wp2_with fail
          refine (HM1.out _).mono ?_
          rintro e v3 ⟨rfl, n3⟩
          go_wp2_with fail
          refine (HN1.out _).mono ?_
          rintro e v4 ⟨rfl, n4⟩
          go_wp2_with fail
          refine (awake_any _).mono ?_
          rintro e v5 ⟨rfl, n5⟩
          go_wp2_with fail
          go_ret
          exact ⟨rfl, HM5.out.no (n1.no (n2.no (n3.no (n4.no n5))))⟩
        · have hc3 : (T.size : Int) ≤ 64 := by omega
          clear hlg hz
          go_wp2_with fail
          refine (HM0.out _).mono ?_
          rintro e v1 ⟨rfl, n1⟩
          go_wp2_with fail
          refine (HN0.out _).mono ?_
          rintro e v2 ⟨rfl, n2⟩
          go_wp2_with fail
          refine (HM1.out _).mono ?_
          rintro e v3 ⟨rfl, n3⟩
          go_wp2_with fail
          refine (HN1.out _).mono ?_
          rintro e v4 ⟨rfl, n4⟩
          go_wp2_with fail
          refine (awake_any _).mono ?_
          rintro e v5 ⟨rfl, n5⟩
          go_wp2_with fail
          go_ret
          exact ⟨rfl, HM.out.no (n1.no (n2.no (n3.no (n4.no n5))))⟩
theorem mac_law (key : ByteArray) (_ : key.size ≤ 140737488351232) (m : ByteArray) (_ : m.size ≤ 140737488351232) (n : Int) (hn : -9223372036854775808 ≤ n ∧ n < 9223372036854775808) (c : Int) (hc : 0 ≤ c ∧ c < 256) {W : World} :
    Calls Try.prog 4 #[.string key, .string m, .int .i64 n, .int .u8 c] W fun e w' => e = .returned (.bool true) ∧ Below W.heap.size W w' :=
  mac_law_gen key m (fun k => macL k m) shaL (fun k => macL_length _ _) (fun k => shaL_length _) (fun hm k hk w => mac_any k m (by omega) (by omega) w) (fun hm k hk w => refMac_any k m (by omega) (by omega) w) (fun k hk w => sum_any k (by omega) w) (fun t h => macL_long t m h) n hn c hc
end Go.Proofs.Ytamdanpkkcdhbaa
