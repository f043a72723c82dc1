/- HMAC: the walk over MAC. -/
import Derived.Test.YtamdanpkkcdhbaaSha14
set_option linter.unusedVariables false
set_option linter.unusedSimpArgs false
namespace Go.Proofs.Ytamdanpkkcdhbaa
open Go.RowKit Go.PF

def keyOf (key : ByteArray) : ByteArray := if key.size ≤ 64 then key else shaS key
def macK (k s : ByteArray) : List Int := shaL (strOfNums (maskL k 92) ++ strOfNums (shaL (strOfNums (maskL k 54) ++ s)))
def macL (key s : ByteArray) : List Int := macK (keyOf key) s
theorem shaS_size (s : ByteArray) : (shaS s).size = 32 := str_size (shaL_length s)
theorem keyOf_size (key : ByteArray) : (keyOf key).size ≤ 64 := by
  unfold keyOf
  split
  · assumption
  · rw [shaS_size]; omega
theorem macL_length (key s : ByteArray) : (macL key s).length = 32 := shaL_length _
def z32 : List Int := List.replicate 32 0
theorem z32_length : z32.length = 32 := rfl

set_option maxHeartbeats 1000000 in
set_option maxRecDepth 100000 in
theorem mac_gen (key s k A1 A2 T1 : ByteArray) (D0 D1 L : List Int) (hl : L.length = 32) (hks : key.size ≤ 100000) (hs : s.size ≤ 100000) (z1 : A1.size ≤ 100) (z2 : A2.size ≤ 100) (z3 : T1.size ≤ 100)
    (h0 : key.size ≤ 64 → k = key)
    (hS0 : 64 < key.size → ∀ w, Calls Try.prog 15 #[.string key] w fun e w' => e = .returned (.agg (u8s D0).toArray) ∧ Mods No w w')
    (hT0 : 64 < key.size → ∀ w, Calls Try.prog 40 #[.agg (u8s D0).toArray] w fun e w' => e = .returned (.string k) ∧ Mods No w w')
    (h92 : ∀ w, Calls Try.prog 41 #[.string k, .int .u8 92] w fun e w' => e = .returned (.string A2) ∧ Mods No w w')
    (h54 : ∀ w, Calls Try.prog 41 #[.string k, .int .u8 54] w fun e w' => e = .returned (.string A1) ∧ Mods No w w')
    (hS1 : ∀ w, Calls Try.prog 15 #[.string (A1 ++ s)] w fun e w' => e = .returned (.agg (u8s D1).toArray) ∧ Mods No w w')
    (hT1 : ∀ w, Calls Try.prog 40 #[.agg (u8s D1).toArray] w fun e w' => e = .returned (.string T1) ∧ Mods No w w')
    (hS2 : ∀ w, Calls Try.prog 15 #[.string (A2 ++ T1)] w fun e w' => e = .returned (.agg (u8s L).toArray) ∧ Mods No w w')
    (w : World) : Calls Try.prog 17 #[.string key, .string s] w fun e w' => e = .returned (.agg (u8s L).toArray) ∧ Mods No w w' := by
  have HR : Hid (Arr (w.alloc (.cells (u8s z32).toArray 26)) w.heap.size (u8s z32)) := Arr.new _ _ _
  have HM : Hid (Mods No w (w.alloc (.cells (u8s z32).toArray 26))) := (Mods.refl _ _).alloc _
  have HL := Lib.hid hl
  have H0 := Lib.hid h0
  have HS0 := Lib.hid hS0
  have HT0 := Lib.hid hT0
  have H92 := Lib.hid h92
  have H54 := Lib.hid h54
  have HS1 := Lib.hid hS1
  have HT1 := Lib.hid hT1
  have HS2 := Lib.hid hS2
  clear hl h0 hS0 hT0 h92 h54 hS1 hT1 hS2
  by_cases hc : key.size ≤ 64
  · have hc1 : (key.size : Int) ≤ 64 := by omega
    obtain rfl := H0.out hc
    go_enter Try.func17, Try.ntmps17
    go_wp2_with fail
    refine (H92.out _).mono ?_
    rintro e w1 ⟨rfl, m1⟩
    go_wp2_with fail
    refine (H54.out _).mono ?_
    rintro e w2 ⟨rfl, m2⟩
    go_wp2_with fail
    refine (HS1.out _).mono ?_
    rintro e w3 ⟨rfl, m3⟩
    go_wp2_with fail
    refine (HT1.out _).mono ?_
    rintro e w4 ⟨rfl, m4⟩
    go_wp2_with fail
    refine (HS2.out _).mono ?_
    rintro e w5 ⟨rfl, m5⟩
    have hm := (((m1.no m2).no m3).no m4).no m5
    have hR5 := HR.out.mods hm id
    have hM5 := HM.out.no hm
    clear m1 m2 m3 m4 m5 hm
    have HT := Lib.hid (hR5.there' (vs := (u8s L).toArray) (by rw [List.size_toArray, u8s_length, u8s_length, HL.out, z32_length]))
    have HI := Lib.hid (info32' HL.out)
    have HR5 := Lib.hid hR5
    have HM5 := Lib.hid hM5
    clear hR5 hM5
    go_wp2_with ((with_reducible refine wpList_store_mid ?_ 26 (.tmp 4) (.tmp 20) ?_ w.heap.size 0 (u8s L).toArray ?_ ?_ HT.out HI.out (u8s_one _) ?_); rfl; rfl; rfl; rfl)
    exact bodyPost_ret (ret_digest HR5.out z32_length HL.out HM5.out (Nat.le_refl _) Try.results17 rfl).1 rfl ⟨rfl, mods_setCells (F := No) (a := w) w.heap.size (.inr (Nat.le_refl _)) _ 0 _ HM5.out⟩
  · have hc1 : (64 : Int) < (key.size : Int) := by omega
    go_enter Try.func17, Try.ntmps17
    go_wp2_with fail
    refine (HS0.out (by omega) _).mono ?_
    rintro e v1 ⟨rfl, n1⟩
    go_wp2_with fail
    refine (HT0.out (by omega) _).mono ?_
    rintro e v2 ⟨rfl, n2⟩
    have nn := n1.no n2
    replace HR := Lib.hid (HR.out.mods nn id)
    replace HM := Lib.hid (HM.out.no nn)
    clear n1 n2 nn
    go_wp2_with fail
    refine (H92.out _).mono ?_
    rintro e w1 ⟨rfl, m1⟩
    go_wp2_with fail
    refine (H54.out _).mono ?_
    rintro e w2 ⟨rfl, m2⟩
    go_wp2_with fail
    refine (HS1.out _).mono ?_
    rintro e w3 ⟨rfl, m3⟩
    go_wp2_with fail
    refine (HT1.out _).mono ?_
    rintro e w4 ⟨rfl, m4⟩
    go_wp2_with fail
    refine (HS2.out _).mono ?_
    rintro e w5 ⟨rfl, m5⟩
    have hm := (((m1.no m2).no m3).no m4).no m5
    have hR5 := HR.out.mods hm id
    have hM5 := HM.out.no hm
    clear m1 m2 m3 m4 m5 hm
    have HT := Lib.hid (hR5.there' (vs := (u8s L).toArray) (by rw [List.size_toArray, u8s_length, u8s_length, HL.out, z32_length]))
    have HI := Lib.hid (info32' HL.out)
    have HR5 := Lib.hid hR5
    have HM5 := Lib.hid hM5
    clear hR5 hM5
    go_wp2_with ((with_reducible refine wpList_store_mid ?_ 26 (.tmp 4) (.tmp 20) ?_ w.heap.size 0 (u8s L).toArray ?_ ?_ HT.out HI.out (u8s_one _) ?_); rfl; rfl; rfl; rfl)
    exact bodyPost_ret (ret_digest HR5.out z32_length HL.out HM5.out (Nat.le_refl _) Try.results17 rfl).1 rfl ⟨rfl, mods_setCells (F := No) (a := w) w.heap.size (.inr (Nat.le_refl _)) _ 0 _ HM5.out⟩

theorem mac_any (key s : ByteArray) (hk : key.size ≤ 100000) (hs : s.size ≤ 100000) (w : World) : Calls Try.prog 17 #[.string key, .string s] w fun e w' => e = .returned (.agg (u8s (macL key s)).toArray) ∧ Mods No w w' := by
  have hm1 := maskL_length (keyOf key) 92
  have hm2 := maskL_length (keyOf key) 54
  have q1 : (strOfNums (maskL (keyOf key) 54)).size = 64 := by rw [strOfNums_size, hm2]
  have q2 : (strOfNums (maskL (keyOf key) 92)).size = 64 := by rw [strOfNums_size, hm1]
  have q3 := str_size (shaL_length (strOfNums (maskL (keyOf key) 54) ++ s))
  exact mac_gen key s (keyOf key) (strOfNums (maskL (keyOf key) 54)) (strOfNums (maskL (keyOf key) 92)) (strOfNums (shaL (strOfNums (maskL (keyOf key) 54) ++ s))) (shaL key) (shaL (strOfNums (maskL (keyOf key) 54) ++ s)) (macL key s)
    (macL_length _ _) hk hs (by omega) (by omega) (by omega) (fun h => by unfold keyOf; rw [if_pos h]) (fun _ w => sum_any key (by omega) w)
    (fun h w => by rw [show keyOf key = strOfNums (shaL key) by unfold keyOf; rw [if_neg (by omega)]; rfl]; exact text_any _ (shaL_length _) w)
    (fun w => masked_any _ (keyOf_size key) 92 w) (fun w => masked_any _ (keyOf_size key) 54 w) (fun w => sum_any _ (by rw [ByteArray.size_append]; omega) w) (fun w => text_any _ (shaL_length _) w)
    (fun w => sum_any _ (by rw [ByteArray.size_append]; omega) w) w
end Go.Proofs.Ytamdanpkkcdhbaa
