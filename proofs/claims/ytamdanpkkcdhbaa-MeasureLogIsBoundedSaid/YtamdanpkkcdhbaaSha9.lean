/- SHA-256: the padding. -/
import Derived.Test.YtamdanpkkcdhbaaSha8
import Derived.Test.YtamdanpkkcdhbaaRow
import Derived.Test.YtamdanpkkcdhbaaShelf
set_option linter.unusedVariables false
set_option linter.unusedSimpArgs false
namespace Go.Proofs.Ytamdanpkkcdhbaa
open Go.RowKit Go.PF

def byts (s : ByteArray) : List Int := s.data.toList.map fun b => (b.toNat : Int)
def lenNum (n k : Nat) : Int := ((n * 8 / 2 ^ (8 * k) % 256 : Nat) : Int)
def lenTo (n j : Nat) : List Int := (List.range j).map fun t => lenNum n (7 - t)
def padZ (n : Nat) : Nat := (119 - n % 64) % 64
def padB (s : ByteArray) : List Int := byts s ++ 128 :: List.replicate (padZ s.size) 0
def padL (s : ByteArray) : List Int := padB s ++ lenTo s.size 8
def padS (s : ByteArray) : ByteArray := strOfNums (padL s)

theorem byts_length (s : ByteArray) : (byts s).length = s.size := by simp [byts]
theorem padB_length (s : ByteArray) : (padB s).length = s.size + 1 + padZ s.size := by simp [padB, byts_length]; omega
theorem padL_length (s : ByteArray) : (padL s).length = s.size + 9 + padZ s.size := by simp [padL, padB_length, lenTo]; omega
theorem padL_mod (s : ByteArray) : (padL s).length % 64 = 0 := by rw [padL_length]; unfold padZ; omega
theorem lenTo_succ (n k : Nat) : lenTo n (k + 1) = lenTo n k ++ [lenNum n (7 - k)] := by simp [lenTo, List.range_succ]
theorem infoByte : (Try.prog.info? 5).map (fun i => (i.zero, i.size, i.bytes)) = some (some (.int .u8 0), 1, 1) := by kernel_rfl

theorem repeat_zero : ∀ n, (⟨(Lib.repeatL (⟨#[0]⟩ : ByteArray).data.toList n).toArray⟩ : ByteArray).data.toList = List.replicate n 0 := by
  intro n
  show (Lib.repeatL [0] n) = _
  induction n with
  | zero => rfl
  | succ n ih => rw [Lib.repeatL, ih]; rfl
set_option maxHeartbeats 1000000 in
set_option maxRecDepth 100000 in
theorem padded_any (s : ByteArray) (hs : s.size ≤ 1000000) (w : World) : Calls Try.prog 37 #[.string s] w fun e w' => e = .returned (.string (padS s)) ∧ Mods No w w' := by
  have hz : (119 - (s.size : Int) % 64) % 64 = ((padZ s.size : Nat) : Int) := by unfold padZ; omega
  have hzl : padZ s.size < 64 := by unfold padZ; omega
  go_enter Try.func37, Try.ntmps37
  go_wp2_with fail
  refine (Try.strings_Repeat ⟨#[0]⟩ (padZ s.size) _ (by omega) (by show 1 * padZ s.size ≤ _; omega)).mono ?_
  rintro e w1 ⟨rfl, b1⟩
  have m1 := Mods.of_below b1 No
  have hcv : ∀ (W : World) (S : ByteArray), (convert 9 23 (.string S)).run Try.prog W = .ok (.slice (some ⟨W.heap.size, 0, none⟩) S.size (grownCap W S.size 0 5)) (Lib.bytesWorld W 5 S) :=
    fun W S => Lib.run_convert_string_bytes W 9 23 5 S Try.underlying9 Try.underlying23 Try.underlying5
  clear b1
  obtain ⟨R, hR⟩ : ∃ R : ByteArray, (⟨(Lib.repeatL (⟨#[0]⟩ : ByteArray).data.toList (padZ s.size)).toArray⟩ : ByteArray) = R := ⟨_, rfl⟩
  have hRl : R.data.toList = List.replicate (padZ s.size) 0 := by rw [← hR]; exact repeat_zero _
  have hRs : R.size = padZ s.size := by
    have h := congrArg List.length hRl
    rw [Array.length_toList, List.length_replicate] at h
    exact h
  have hRb : R.size < 64 := by omega
  rw [hR]
  have hpad : (s ++ (⟨#[128]⟩ : ByteArray) ++ R).data.toList.map (fun b => Value.int .u8 b.toNat) = (padB s).map (Value.int .u8) := by
    simp [padB, byts, hRl]
  have hS3 : (s ++ (⟨#[128]⟩ : ByteArray) ++ R).size = s.size + 1 + R.size := by
    simp only [ByteArray.size_append]
    rfl
  have hrow := Row.conv w1 5 (s ++ (⟨#[128]⟩ : ByteArray) ++ R) (by rw [hS3]; omega)
  rw [hpad, hS3] at hrow
  have hM := m1.no (mods_conv w1 5 (s ++ (⟨#[128]⟩ : ByteArray) ++ R))
  have HRow := Lib.hid hrow
  have HM := Lib.hid hM
  have HRs := Lib.hid hRs
  have hsz := m1.size
  clear hR hRl hpad hrow hM hRs m1 hS3
  go_wp2_with fail
  have hrow := HRow.out
  have hM := HM.out
  clear HRow HM hcv
  have hb1 : w.heap.size ≤ w1.heap.size := hsz
  generalize Lib.bytesWorld w1 5 (s ++ (⟨#[128]⟩ : ByteArray) ++ R) = W at hrow hM ⊢
  generalize grownCap w1 (s.size + 1 + R.size) 0 5 = C at hrow ⊢
  generalize w1.heap.size = B at hrow hb1 ⊢
  have hrow0 : Row W 1 (.slice (some ⟨B, 0, none⟩) (s.size + 1 + R.size) C) (s.size + 1 + R.size + 0) ((padB s ++ lenTo s.size 0).map (Value.int .u8)) := by
    simpa [lenTo] using hrow
  obtain ⟨i9, hi9, hz9, hs9, hy9⟩ := info_parts infoByte
  go_loopw [4, 5] (fun v q wr => ∃ k : Nat, k ≤ 8 ∧ q = .int .i64 (7 - k) ∧ Row wr 1 v (s.size + 1 + R.size + k) ((padB s ++ lenTo s.size k).map (Value.int .u8)) ∧ (∀ g, v.ownBlock = some g → w.heap.size ≤ g) ∧ Mods No w wr) (fun _ q _ => (intOf q + 1).toNat)
  case atStart => exact ⟨0, Nat.zero_le _, rfl, hrow0, fun g hg => by simp [Value.ownBlock] at hg; omega, hM⟩
  case round =>
    obtain ⟨k, hk, rfl, hrow, hbl, hM⟩ := hrel
    clear hrow0
    by_cases hlt : k < 8
    · have hk1 : (0 : Int) ≤ 7 - k := by omega
      obtain ⟨A, c, rfl, -, -, -⟩ := hrow.shape
      have HRow := Lib.hid (hrow.alloc (.cells #[.int .u8 ((s.size : Int) * 8 / 2 ^ (8 * (7 - k)) % 256)] 5))
      have HM := Lib.hid (hM.alloc (.cells #[.int .u8 ((s.size : Int) * 8 / 2 ^ (8 * (7 - k)) % 256)] 5))
      have Hbl := Lib.hid hbl
      have Hc : Hid ((wr.alloc (.cells #[.int .u8 ((s.size : Int) * 8 / 2 ^ (8 * (7 - k)) % 256)] 5)).cell? ⟨wr.heap.size, 0, none⟩ = some (.int .u8 ((s.size : Int) * 8 / 2 ^ (8 * (7 - k)) % 256))) := heap_cell (heap_alloc_new wr _) 0
      have hsw := hM.size
      clear hrow hM hbl
      go_wp2_with (at_builtin; refine wpList_append_one rfl _ _ 23 rfl 5 i9 (.int .u8 0) 1 Try.underlying23 hi9 hz9 hs9 hy9 rfl _ _ _ (by rfl) HRow.out wr.heap.size 1 _ (by rfl) Hc.out rfl ?c1 ?c2 ?_)
      case c1 => unfold maxLen; omega
      case c2 => omega
      intro v' w4 hr4 hm4 hb4
      have hM4 := HM.out.trans hm4 (fun i hi => .inr (Hbl.out i hi))
      have hr5 : Row w4 1 v' (s.size + 1 + R.size + (k + 1)) ((padB s ++ lenTo s.size (k + 1)).map (Value.int .u8)) := by
        rw [lenTo_succ, ← List.append_assoc, List.map_append, show s.size + 1 + R.size + (k + 1) = s.size + 1 + R.size + k + 1 by omega]
        have e : ((s.size : Int) * 8 / 2 ^ (8 * (7 - k)) % 256) = lenNum s.size (7 - k) := by
          unfold lenNum
          push_cast
          rfl
        rw [e] at hr4
        rw [List.map_append, List.append_assoc]
        exact hr4
      have hbl5 : ∀ g, v'.ownBlock = some g → w.heap.size ≤ g := by
        intro g hg
        rcases hb4 with h | ⟨g', h, hh⟩
        · exact Hbl.out g (h ▸ hg)
        · rw [hg] at h
          cases h
          omega
      have H5 := Lib.hid hr5
      have H6 := Lib.hid hbl5
      have H7 := Lib.hid hM4
      clear hr4 hm4 hb4 hM4 hr5 hbl5 HRow HM Hbl Hc
      go_wp2_with fail
      go_roundw
      case rel => exact ⟨k + 1, by omega, by go_num, H5.out, H6.out, H7.out⟩
      case measure => simp [intOf]; omega
    · obtain rfl : k = 8 := by omega
      have hk1 : ¬ (0 : Int) ≤ 7 - (8 : Nat) := by omega
      obtain ⟨A, c, rfl, -, -, hA⟩ := hrow.shape
      obtain ⟨g, rfl⟩ := hA (by omega)
      have hcv := hrow.bytes (P := Try.prog) 23 5 9 Try.underlying23 Try.underlying5 Try.underlying9
      clear hrow hbl
      have HM := Lib.hid hM
      clear hM
      go_wp2_with fail
      go_ret
      exact ⟨rfl, HM.out⟩
end Go.Proofs.Ytamdanpkkcdhbaa
