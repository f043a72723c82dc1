/- Plain laws on the model of a flash: bytes. -/
import Derived.Test.YtachkcoilhlggaaPl1
import Derived.Laws.Closers25b
set_option linter.unusedVariables false
set_option linter.unusedSimpArgs false
namespace Go.Proofs.Ytachkcoilhlggaa
open Go.RowKit Go.PF

theorem byt_range (s : ByteArray) (i : Nat) : 0 ≤ byt s i ∧ byt s i < 256 := by
  have := (s.data.toList.getD i 0).toNat_lt
  unfold byt
  omega
theorem byt_num {l : List Int} {i : Nat} (hi : i < l.length) (h : ∀ x ∈ l, 0 ≤ x ∧ x < 256) : byt (strOfNums l) i = l.getD i 0 := by
  have hx := h (l[i]) (List.getElem_mem hi)
  simp only [byt, strOfNums_data, List.getD, List.getElem?_map, List.getElem?_eq_getElem hi, Option.map_some, Option.getD_some]
  have e : (UInt8.ofNat (l[i]).toNat).toNat = (l[i]).toNat := by
    rw [UInt8.toNat_ofNat']
    apply Nat.mod_eq_of_lt
    omega
  rw [e]
  omega
/-- two strings are one if their bytes are -/
theorem str_ext {s t : ByteArray} (hs : s.size = t.size) (h : ∀ i, i < s.size → byt s i = byt t i) : s = t := by
  apply ByteArray.ext
  apply Array.ext
  · simpa using hs
  · intro i h1 h2
    have h3 := h i (by simpa using h1)
    rw [← byt_at s i (by simpa using h1), ← byt_at t i (by simpa using h2)] at h3
    have h4 : (s[i]'(by simpa using h1)).toNat = (t[i]'(by simpa using h2)).toNat := by omega
    exact UInt8.toNat_inj.1 h4

theorem mk8_ones (k : Nat) : mk8 18446744073709551615 k = 255 := by
  have h : k % 8 < 8 := Nat.mod_lt _ (by decide)
  unfold mk8
  generalize k % 8 = j at h
  match j, h with
  | 0, _ => decide
  | 1, _ => decide
  | 2, _ => decide
  | 3, _ => decide
  | 4, _ => decide
  | 5, _ => decide
  | 6, _ => decide
  | 7, _ => decide

theorem nat_all (n : Nat) (p : Nat → Bool) (h : (List.range n).all p = true) {i : Int} (h0 : 0 ≤ i) (h1 : i < n) : p i.toNat = true :=
  List.all_eq_true.1 h _ (List.mem_range.2 (by omega))
theorem mByte_ones {o : Int} (h0 : 0 ≤ o) (h1 : o < 256) : mByte o 255 255 = 255 := by
  have := nat_all 256 (fun n => mByte (n : Int) 255 255 == 255) (by decide +kernel) h0 h1
  rw [Int.toNat_of_nonneg h0] at this
  simpa using this
theorem mByte_range (o d m : Int) : 0 ≤ mByte o d m ∧ mByte o d m < 256 := by
  have h1 := bits_lo_u8 .or (Go.bits .andNot .u8 o m) (Go.bits .and .u8 d m)
  have h2 := bits_hi_u8 .or (Go.bits .andNot .u8 o m) (Go.bits .and .u8 d m)
  unfold mByte
  omega
theorem byt_merge (old data : ByteArray) (m : Int) {i : Nat} (h : i < old.size) : byt (mergeS old data m) i = mByte (byt old i) (byt data i) (mk8 m i) := by
  rw [mergeS, byt_num (by simpa [mergeL] using h) (fun x hx => by
    obtain ⟨j, _, rfl⟩ := List.mem_map.1 hx
    exact mByte_range _ _ _), mergeL, List.getD, List.getElem?_map, List.getElem?_range h]
  rfl
theorem ff64_fill : ff64 = fillS 255 := by
  refine str_ext (by decide) (fun i hi => ?_)
  rw [ff64_size] at hi
  exact by
    have h := nat_all 64 (fun n => byt ff64 n == byt (fillS 255) n) (by decide +kernel) (i := (i : Int)) (by omega) (by omega)
    simpa using h
theorem fill_size (c : Int) : (fillS c).size = 64 := by rw [fillS, strOfNums_size, List.length_replicate]
theorem byt_ff {i : Nat} (h : i < 64) : byt ff64 i = 255 := by
  have h := nat_all 64 (fun n => byt ff64 n == 255) (by decide +kernel) (i := (i : Int)) (by omega) (by omega)
  simpa using h
theorem merge_ones {x : ByteArray} (hx : x.size = 64) : mergeS x ff64 18446744073709551615 = fillS 255 := by
  rw [← ff64_fill]
  refine str_ext (by rw [mergeS_size, hx, ff64_size]) (fun i hi => ?_)
  rw [mergeS_size] at hi
  obtain ⟨h0, h1⟩ := byt_range x i
  rw [byt_merge _ _ _ hi, mk8_ones, byt_ff (by omega), mByte_ones h0 h1]
end Go.Proofs.Ytachkcoilhlggaa
