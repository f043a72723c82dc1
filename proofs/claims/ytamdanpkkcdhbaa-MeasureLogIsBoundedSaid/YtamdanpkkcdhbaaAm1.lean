/- awake: the walk. -/
import Derived.Test.YtamdanpkkcdhbaaLg3
import Derived.Test.YtamdanpkkcdhbaaRg
set_option linter.unusedVariables false
set_option linter.unusedSimpArgs false
namespace Go.Proofs.Ytamdanpkkcdhbaa
open Go.RowKit Go.PF

theorem u8s_getElem? (l : List Int) (j : Nat) : (u8s l)[j]? = (l[j]?).map (Value.int .u8) := by simp [u8s]
def sAbc : ByteArray := ⟨#[97, 98, 99]⟩
def sX : ByteArray := ⟨#[120]⟩
def sKey : ByteArray := ⟨#[107, 101, 121]⟩
def sFox : ByteArray := "The quick brown fox jumps over the lazy dog".toUTF8
theorem made32 : madeCells #[.int .u8 0] 32 = (u8s z32).toArray := by kernel_rfl

/-- a digest is laid into a new variable -/
structure Laid (w w2 : World) (B : Nat) (L : List Int) : Prop where
  arr : Arr w2 B (u8s L)
  m : Mods No w w2
  new : w.heap.size ≤ B
  lt : B < w2.heap.size

set_option maxHeartbeats 4000000 in
set_option maxRecDepth 100000 in
theorem awake_gen (abc key fox x1 : ByteArray) (A M R : List Int) (regs : List (List Int)) (evs : List Ev) (hA : A.length = 32) (hM : M.length = 32) (hR : R.length = 32) (hq : abc.size ≤ 1000)
    (a0 : A[0]? = some 186) (a1 : A[1]? = some 120) (a31 : A[31]? = some 173) (m0 : M[0]? = some 247) (m1 : M[1]? = some 188)
    (hS : ∀ w, Calls Try.prog 15 #[.string abc] w fun e w' => e = .returned (.agg (u8s A).toArray) ∧ Mods No w w')
    (hMa : ∀ w, Calls Try.prog 17 #[.string key, .string fox] w fun e w' => e = .returned (.agg (u8s M).toArray) ∧ Mods No w w')
    (hT : ∀ w, Calls Try.prog 15 #[.string (strOfNums z32 ++ strOfNums A)] w fun e w' => e = .returned (.agg (u8s R).toArray) ∧ Mods No w w')
    (hm1 : measRes zeroRegs [] 2 x1 abc = (0, regs, evs)) (hm2 : measRes regs evs 8 x1 abc = (1, regs, evs)) (hrg : regRes regs 2 = (R, 0))
    (e1 : (⟨#[97, 98, 99]⟩ : ByteArray) = abc) (e2 : (⟨#[107, 101, 121]⟩ : ByteArray) = key) (e3 : (⟨#[120]⟩ : ByteArray) = x1) (e4 : (⟨#[84, 104, 101, 32, 113, 117, 105, 99, 107, 32, 98, 114, 111, 119, 110, 32, 102, 111, 120, 32, 106, 117, 109, 112, 115, 32, 111, 118, 101, 114, 32, 116, 104, 101, 32, 108, 97, 122, 121, 32, 100, 111, 103]⟩ : ByteArray) = fox)
    (w : World) : Calls Try.prog 13 #[] w fun e w' => e = .returned (.bool true) ∧ Mods No w w' := by
  have HA := Lib.hid hA
  have HM := Lib.hid hM
  have HR := Lib.hid hR
  have HS := Lib.hid hS
  have HMa := Lib.hid hMa
  have HT := Lib.hid hT
  have Hm1 := Lib.hid hm1
  have Hm2 := Lib.hid hm2
  have Hrg := Lib.hid hrg
  have Hq := Lib.hid hq
  have E1 := Lib.hid e1
  have E2 := Lib.hid e2
  have E3 := Lib.hid e3
  have E4 := Lib.hid e4
  have K0 := Lib.hid a0
  have K1 := Lib.hid a1
  have K31 := Lib.hid a31
  have L0 := Lib.hid m0
  have L1 := Lib.hid m1
  clear hA hM hR hS hMa hT hm1 hm2 hrg hq e1 e2 e3 e4 a0 a1 a31 m0 m1
  have hmk : ∀ W : World, (Instr.makeSlice 23 (.int .i64 32) (.int .i64 32)).run Try.prog W = .ok (.slice (some ⟨W.heap.size, 0, none⟩) 32 32) (W.alloc (.cells (u8s z32).toArray 5)) := by
    intro W
    have h := run_make_row' (P := Try.prog) 23 5 (.int .u8 0) 1 Try.underlying23 infoByte rfl .i64 .i64 32 (by omega) (by omega) W
    rw [made32] at h
    exact h
  have s1 : (strOfNums z32).size ≤ 100 := by rw [str_size rfl]; omega
  have s2 : (strOfNums A).size ≤ 100 := by rw [str_size HA.out]; omega
  go_enter Try.func13, Try.ntmps13
  go_wp2_with fail
  rw [E1.out]
  refine (HS.out _).mono ?_
  rintro e w1 ⟨rfl, n1⟩
  have hN : Arr (w1.alloc (.cells #[Value.int .u8 0, Value.int .u8 0, Value.int .u8 0, Value.int .u8 0, Value.int .u8 0, Value.int .u8 0, Value.int .u8 0, Value.int .u8 0, Value.int .u8 0, Value.int .u8 0, Value.int .u8 0, Value.int .u8 0, Value.int .u8 0, Value.int .u8 0, Value.int .u8 0, Value.int .u8 0, Value.int .u8 0, Value.int .u8 0, Value.int .u8 0, Value.int .u8 0, Value.int .u8 0, Value.int .u8 0, Value.int .u8 0, Value.int .u8 0, Value.int .u8 0, Value.int .u8 0, Value.int .u8 0, Value.int .u8 0, Value.int .u8 0, Value.int .u8 0, Value.int .u8 0, Value.int .u8 0] 26)) w1.heap.size (u8s z32) := Arr.new w1 (u8s z32) 26
  have HT1 := Lib.hid (hN.there' (vs := (u8s A).toArray) (by rw [List.size_toArray, u8s_length, u8s_length, HA.out]; rfl))
  have HI1 := Lib.hid (info32' HA.out)
  have HL1 : Hid (Laid w ((w1.alloc (.cells #[Value.int .u8 0, Value.int .u8 0, Value.int .u8 0, Value.int .u8 0, Value.int .u8 0, Value.int .u8 0, Value.int .u8 0, Value.int .u8 0, Value.int .u8 0, Value.int .u8 0, Value.int .u8 0, Value.int .u8 0, Value.int .u8 0, Value.int .u8 0, Value.int .u8 0, Value.int .u8 0, Value.int .u8 0, Value.int .u8 0, Value.int .u8 0, Value.int .u8 0, Value.int .u8 0, Value.int .u8 0, Value.int .u8 0, Value.int .u8 0, Value.int .u8 0, Value.int .u8 0, Value.int .u8 0, Value.int .u8 0, Value.int .u8 0, Value.int .u8 0, Value.int .u8 0, Value.int .u8 0] 26)).setCells w1.heap.size 0 (u8s A)) w1.heap.size A) := ⟨hN.stored (u8s A) (by rw [u8s_length, u8s_length, HA.out]; rfl), mods_setCells (F := No) (a := w) w1.heap.size (.inr n1.size) (u8s A) 0 _ (n1.alloc _), n1.size, (hN.stored (u8s A) (by rw [u8s_length, u8s_length, HA.out]; rfl)).lt (by rw [u8s_length, HA.out]; decide)⟩
  clear hN n1
  go_wp2_with ((with_reducible refine wpList_store_mid ?_ 26 (.tmp 1) (.tmp 6) ?_ w1.heap.size 0 (u8s A).toArray ?_ ?_ HT1.out HI1.out (u8s_one _) ?_); rfl; rfl; rfl; rfl)
  clear HT1 HI1
  generalize (w1.alloc (.cells #[Value.int .u8 0, Value.int .u8 0, Value.int .u8 0, Value.int .u8 0, Value.int .u8 0, Value.int .u8 0, Value.int .u8 0, Value.int .u8 0, Value.int .u8 0, Value.int .u8 0, Value.int .u8 0, Value.int .u8 0, Value.int .u8 0, Value.int .u8 0, Value.int .u8 0, Value.int .u8 0, Value.int .u8 0, Value.int .u8 0, Value.int .u8 0, Value.int .u8 0, Value.int .u8 0, Value.int .u8 0, Value.int .u8 0, Value.int .u8 0, Value.int .u8 0, Value.int .u8 0, Value.int .u8 0, Value.int .u8 0, Value.int .u8 0, Value.int .u8 0, Value.int .u8 0, Value.int .u8 0] 26)).setCells w1.heap.size 0 (u8s A) = W2 at HL1 ⊢
  generalize w1.heap.size = B1 at HL1 ⊢
  go_wp2_with fail
  rw [E2.out, E4.out]
  refine (HMa.out _).mono ?_
  rintro e w3 ⟨rfl, n3⟩
  have hN : Arr (w3.alloc (.cells #[Value.int .u8 0, Value.int .u8 0, Value.int .u8 0, Value.int .u8 0, Value.int .u8 0, Value.int .u8 0, Value.int .u8 0, Value.int .u8 0, Value.int .u8 0, Value.int .u8 0, Value.int .u8 0, Value.int .u8 0, Value.int .u8 0, Value.int .u8 0, Value.int .u8 0, Value.int .u8 0, Value.int .u8 0, Value.int .u8 0, Value.int .u8 0, Value.int .u8 0, Value.int .u8 0, Value.int .u8 0, Value.int .u8 0, Value.int .u8 0, Value.int .u8 0, Value.int .u8 0, Value.int .u8 0, Value.int .u8 0, Value.int .u8 0, Value.int .u8 0, Value.int .u8 0, Value.int .u8 0] 26)) w3.heap.size (u8s z32) := Arr.new w3 (u8s z32) 26
  have HT1 := Lib.hid (hN.there' (vs := (u8s M).toArray) (by rw [List.size_toArray, u8s_length, u8s_length, HM.out]; rfl))
  have HI1 := Lib.hid (info32' HM.out)
  have n4 := HL1.out.m.no n3
  have hst := hN.stored (u8s M) (by rw [u8s_length, u8s_length, HM.out]; rfl)
  have HL2 : Hid (Laid w ((w3.alloc (.cells #[Value.int .u8 0, Value.int .u8 0, Value.int .u8 0, Value.int .u8 0, Value.int .u8 0, Value.int .u8 0, Value.int .u8 0, Value.int .u8 0, Value.int .u8 0, Value.int .u8 0, Value.int .u8 0, Value.int .u8 0, Value.int .u8 0, Value.int .u8 0, Value.int .u8 0, Value.int .u8 0, Value.int .u8 0, Value.int .u8 0, Value.int .u8 0, Value.int .u8 0, Value.int .u8 0, Value.int .u8 0, Value.int .u8 0, Value.int .u8 0, Value.int .u8 0, Value.int .u8 0, Value.int .u8 0, Value.int .u8 0, Value.int .u8 0, Value.int .u8 0, Value.int .u8 0, Value.int .u8 0] 26)).setCells w3.heap.size 0 (u8s M)) w3.heap.size M) := ⟨hst, mods_setCells (F := No) (a := w) w3.heap.size (.inr n4.size) (u8s M) 0 _ (n4.alloc _), n4.size, hst.lt (by rw [u8s_length, HM.out]; decide)⟩
  have hst1 := ((HL1.out.arr.mods n3 id).alloc (.cells #[Value.int .u8 0, Value.int .u8 0, Value.int .u8 0, Value.int .u8 0, Value.int .u8 0, Value.int .u8 0, Value.int .u8 0, Value.int .u8 0, Value.int .u8 0, Value.int .u8 0, Value.int .u8 0, Value.int .u8 0, Value.int .u8 0, Value.int .u8 0, Value.int .u8 0, Value.int .u8 0, Value.int .u8 0, Value.int .u8 0, Value.int .u8 0, Value.int .u8 0, Value.int .u8 0, Value.int .u8 0, Value.int .u8 0, Value.int .u8 0, Value.int .u8 0, Value.int .u8 0, Value.int .u8 0, Value.int .u8 0, Value.int .u8 0, Value.int .u8 0, Value.int .u8 0, Value.int .u8 0] 26)).farCells w3.heap.size (by have := HL1.out.lt; have := n3.size; omega) (u8s M)
  have HL3 : Hid (Laid w ((w3.alloc (.cells #[Value.int .u8 0, Value.int .u8 0, Value.int .u8 0, Value.int .u8 0, Value.int .u8 0, Value.int .u8 0, Value.int .u8 0, Value.int .u8 0, Value.int .u8 0, Value.int .u8 0, Value.int .u8 0, Value.int .u8 0, Value.int .u8 0, Value.int .u8 0, Value.int .u8 0, Value.int .u8 0, Value.int .u8 0, Value.int .u8 0, Value.int .u8 0, Value.int .u8 0, Value.int .u8 0, Value.int .u8 0, Value.int .u8 0, Value.int .u8 0, Value.int .u8 0, Value.int .u8 0, Value.int .u8 0, Value.int .u8 0, Value.int .u8 0, Value.int .u8 0, Value.int .u8 0, Value.int .u8 0] 26)).setCells w3.heap.size 0 (u8s M)) B1 A) := ⟨hst1, HL2.out.m, HL1.out.new, hst1.lt (by rw [u8s_length, HA.out]; decide)⟩
  clear hN n3 n4 hst hst1 HL1
  go_wp2_with ((with_reducible refine wpList_store_mid ?_ 26 (.tmp 2) (.tmp 7) ?_ w3.heap.size 0 (u8s M).toArray ?_ ?_ HT1.out HI1.out (u8s_one _) ?_); rfl; rfl; rfl; rfl)
  clear HT1 HI1
  generalize (w3.alloc (.cells #[Value.int .u8 0, Value.int .u8 0, Value.int .u8 0, Value.int .u8 0, Value.int .u8 0, Value.int .u8 0, Value.int .u8 0, Value.int .u8 0, Value.int .u8 0, Value.int .u8 0, Value.int .u8 0, Value.int .u8 0, Value.int .u8 0, Value.int .u8 0, Value.int .u8 0, Value.int .u8 0, Value.int .u8 0, Value.int .u8 0, Value.int .u8 0, Value.int .u8 0, Value.int .u8 0, Value.int .u8 0, Value.int .u8 0, Value.int .u8 0, Value.int .u8 0, Value.int .u8 0, Value.int .u8 0, Value.int .u8 0, Value.int .u8 0, Value.int .u8 0, Value.int .u8 0, Value.int .u8 0] 26)).setCells w3.heap.size 0 (u8s M) = W4 at HL2 HL3 ⊢
  generalize w3.heap.size = B2 at HL2 HL3 ⊢
  go_wp2_with fail
  refine (new_any _).mono ?_
  rintro e w5 ⟨rfl, hL5, n5⟩
  have HB1 := HL3.out.lt
  have HB2 := HL2.out.lt
  have HB0 := HL2.out.m.size
  obtain ⟨B3, hB3⟩ : ∃ B3, W4.heap.size = B3 := ⟨_, rfl⟩
  rw [hB3] at hL5 HB1 HB2 HB0 ⊢
  have H5 : Hid (LogAt w5 B3 (.slice none 0 0) zeroRegs []) := hL5
  have HA5 : Hid (Arr w5 B1 (u8s A)) := HL3.out.arr.mods n5 id
  have HM5 : Hid (Arr w5 B2 (u8s M)) := HL2.out.arr.mods n5 id
  have HN5 : Hid (Mods No w w5) := HL2.out.m.no n5
  have z5 : B3 ≤ w5.heap.size := by rw [← hB3]; exact n5.size
  clear hL5 HL2 HL3 n5 hB3
  go_wp2_with fail
  rw [E1.out, E3.out]
  refine (measure_any _ _ _ _ _ _ _ _ H5.out (by have := Hq.out; omega)).mono ?_
  rintro e w6 ⟨rfl, ⟨v6, h6, b6⟩, m6⟩
  rw [Hm1.out] at h6 ⊢
  have hF6 : ∀ q, Foot B3 (.slice none 0 0) q → B3 ≤ q := fun q hq => by
    rcases hq with h | h
    · omega
    · cases h
  have hv6 : ∀ q, v6.ownBlock = some q → B3 ≤ q := fun q hq => by
    rcases b6 with h | ⟨g, h1, h2⟩
    · rw [hq] at h
      cases h
    · rw [hq] at h1
      cases h1
      omega
  have H6 : Hid (LogAt w6 B3 v6 regs evs) := h6
  have HA6 : Hid (Arr w6 B1 (u8s A)) := HA5.out.mods m6 (fun h => by have := hF6 _ h; omega)
  have HM6 : Hid (Arr w6 B2 (u8s M)) := HM5.out.mods m6 (fun h => by have := hF6 _ h; omega)
  have HN6 : Hid (Mods No w w6) := HN5.out.trans m6 (fun q h => .inr (by have := hF6 _ h; omega))
  clear h6 b6 m6 hF6 H5 HA5 HM5 HN5
  go_wp2_with fail
  rw [E1.out, E3.out]
  refine (measure_any _ _ _ _ _ _ _ _ H6.out (by have := Hq.out; omega)).mono ?_
  rintro e w7 ⟨rfl, ⟨v7, h7, b7⟩, m7⟩
  rw [Hm2.out] at h7 ⊢
  have hF7 : ∀ q, Foot B3 v6 q → B3 ≤ q := fun q hq => by
    rcases hq with h | h
    · omega
    · exact hv6 q h
  have H7 : Hid (LogAt w7 B3 v7 regs evs) := h7
  have HA7 : Hid (Arr w7 B1 (u8s A)) := HA6.out.mods m7 (fun h => by have := hF7 _ h; omega)
  have HM7 : Hid (Arr w7 B2 (u8s M)) := HM6.out.mods m7 (fun h => by have := hF7 _ h; omega)
  have HN7 : Hid (Mods No w w7) := HN6.out.trans m7 (fun q h => .inr (by have := hF7 _ h; omega))
  clear h7 b7 m7 hF7 hv6 H6 HA6 HM6 HN6
  go_wp2_with fail
  refine (register_any _ _ _ _ _ _ H7.out).mono ?_
  rintro e w8 ⟨rfl, n8⟩
  rw [Hrg.out]
  have hN : Arr (w8.alloc (.cells #[Value.int .u8 0, Value.int .u8 0, Value.int .u8 0, Value.int .u8 0, Value.int .u8 0, Value.int .u8 0, Value.int .u8 0, Value.int .u8 0, Value.int .u8 0, Value.int .u8 0, Value.int .u8 0, Value.int .u8 0, Value.int .u8 0, Value.int .u8 0, Value.int .u8 0, Value.int .u8 0, Value.int .u8 0, Value.int .u8 0, Value.int .u8 0, Value.int .u8 0, Value.int .u8 0, Value.int .u8 0, Value.int .u8 0, Value.int .u8 0, Value.int .u8 0, Value.int .u8 0, Value.int .u8 0, Value.int .u8 0, Value.int .u8 0, Value.int .u8 0, Value.int .u8 0, Value.int .u8 0] 26)) w8.heap.size (u8s z32) := Arr.new w8 (u8s z32) 26
  have HT1 := Lib.hid (hN.there' (vs := (u8s R).toArray) (by rw [List.size_toArray, u8s_length, u8s_length, HR.out]; rfl))
  have HI1 := Lib.hid (info32' HR.out)
  have n9 := HN7.out.no n8
  have hst := hN.stored (u8s R) (by rw [u8s_length, u8s_length, HR.out]; rfl)
  have HL2 : Hid (Laid w ((w8.alloc (.cells #[Value.int .u8 0, Value.int .u8 0, Value.int .u8 0, Value.int .u8 0, Value.int .u8 0, Value.int .u8 0, Value.int .u8 0, Value.int .u8 0, Value.int .u8 0, Value.int .u8 0, Value.int .u8 0, Value.int .u8 0, Value.int .u8 0, Value.int .u8 0, Value.int .u8 0, Value.int .u8 0, Value.int .u8 0, Value.int .u8 0, Value.int .u8 0, Value.int .u8 0, Value.int .u8 0, Value.int .u8 0, Value.int .u8 0, Value.int .u8 0, Value.int .u8 0, Value.int .u8 0, Value.int .u8 0, Value.int .u8 0, Value.int .u8 0, Value.int .u8 0, Value.int .u8 0, Value.int .u8 0] 26)).setCells w8.heap.size 0 (u8s R)) w8.heap.size R) := ⟨hst, mods_setCells (F := No) (a := w) w8.heap.size (.inr n9.size) (u8s R) 0 _ (n9.alloc _), n9.size, hst.lt (by rw [u8s_length, HR.out]; decide)⟩
  have z1 : B1 < w8.heap.size := (HA7.out.mods n8 id).lt (by rw [u8s_length, HA.out]; decide)
  have z2 : B2 < w8.heap.size := (HM7.out.mods n8 id).lt (by rw [u8s_length, HM.out]; decide)
  have HA8 := Lib.hid (((HA7.out.mods n8 id).alloc (.cells #[Value.int .u8 0, Value.int .u8 0, Value.int .u8 0, Value.int .u8 0, Value.int .u8 0, Value.int .u8 0, Value.int .u8 0, Value.int .u8 0, Value.int .u8 0, Value.int .u8 0, Value.int .u8 0, Value.int .u8 0, Value.int .u8 0, Value.int .u8 0, Value.int .u8 0, Value.int .u8 0, Value.int .u8 0, Value.int .u8 0, Value.int .u8 0, Value.int .u8 0, Value.int .u8 0, Value.int .u8 0, Value.int .u8 0, Value.int .u8 0, Value.int .u8 0, Value.int .u8 0, Value.int .u8 0, Value.int .u8 0, Value.int .u8 0, Value.int .u8 0, Value.int .u8 0, Value.int .u8 0] 26)).farCells w8.heap.size (by omega) (u8s R))
  have HM8 := Lib.hid (((HM7.out.mods n8 id).alloc (.cells #[Value.int .u8 0, Value.int .u8 0, Value.int .u8 0, Value.int .u8 0, Value.int .u8 0, Value.int .u8 0, Value.int .u8 0, Value.int .u8 0, Value.int .u8 0, Value.int .u8 0, Value.int .u8 0, Value.int .u8 0, Value.int .u8 0, Value.int .u8 0, Value.int .u8 0, Value.int .u8 0, Value.int .u8 0, Value.int .u8 0, Value.int .u8 0, Value.int .u8 0, Value.int .u8 0, Value.int .u8 0, Value.int .u8 0, Value.int .u8 0, Value.int .u8 0, Value.int .u8 0, Value.int .u8 0, Value.int .u8 0, Value.int .u8 0, Value.int .u8 0, Value.int .u8 0, Value.int .u8 0] 26)).farCells w8.heap.size (by omega) (u8s R))
  clear hN n8 n9 hst HN7 HA7 HM7 H7
  go_wp2_with ((with_reducible refine wpList_store_mid ?_ 26 (.tmp 4) (.tmp 24) ?_ w8.heap.size 0 (u8s R).toArray ?_ ?_ HT1.out HI1.out (u8s_one _) ?_); rfl; rfl; rfl; rfl)
  clear HT1 HI1
  generalize (w8.alloc (.cells #[Value.int .u8 0, Value.int .u8 0, Value.int .u8 0, Value.int .u8 0, Value.int .u8 0, Value.int .u8 0, Value.int .u8 0, Value.int .u8 0, Value.int .u8 0, Value.int .u8 0, Value.int .u8 0, Value.int .u8 0, Value.int .u8 0, Value.int .u8 0, Value.int .u8 0, Value.int .u8 0, Value.int .u8 0, Value.int .u8 0, Value.int .u8 0, Value.int .u8 0, Value.int .u8 0, Value.int .u8 0, Value.int .u8 0, Value.int .u8 0, Value.int .u8 0, Value.int .u8 0, Value.int .u8 0, Value.int .u8 0, Value.int .u8 0, Value.int .u8 0, Value.int .u8 0, Value.int .u8 0] 26)).setCells w8.heap.size 0 (u8s R) = W at HL2 HA8 HM8 ⊢
  generalize w8.heap.size = B4 at HL2 z1 z2 ⊢
  have cA : ∀ (j : Nat) (v : Int), A[j]? = some v → ∀ y : Ext W, y.w.cell? ⟨B1, j, none⟩ = some (.int .u8 v) := fun j v h y => ((HA8.out.ext y) j _ (by rw [u8s_getElem?, h]; rfl)).1
  have cM : ∀ (j : Nat) (v : Int), M[j]? = some v → ∀ y : Ext W, y.w.cell? ⟨B2, j, none⟩ = some (.int .u8 v) := fun j v h y => ((HM8.out.ext y) j _ (by rw [u8s_getElem?, h]; rfl)).1
  have c0 := cA 0 _ K0.out
  have c1 := cA 1 _ K1.out
  have c31 := cA 31 _ K31.out
  have d0 := cM 0 _ L0.out
  have d1 := cM 1 _ L1.out
  clear cA cM
  refine wp_region_seen 35 [55] (by kernel_rfl) (by kernel_rfl) ?_
  simp only [List.take_succ_cons, List.take_zero, List.drop_succ_cons, List.drop_zero]
  refine wpSeen_quiet rfl rfl ?_
  go_big_quiet_want
  go_big_quiet_op
  go_big_quiet_on
  refine wpQuiet_nil ?_
  refine wpSeen_quiet rfl rfl ?_
  go_big_quiet_want
  go_big_quiet_op
  go_big_quiet_on
  refine wpQuiet_nil ?_
  refine wpSeen_quiet rfl rfl ?_
  go_big_quiet_want
  go_big_quiet_op
  go_big_quiet_on
  refine wpQuiet_nil ?_
  refine wpSeen_quiet rfl rfl ?_
  go_big_quiet_want
  go_big_quiet_op
  go_big_quiet_on
  refine wpQuiet_nil ?_
  refine wpSeen_quiet rfl rfl ?_
  go_big_quiet_want
  go_big_quiet_op
  go_big_quiet_on
  refine wpQuiet_nil ?_
  refine wpSeen_quiet rfl rfl ?_
  go_big_quiet_want
  go_big_quiet_op
  go_big_quiet_on
  refine wpQuiet_nil ?_
  refine wpSeen_quiet rfl rfl ?_
  go_big_quiet_want
  go_big_quiet_op
  go_big_quiet_on
  refine wpQuiet_nil ?_
  refine wpSeen_quiet rfl rfl ?_
  go_big_quiet_want
  go_big_quiet_op
  go_big_quiet_on
  refine wpQuiet_nil ?_
  refine wpSeen_quiet rfl rfl ?_
  go_big_quiet_want
  go_big_quiet_op
  go_big_quiet_on
  refine wpQuiet_nil ?_
  refine wpSeen_quiet rfl rfl ?_
  go_big_quiet_want
  go_big_quiet_op
  go_big_quiet_on
  refine wpQuiet_nil ?_
  refine wpSeen_quiet rfl rfl ?_
  go_big_quiet_want
  go_big_quiet_op
  go_big_quiet_on
  refine wpQuiet_nil ?_
  refine wpSeen_quiet rfl rfl ?_
  go_big_quiet_want
  go_big_quiet_op
  go_big_quiet_on
  refine wpQuiet_nil ?_
  refine wpSeen_quiet rfl rfl ?_
  go_big_quiet_want
  go_big_quiet_op
  go_big_quiet_on
  refine wpQuiet_nil ?_
  refine wpSeen_quiet rfl rfl ?_
  go_big_quiet_want
  go_big_quiet_op
  go_big_quiet_on
  refine wpQuiet_nil ?_
  refine wpSeen_quiet rfl rfl ?_
  go_big_quiet_want
  go_big_quiet_op
  go_big_quiet_on
  refine wpQuiet_nil ?_
  refine wpSeen_quiet rfl rfl ?_
  go_big_quiet_want
  go_big_quiet_op
  go_big_quiet_on
  refine wpQuiet_nil ?_
  refine wpSeen_quiet rfl rfl ?_
  go_big_quiet_want
  go_big_quiet_op
  go_big_quiet_on
  refine wpQuiet_nil ?_
  refine wpSeen_quiet rfl rfl ?_
  go_big_quiet_want
  go_big_quiet_op
  go_big_quiet_on
  refine wpQuiet_nil ?_
  refine wpSeen_quiet rfl rfl ?_
  go_big_quiet_want
  go_big_quiet_op
  go_big_quiet_on
  refine wpQuiet_nil ?_
  refine wpSeen_quiet rfl rfl ?_
  go_big_quiet_want
  go_big_quiet_op
  go_big_quiet_on
  refine wpQuiet_nil ?_
  refine wpSeen_quiet rfl rfl ?_
  go_big_quiet_want
  go_big_quiet_op
  go_big_quiet_on
  refine wpQuiet_nil ?_
  refine wpSeen_quiet rfl rfl ?_
  go_big_quiet_want
  go_big_quiet_op
  go_big_quiet_on
  refine wpQuiet_nil ?_
  refine wpSeen_quiet rfl rfl ?_
  go_big_quiet_want
  go_big_quiet_op
  go_big_quiet_on
  refine wpQuiet_nil ?_
  refine wpSeen_quiet rfl rfl ?_
  go_big_quiet_want
  go_big_quiet_op
  go_big_quiet_on
  refine wpQuiet_nil ?_
  refine wpSeen_quiet rfl rfl ?_
  go_big_quiet_want
  go_big_quiet_op
  go_big_quiet_on
  refine wpQuiet_nil ?_
  refine wpSeen_quiet rfl rfl ?_
  go_big_quiet_want
  go_big_quiet_op
  go_big_quiet_on
  refine wpQuiet_nil ?_
  refine wpSeen_quiet rfl rfl ?_
  go_big_quiet_want
  go_big_quiet_op
  go_big_quiet_on
  refine wpQuiet_nil ?_
  refine wpSeen_quiet rfl rfl ?_
  go_big_quiet_want
  go_big_quiet_op
  go_big_quiet_on
  refine wpQuiet_nil ?_
  refine wpSeen_quiet rfl rfl ?_
  go_big_quiet_want
  refine quiet_load_row 26 (.tmp 4) rfl B4 0 (by rfl) (u8s R) _ (fun _ ⟨x, e⟩ => e ▸ (HL2.out.arr.ext x).range) Try.underlying26 rfl (info32 HR.out) ?_
  go_big_quiet_on
  refine wpQuiet_nil ?_
  simp only [Act.put, List.setIfInBounds_toArray, List.set_cons_succ, List.set_cons_zero]
  refine wpSeen_new (New.sl 32 (u8s z32)) (New.sl_stable _ _) rfl rfl rfl (fun x => newAt_sl 32 _ 5 (op_value _ (by simp [execOp, Act.eval]) (hmk x.w))) ?_
  refine wpSeen_seen (.string (strOfNums z32)) 55 (New.sl 32 (u8s z32)) rfl (by simp) rfl (fun x u lo hi ⟨hu, _, h3⟩ _ _ _ => ⟨by subst hu; rfl, by subst hu; exact op_value (convert 23 9 (.slice (some ⟨lo, 0, none⟩) 32 32)) (by rfl) (Arr.str h3 32 rfl 32)⟩) ?_
  simp only [Act.put, List.setIfInBounds_toArray, List.set_cons_succ, List.set_cons_zero]
  refine wpSeen_quiet rfl rfl ?_
  go_big_quiet_want
  go_big_quiet_op
  go_big_quiet_on
  refine wpQuiet_nil ?_
  refine wpSeen_quiet rfl rfl ?_
  go_big_quiet_want
  refine quiet_of_run (.string (strOfNums A)) (fun w ⟨x, e⟩ => e ▸ op_value (convert 23 9 (.slice (some ⟨B1, 0, none⟩) 32 32)) (by rfl) (Arr.str (HA8.out.ext x) 32 HA.out 32)) ?_
  go_big_quiet_on
  refine wpQuiet_nil ?_
  simp only [Act.put, List.setIfInBounds_toArray, List.set_cons_succ, List.set_cons_zero]
  refine wpSeen_quiet rfl rfl ?_
  go_big_quiet_want
  go_big_quiet_op
  go_big_quiet_on
  refine wpQuiet_nil ?_
  refine wpSeen_known (.agg (u8s R).toArray) rfl rfl rfl (fun x => newAt_val (f := 15) (args := #[.string (strOfNums z32 ++ strOfNums A)]) (by kernel_rfl) (HT.out _)) ?_
  simp only [Act.put, List.setIfInBounds_toArray, List.set_cons_succ, List.set_cons_zero]
  refine wpSeen_nil ?_
  intro x
  rintro u lo hi ⟨rfl, _, _⟩ hB - hhi hdisj
  have hEq : ∀ w, (binOp .eql 26 (.agg (u8s R).toArray) (.agg (u8s R).toArray)).run Try.prog w = .ok (.bool true) w := fun w => by
    rw [digEq R R HR.out HR.out w, beq_self_eq_true]
  have HF := Lib.hid (HL2.out.m.no x.m)
  simp only [finNew, Act.put, List.setIfInBounds_toArray, List.set_cons_succ, List.set_cons_zero]
  clear c0 c1 c31 d0 d1 hB hhi hdisj HA8 HM8 HL2
  go_wp2_with fail
  go_ret
  exact ⟨rfl, HF.out⟩
end Go.Proofs.Ytamdanpkkcdhbaa
