/- HMAC: the walk over the reference's MAC. -/
import Derived.Test.YtamdanpkkcdhbaaSha15
import Derived.Deep.DeepCutAuto
import Derived.BigRegion
set_option linter.unusedVariables false
set_option linter.unusedSimpArgs false
namespace Go.Proofs.Ytamdanpkkcdhbaa
open Go.RowKit Go.PF

/-- the byte of a key, zero behind its end -/
def kb (key : ByteArray) (j : Nat) : Int := (keyL key).getD j 0
def mkL (k : ByteArray) (m : Int) (n : Nat) : List Int := (List.range 64).map fun j => if j < n then xor8 (kb k j) m else 0
theorem mkL_length (k : ByteArray) (m : Int) (n : Nat) : (mkL k m n).length = 64 := by simp [mkL]
theorem mkL_zero (k : ByteArray) (m : Int) : mkL k m 0 = z64 := rfl
theorem mkL_full (k : ByteArray) (m : Int) : mkL k m 64 = maskL k m := by
  unfold mkL maskL mkTo
  apply List.map_congr_left
  intro j hj
  have : j < 64 := by simpa using hj
  rw [if_pos this, if_pos this]
  rfl
theorem mkL_set (k : ByteArray) (m : Int) (n : Nat) (v : Int) (hv : v = xor8 (kb k n) m) : (u8s (mkL k m n)).set n (.int .u8 v) = u8s (mkL k m (n + 1)) := by
  subst hv
  apply List.ext_getElem
  · simp [u8s, mkL]
  · intro j h1 h2
    rw [List.getElem_set]
    simp only [u8s, mkL, List.getElem_map, List.getElem_range]
    split
    · rename_i e
      subst e
      simp
    · rename_i e
      by_cases g : j < n
      · rw [if_pos g, if_pos (by omega)]
      · rw [if_neg g, if_neg (by omega)]
theorem kb_in {k : ByteArray} {j : Nat} (h : j < k.size) : kb k j = byt k j := by
  unfold kb keyL
  simp only [List.getD]
  rw [List.getElem?_append_left (by rw [byts_length]; exact h)]
  have h' : j < k.data.toList.length := by simpa using h
  simp [byts, byt, List.getElem?_eq_getElem h', List.getD]
theorem kb_out {k : ByteArray} {j : Nat} (h : k.size ≤ j) : kb k j = 0 := by
  unfold kb keyL
  simp only [List.getD]
  rw [List.getElem?_append_right (by rw [byts_length]; exact h), List.getElem?_replicate]
  split <;> rfl

set_option maxHeartbeats 4000000 in
set_option maxRecDepth 100000 in
theorem refMac_gen (key s k A1 A2 T1 : ByteArray) (D0 D1 L : List Int) (hd0 : D0.length = 32) (hd1 : D1.length = 32) (hl : L.length = 32) (hks : key.size ≤ 100000) (hkk : k.size ≤ 64) (hs : s.size ≤ 100000) (z1 : A1.size ≤ 100) (z2 : A2.size ≤ 100) (z3 : T1.size ≤ 100)
    (h0 : key.size ≤ 64 → k = key)
    (hS0 : 64 < key.size → ∀ w, Calls Try.prog 16 #[.string key] w fun e w' => e = .returned (.agg (u8s D0).toArray) ∧ Mods No w w')
    (hT0 : 64 < key.size → strOfNums D0 = k)
    (h92 : strOfNums (maskL k 92) = A2)
    (h54 : strOfNums (maskL k 54) = A1)
    (hS1 : ∀ w, Calls Try.prog 16 #[.string (A1 ++ s)] w fun e w' => e = .returned (.agg (u8s D1).toArray) ∧ Mods No w w')
    (hT1 : strOfNums D1 = T1)
    (hS2 : ∀ w, Calls Try.prog 16 #[.string (A2 ++ T1)] w fun e w' => e = .returned (.agg (u8s L).toArray) ∧ Mods No w w')
    (w : World) : Calls Try.prog 18 #[.string key, .string s] w fun e w' => e = .returned (.agg (u8s L).toArray) ∧ Mods No w w' := by
  have hmk := run_make_row' (P := Try.prog) 23 5 (.int .u8 0) 1 Try.underlying23 infoByte rfl .i64 .i64 64 (by omega) (by omega)
  have hmk2 : ∀ W : World, (Instr.makeSlice 23 (.int .i64 64) (.int .i64 64)).run Try.prog W = .ok (.slice (some ⟨W.heap.size, 0, none⟩) 64 64) (W.alloc (.cells (u8s z64).toArray 5)) := by rw [← made64]; exact hmk
  clear hmk
  have HR : Hid (Arr (w.alloc (.cells (u8s z32).toArray 26)) w.heap.size (u8s z32)) := Arr.new _ _ _
  have HM : Hid (Mods No w (w.alloc (.cells (u8s z32).toArray 26))) := (Mods.refl _ _).alloc _
  have HL := Lib.hid hl
  have HD0 := Lib.hid hd0
  have HD1 := Lib.hid hd1
  have H0 := Lib.hid h0
  have HS0 := Lib.hid hS0
  have HT0 := Lib.hid hT0
  have H92 := Lib.hid h92
  have H54 := Lib.hid h54
  have HS1 := Lib.hid hS1
  have HT1 := Lib.hid hT1
  have HS2 := Lib.hid hS2
  clear hl h0 hS0 hT0 h92 h54 hS1 hT1 hS2 hd0 hd1
  go_enter Try.func18, Try.ntmps18
  go_upto_if 13 with (fail)
  go_cut [0] (fun v wr => v = .string k ∧ Arr wr w.heap.size (u8s z32) ∧ Mods No w wr)
  case first =>
    by_cases hc : key.size ≤ 64
    · have hc1 : (key.size : Int) ≤ 64 := by omega
      have e := H0.out hc
      subst e
      go_wp2_with fail
      go_meet
      case rel => exact ⟨rfl, HR.out, HM.out⟩
    · have hc1 : (64 : Int) < (key.size : Int) := by omega
      go_wp2_with fail
      refine (HS0.out (by omega) _).mono ?_
      rintro e v1 ⟨rfl, n1⟩
      have hR := HR.out.mods n1 id
      have hM := HM.out.no n1
      have hR2 : Arr (v1.alloc (.cells #[Value.int .u8 0, Value.int .u8 0, Value.int .u8 0, Value.int .u8 0, Value.int .u8 0, Value.int .u8 0, Value.int .u8 0, Value.int .u8 0, Value.int .u8 0, Value.int .u8 0, Value.int .u8 0, Value.int .u8 0, Value.int .u8 0, Value.int .u8 0, Value.int .u8 0, Value.int .u8 0, Value.int .u8 0, Value.int .u8 0, Value.int .u8 0, Value.int .u8 0, Value.int .u8 0, Value.int .u8 0, Value.int .u8 0, Value.int .u8 0, Value.int .u8 0, Value.int .u8 0, Value.int .u8 0, Value.int .u8 0, Value.int .u8 0, Value.int .u8 0, Value.int .u8 0, Value.int .u8 0] 26)) w.heap.size (u8s z32) := hR.alloc _
      have hM2 : Mods No w (v1.alloc (.cells #[Value.int .u8 0, Value.int .u8 0, Value.int .u8 0, Value.int .u8 0, Value.int .u8 0, Value.int .u8 0, Value.int .u8 0, Value.int .u8 0, Value.int .u8 0, Value.int .u8 0, Value.int .u8 0, Value.int .u8 0, Value.int .u8 0, Value.int .u8 0, Value.int .u8 0, Value.int .u8 0, Value.int .u8 0, Value.int .u8 0, Value.int .u8 0, Value.int .u8 0, Value.int .u8 0, Value.int .u8 0, Value.int .u8 0, Value.int .u8 0, Value.int .u8 0, Value.int .u8 0, Value.int .u8 0, Value.int .u8 0, Value.int .u8 0, Value.int .u8 0, Value.int .u8 0, Value.int .u8 0] 26)) := hM.alloc _
      have hB : Arr (v1.alloc (.cells #[Value.int .u8 0, Value.int .u8 0, Value.int .u8 0, Value.int .u8 0, Value.int .u8 0, Value.int .u8 0, Value.int .u8 0, Value.int .u8 0, Value.int .u8 0, Value.int .u8 0, Value.int .u8 0, Value.int .u8 0, Value.int .u8 0, Value.int .u8 0, Value.int .u8 0, Value.int .u8 0, Value.int .u8 0, Value.int .u8 0, Value.int .u8 0, Value.int .u8 0, Value.int .u8 0, Value.int .u8 0, Value.int .u8 0, Value.int .u8 0, Value.int .u8 0, Value.int .u8 0, Value.int .u8 0, Value.int .u8 0, Value.int .u8 0, Value.int .u8 0, Value.int .u8 0, Value.int .u8 0] 26)) v1.heap.size (u8s z32) := Arr.new v1 (u8s z32) 26
      have hne : w.heap.size ≠ v1.heap.size := by have := hR.lt (by rw [u8s_length]; decide); omega
      have hst := hB.stored (u8s D0) (by rw [u8s_length, u8s_length, HD0.out]; rfl)
      have htx := Arr.text hst HD0.out 32
      rw [HT0.out (by omega)] at htx
      have HT := Lib.hid (hB.there' (vs := (u8s D0).toArray) (by rw [List.size_toArray, u8s_length, u8s_length, HD0.out]; rfl))
      have HI := Lib.hid (info32' HD0.out)
      have HR3 := Lib.hid (hR2.farCells v1.heap.size hne (u8s D0))
      have HM3 := Lib.hid (mods_setCells (F := No) (a := w) v1.heap.size (.inr hM.size) (u8s D0) 0 _ hM2)
      clear hR hM hR2 hM2 hB hst n1
      go_wp2_with ((with_reducible refine wpList_store_mid ?_ 26 (.tmp 5) (.tmp 15) ?_ v1.heap.size 0 (u8s D0).toArray ?_ ?_ HT.out HI.out (u8s_one _) ?_); rfl; rfl; rfl; rfl)
      go_meet
      case rel => exact ⟨rfl, HR3.out, HM3.out⟩
  case rest =>
    obtain ⟨rfl, hR, hM⟩ := hcut
    clear HR HM HS0 HT0 H0
    go_wp2_with fail
    go_cut [6, 7] (fun a b wr => ∃ B6 B7, a = .slice (some ⟨B6, 0, none⟩) 64 64 ∧ b = .slice (some ⟨B7, 0, none⟩) 64 64 ∧ B6 ≠ B7 ∧ w.heap.size < B6 ∧ w.heap.size < B7 ∧ Arr wr B6 (u8s z64) ∧ Arr wr B7 (u8s z64) ∧ Arr wr w.heap.size (u8s z32) ∧ Mods No w wr)
    case first =>
      have q1 : Arr ((wc.alloc (.cells (u8s z64).toArray 5)).alloc (.cells (u8s z64).toArray 5)).drew wc.heap.size (u8s z64) := (Arr.new wc (u8s z64) 5).alloc _
      have q2 : Arr ((wc.alloc (.cells (u8s z64).toArray 5)).alloc (.cells (u8s z64).toArray 5)).drew (wc.heap.size + 1) (u8s z64) := by
        have := Arr.new (wc.alloc (.cells (u8s z64).toArray 5)) (u8s z64) 5
        rw [World.size_alloc] at this
        exact this
      have q3 : Arr ((wc.alloc (.cells (u8s z64).toArray 5)).alloc (.cells (u8s z64).toArray 5)).drew w.heap.size (u8s z32) := (hR.alloc _).alloc _
      have q4 : Mods No w ((wc.alloc (.cells (u8s z64).toArray 5)).alloc (.cells (u8s z64).toArray 5)).drew := ((hM.alloc _).alloc _).drew
      have q5 : w.heap.size < wc.heap.size := hR.lt (by rw [u8s_length]; decide)
      have Q1 := Lib.hid q1
      have Q2 := Lib.hid q2
      have Q3 := Lib.hid q3
      have Q4 := Lib.hid q4
      clear q1 q2 q3 q4 hR hM
      go_region
      · go_wp2_with fail
        go_meet
        case rel => exact ⟨_, _, rfl, rfl, by omega, q5, by omega, Q1.out, Q2.out, Q3.out, Q4.out⟩
      · go_wp2_with fail
        go_meet
        case rel => exact ⟨_, _, rfl, rfl, by omega, by omega, q5, Q2.out, Q1.out, Q3.out, Q4.out⟩
    case rest =>
      obtain ⟨B6, B7, rfl, rfl, n67, b6, b7, h6, h7, hR, hM⟩ := hcut
      go_wp2_with fail
      go_loopw [8] (fun q wr => ∃ j : Nat, j ≤ 64 ∧ q = .int .i64 j ∧ Arr wr B6 (u8s (mkL k 54 j)) ∧ Arr wr B7 (u8s (mkL k 92 j)) ∧ Arr wr w.heap.size (u8s z32) ∧ Mods No w wr) (fun q _ => 64 - (intOf q).toNat)
      case atStart => exact ⟨0, Nat.zero_le _, rfl, h6, h7, hR, hM⟩
      case round =>
        obtain ⟨j, hj, rfl, g6, g7, gR, gM⟩ := hrel
        clear h6 h7 hR hM
        by_cases hlt : j < 64
        · have hj1 : (j : Int) < 64 := by omega
          have l6 : j < (u8s (mkL k 54 j)).length := by rw [u8s_length, mkL_length]; exact hlt
          have l7 : j < (u8s (mkL k 92 j)).length := by rw [u8s_length, mkL_length]; exact hlt
          obtain ⟨d6, f6⟩ := g6 j _ (List.getElem?_eq_getElem l6)
          obtain ⟨d7, f7⟩ := g7 j _ (List.getElem?_eq_getElem l7)
          generalize (u8s (mkL k 54 j))[j] = y6 at d6
          generalize (u8s (mkL k 92 j))[j] = y7 at d7
          have HS6 := Lib.hid (mkL_set k 54 j)
          have HS7 := Lib.hid (mkL_set k 92 j)
          have G6 := Lib.hid g6
          have G7 := Lib.hid g7
          have GR := Lib.hid gR
          have GM := Lib.hid gM
          clear l6 l7 g6 g7 gR gM
          by_cases hin : j < k.size
          · have hin1 : (j : Int) < (k.size : Int) := by omega
            have eb := byt_at k j hin
            have HB := Lib.hid (kb_in hin)
            go_wp2_with fail
            go_roundw
            case rel =>
              refine ⟨j + 1, by omega, by go_num, ?_, ?_, (GR.out.far ⟨B6, j, none⟩ (by show w.heap.size ≠ B6; omega) _).far ⟨B7, j, none⟩ (by show w.heap.size ≠ B7; omega) _, (GM.out.setCell (p := ⟨B6, j, none⟩) (.inr (by show w.heap.size ≤ B6; omega)) _).setCell (p := ⟨B7, j, none⟩) (.inr (by show w.heap.size ≤ B7; omega)) _⟩
              · rw [← HS6.out _ rfl, HB.out]
                exact (G6.out.set j _).far ⟨B7, j, none⟩ n67 _
              · rw [← HS7.out _ rfl, HB.out]
                exact (G7.out.far ⟨B6, j, none⟩ (Ne.symm n67) _).set j _
            case measure => simp [intOf]; omega
          · have hin1 : ¬ (j : Int) < (k.size : Int) := by omega
            have HB := Lib.hid (kb_out (k := k) (j := j) (by omega))
            go_wp2_with fail
            go_roundw
            case rel =>
              refine ⟨j + 1, by omega, by go_num, ?_, ?_, (GR.out.far ⟨B6, j, none⟩ (by show w.heap.size ≠ B6; omega) _).far ⟨B7, j, none⟩ (by show w.heap.size ≠ B7; omega) _, (GM.out.setCell (p := ⟨B6, j, none⟩) (.inr (by show w.heap.size ≤ B6; omega)) _).setCell (p := ⟨B7, j, none⟩) (.inr (by show w.heap.size ≤ B7; omega)) _⟩
              · rw [← HS6.out _ rfl, HB.out]
                exact (G6.out.set j _).far ⟨B7, j, none⟩ n67 _
              · rw [← HS7.out _ rfl, HB.out]
                exact (G7.out.far ⟨B6, j, none⟩ (Ne.symm n67) _).set j _
            case measure => simp [intOf]; omega
        · obtain rfl : j = 64 := by omega
          rw [mkL_full] at g6 g7
          have hc6 := Arr.str g6 64 (maskL_length _ _) 64
          rw [H54.out] at hc6
          clear hlt hj
          have HG7 := Lib.hid g7
          have HGR := Lib.hid gR
          have HGM := Lib.hid gM
          clear g6 g7 gR gM hmk2
          go_wp2_with fail
          refine (HS1.out _).mono ?_
          rintro e w3 ⟨rfl, m3⟩
          have h7 : Arr (w3.alloc (.cells #[Value.int .u8 0, Value.int .u8 0, Value.int .u8 0, Value.int .u8 0, Value.int .u8 0, Value.int .u8 0, Value.int .u8 0, Value.int .u8 0, Value.int .u8 0, Value.int .u8 0, Value.int .u8 0, Value.int .u8 0, Value.int .u8 0, Value.int .u8 0, Value.int .u8 0, Value.int .u8 0, Value.int .u8 0, Value.int .u8 0, Value.int .u8 0, Value.int .u8 0, Value.int .u8 0, Value.int .u8 0, Value.int .u8 0, Value.int .u8 0, Value.int .u8 0, Value.int .u8 0, Value.int .u8 0, Value.int .u8 0, Value.int .u8 0, Value.int .u8 0, Value.int .u8 0, Value.int .u8 0] 26)) B7 (u8s (maskL k 92)) := (HG7.out.mods m3 id).alloc _
          have hR : Arr (w3.alloc (.cells #[Value.int .u8 0, Value.int .u8 0, Value.int .u8 0, Value.int .u8 0, Value.int .u8 0, Value.int .u8 0, Value.int .u8 0, Value.int .u8 0, Value.int .u8 0, Value.int .u8 0, Value.int .u8 0, Value.int .u8 0, Value.int .u8 0, Value.int .u8 0, Value.int .u8 0, Value.int .u8 0, Value.int .u8 0, Value.int .u8 0, Value.int .u8 0, Value.int .u8 0, Value.int .u8 0, Value.int .u8 0, Value.int .u8 0, Value.int .u8 0, Value.int .u8 0, Value.int .u8 0, Value.int .u8 0, Value.int .u8 0, Value.int .u8 0, Value.int .u8 0, Value.int .u8 0, Value.int .u8 0] 26)) w.heap.size (u8s z32) := (HGR.out.mods m3 id).alloc _
          have hM : Mods No w (w3.alloc (.cells #[Value.int .u8 0, Value.int .u8 0, Value.int .u8 0, Value.int .u8 0, Value.int .u8 0, Value.int .u8 0, Value.int .u8 0, Value.int .u8 0, Value.int .u8 0, Value.int .u8 0, Value.int .u8 0, Value.int .u8 0, Value.int .u8 0, Value.int .u8 0, Value.int .u8 0, Value.int .u8 0, Value.int .u8 0, Value.int .u8 0, Value.int .u8 0, Value.int .u8 0, Value.int .u8 0, Value.int .u8 0, Value.int .u8 0, Value.int .u8 0, Value.int .u8 0, Value.int .u8 0, Value.int .u8 0, Value.int .u8 0, Value.int .u8 0, Value.int .u8 0, Value.int .u8 0, Value.int .u8 0] 26)) := (HGM.out.no m3).alloc _
          have hB : Arr (w3.alloc (.cells #[Value.int .u8 0, Value.int .u8 0, Value.int .u8 0, Value.int .u8 0, Value.int .u8 0, Value.int .u8 0, Value.int .u8 0, Value.int .u8 0, Value.int .u8 0, Value.int .u8 0, Value.int .u8 0, Value.int .u8 0, Value.int .u8 0, Value.int .u8 0, Value.int .u8 0, Value.int .u8 0, Value.int .u8 0, Value.int .u8 0, Value.int .u8 0, Value.int .u8 0, Value.int .u8 0, Value.int .u8 0, Value.int .u8 0, Value.int .u8 0, Value.int .u8 0, Value.int .u8 0, Value.int .u8 0, Value.int .u8 0, Value.int .u8 0, Value.int .u8 0, Value.int .u8 0, Value.int .u8 0] 26)) w3.heap.size (u8s z32) := Arr.new w3 (u8s z32) 26
          have x7 : B7 ≠ w3.heap.size := by have := (HG7.out.mods m3 id).lt (by rw [u8s_length, maskL_length]; omega); omega
          have xR : w.heap.size ≠ w3.heap.size := by have := (HGR.out.mods m3 id).lt (by rw [u8s_length]; decide); omega
          have HT := Lib.hid (hB.there' (vs := (u8s D1).toArray) (by rw [List.size_toArray, u8s_length, u8s_length, HD1.out]; rfl))
          have HI := Lib.hid (info32' HD1.out)
          have P7 := Lib.hid (h7.farCells w3.heap.size x7 (u8s D1))
          have PR := Lib.hid (hR.farCells w3.heap.size xR (u8s D1))
          have PB := Lib.hid (hB.stored (u8s D1) (by rw [u8s_length, u8s_length, HD1.out]; rfl))
          have PM := Lib.hid (mods_setCells (F := No) (a := w) w3.heap.size (.inr (Nat.le_trans HGM.out.size m3.size)) (u8s D1) 0 _ hM)
          clear h7 hR hM hB m3 hc6
          go_wp2_with ((with_reducible refine wpList_store_mid ?_ 26 (.tmp 10) (.tmp 45) ?_ w3.heap.size 0 (u8s D1).toArray ?_ ?_ HT.out HI.out (u8s_one _) ?_); rfl; rfl; rfl; rfl)
          generalize (w3.alloc (.cells #[Value.int .u8 0, Value.int .u8 0, Value.int .u8 0, Value.int .u8 0, Value.int .u8 0, Value.int .u8 0, Value.int .u8 0, Value.int .u8 0, Value.int .u8 0, Value.int .u8 0, Value.int .u8 0, Value.int .u8 0, Value.int .u8 0, Value.int .u8 0, Value.int .u8 0, Value.int .u8 0, Value.int .u8 0, Value.int .u8 0, Value.int .u8 0, Value.int .u8 0, Value.int .u8 0, Value.int .u8 0, Value.int .u8 0, Value.int .u8 0, Value.int .u8 0, Value.int .u8 0, Value.int .u8 0, Value.int .u8 0, Value.int .u8 0, Value.int .u8 0, Value.int .u8 0, Value.int .u8 0] 26)).setCells w3.heap.size 0 (u8s D1) = W5 at P7 PR PB PM ⊢
          generalize w3.heap.size = B10 at PB ⊢
          simp only [Act.put]
          have hx7 : ∀ x : Ext W5, (convert 23 9 (.slice (some ⟨B7, 0, none⟩) 64 64)).run Try.prog x.w = .ok (.string A2) x.w := fun x => by rw [← H92.out]; exact Arr.str (P7.out.ext x) 64 (maskL_length _ _) 64
          have hx10 : ∀ x : Ext W5, (convert 23 9 (.slice (some ⟨B10, 0, none⟩) 32 32)).run Try.prog x.w = .ok (.string T1) x.w := fun x => by rw [← HT1.out]; exact Arr.text (PB.out.ext x) HD1.out 32
          refine wp_region_ext 6 (by kernel_rfl) (by kernel_rfl) ?_
          simp only [List.take_succ_cons, List.take_zero, List.drop_succ_cons, List.drop_zero, List.take_nil, List.drop_nil]
          repeat (first | go_big_quiet_skip | (go_big_quiet_want; go_big_quiet_op; first | go_big_quiet_on | go_big_quiet_call ((go_at_call 16; exact Ext.call _ (HS2.out _)))))
          refine wpQuiet_nil ?_
          intro x
          have HT := Lib.hid ((PR.out.ext x).there' (vs := (u8s L).toArray) (by rw [List.size_toArray, u8s_length, u8s_length, HL.out]; rfl))
          have HI := Lib.hid (info32' HL.out)
          have HR5 := Lib.hid (PR.out.ext x)
          have HM5 := Lib.hid (PM.out.no x.m)
          clear hx7 hx10
          go_wp2_with ((with_reducible refine wpList_store_mid ?_ 26 (.tmp 4) (.tmp 51) ?_ w.heap.size 0 (u8s L).toArray ?_ ?_ HT.out HI.out (u8s_one _) ?_); rfl; rfl; rfl; rfl)
          exact bodyPost_ret (ret_digest HR5.out z32_length HL.out HM5.out (Nat.le_refl _) Try.results18 rfl).1 rfl ⟨rfl, mods_setCells (F := No) (a := w) w.heap.size (.inr (Nat.le_refl _)) _ 0 _ HM5.out⟩

theorem refMac_any (key s : ByteArray) (hk : key.size ≤ 100000) (hs : s.size ≤ 100000) (w : World) : Calls Try.prog 18 #[.string key, .string s] w fun e w' => e = .returned (.agg (u8s (macL key s)).toArray) ∧ Mods No w w' := by
  have hm1 := maskL_length (keyOf key) 92
  have hm2 := maskL_length (keyOf key) 54
  have q1 : (strOfNums (maskL (keyOf key) 54)).size = 64 := by rw [strOfNums_size, hm2]
  have q2 : (strOfNums (maskL (keyOf key) 92)).size = 64 := by rw [strOfNums_size, hm1]
  have q3 := str_size (shaL_length (strOfNums (maskL (keyOf key) 54) ++ s))
  exact refMac_gen key s (keyOf key) (strOfNums (maskL (keyOf key) 54)) (strOfNums (maskL (keyOf key) 92)) (strOfNums (shaL (strOfNums (maskL (keyOf key) 54) ++ s))) (shaL key) (shaL (strOfNums (maskL (keyOf key) 54) ++ s)) (macL key s)
    (shaL_length _) (shaL_length _) (macL_length _ _) hk (keyOf_size key) hs (by omega) (by omega) (by omega) (fun h => by unfold keyOf; rw [if_pos h]) (fun _ w => refSum_any key (by omega) w)
    (fun h => by unfold keyOf; rw [if_neg (by omega)]; rfl) rfl rfl (fun w => refSum_any _ (by rw [ByteArray.size_append]; omega) w) rfl
    (fun w => refSum_any _ (by rw [ByteArray.size_append]; omega) w) w
end Go.Proofs.Ytamdanpkkcdhbaa
