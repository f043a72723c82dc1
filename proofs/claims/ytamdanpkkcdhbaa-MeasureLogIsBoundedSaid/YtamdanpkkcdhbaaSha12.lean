/- SHA-256: the walk over the reference's Sum. -/
import Derived.Test.YtamdanpkkcdhbaaSha11
set_option linter.unusedVariables false
set_option linter.unusedSimpArgs false
namespace Go.Proofs.Ytamdanpkkcdhbaa
open Go.RowKit Go.PF

def padK (s : ByteArray) (k : Nat) : List Int := byts s ++ 128 :: List.replicate k 0
theorem padK_succ (s : ByteArray) (k : Nat) : padK s (k + 1) = padK s k ++ [0] := by simp [padK, List.replicate_succ']
theorem padK_full (s : ByteArray) : padK s (padZ s.size) = padB s := rfl

def dgK (h : List Int) (k : Nat) : List Int := (List.range 32).map fun j => if j < k then byteOf (h.getD (j / 4) 0) (j % 4) else 0
theorem dgK_zero (h : List Int) : dgK h 0 = List.replicate 32 0 := rfl
theorem dgK_full (h : List Int) : dgK h 32 = dgTo h 8 := rfl
theorem dgK_length (h : List Int) (k : Nat) : (dgK h k).length = 32 := by simp [dgK]
theorem dgK_set (h : List Int) (k : Nat) (v : Int) (hv : v = byteOf (h.getD (k / 4) 0) (k % 4)) : (u8s (dgK h k)).set k (.int .u8 v) = u8s (dgK h (k + 1)) := by
  subst hv
  apply List.ext_getElem
  · simp [u8s, dgK]
  · intro j h1 h2
    rw [List.getElem_set]
    simp only [u8s, dgK, List.getElem_map, List.getElem_range]
    split
    · rename_i e
      subst e
      simp
    · rename_i e
      by_cases g : j < k
      · rw [if_pos g, if_pos (by omega)]
      · rw [if_neg g, if_neg (by omega)]
set_option maxHeartbeats 4000000 in
set_option maxRecDepth 100000 in
theorem refSum_gen (s m : ByteArray) (n : Nat) (hmd : padS s = m) (hm : m.size = 64 * n) (hs : s.size ≤ 1000000) (w : World) :
    Calls Try.prog 16 #[.string s] w fun e w' => e = .returned (.agg (u8s (dgTo (sumTo m n).l 8)).toArray) ∧ Mods No w w' := by
  have HMS := Lib.hid hm
  have HMD := Lib.hid hmd
  have hzl : padZ s.size < 64 := by unfold padZ; omega
  clear hm hmd
  have hcv : ∀ (W : World) (S : ByteArray), (convert 9 23 (.string S)).run Try.prog W = .ok (.slice (some ⟨W.heap.size, 0, none⟩) S.size (grownCap W S.size 0 5)) (Lib.bytesWorld W 5 S) :=
    fun W S => Lib.run_convert_string_bytes W 9 23 5 S Try.underlying9 Try.underlying23 Try.underlying5
  obtain ⟨i9, hi9, hz9, hs9, hy9⟩ := info_parts infoByte
  have hR : Arr (w.alloc (.cells #[.int .u8 0, .int .u8 0, .int .u8 0, .int .u8 0, .int .u8 0, .int .u8 0, .int .u8 0, .int .u8 0, .int .u8 0, .int .u8 0, .int .u8 0, .int .u8 0, .int .u8 0, .int .u8 0, .int .u8 0, .int .u8 0, .int .u8 0, .int .u8 0, .int .u8 0, .int .u8 0, .int .u8 0, .int .u8 0, .int .u8 0, .int .u8 0, .int .u8 0, .int .u8 0, .int .u8 0, .int .u8 0, .int .u8 0, .int .u8 0, .int .u8 0, .int .u8 0] 26)) w.heap.size (u8s (List.replicate 32 0)) := Arr.new w (u8s (List.replicate 32 0)) 26
  have hM : Mods No w (w.alloc (.cells #[.int .u8 0, .int .u8 0, .int .u8 0, .int .u8 0, .int .u8 0, .int .u8 0, .int .u8 0, .int .u8 0, .int .u8 0, .int .u8 0, .int .u8 0, .int .u8 0, .int .u8 0, .int .u8 0, .int .u8 0, .int .u8 0, .int .u8 0, .int .u8 0, .int .u8 0, .int .u8 0, .int .u8 0, .int .u8 0, .int .u8 0, .int .u8 0, .int .u8 0, .int .u8 0, .int .u8 0, .int .u8 0, .int .u8 0, .int .u8 0, .int .u8 0, .int .u8 0] 26)) := (Mods.refl _ _).alloc _
  have hrow := Row.conv (w.alloc (.cells #[.int .u8 0, .int .u8 0, .int .u8 0, .int .u8 0, .int .u8 0, .int .u8 0, .int .u8 0, .int .u8 0, .int .u8 0, .int .u8 0, .int .u8 0, .int .u8 0, .int .u8 0, .int .u8 0, .int .u8 0, .int .u8 0, .int .u8 0, .int .u8 0, .int .u8 0, .int .u8 0, .int .u8 0, .int .u8 0, .int .u8 0, .int .u8 0, .int .u8 0, .int .u8 0, .int .u8 0, .int .u8 0, .int .u8 0, .int .u8 0, .int .u8 0, .int .u8 0] 26)) 5 s (by omega)
  have hmc := mods_conv (w.alloc (.cells #[.int .u8 0, .int .u8 0, .int .u8 0, .int .u8 0, .int .u8 0, .int .u8 0, .int .u8 0, .int .u8 0, .int .u8 0, .int .u8 0, .int .u8 0, .int .u8 0, .int .u8 0, .int .u8 0, .int .u8 0, .int .u8 0, .int .u8 0, .int .u8 0, .int .u8 0, .int .u8 0, .int .u8 0, .int .u8 0, .int .u8 0, .int .u8 0, .int .u8 0, .int .u8 0, .int .u8 0, .int .u8 0, .int .u8 0, .int .u8 0, .int .u8 0, .int .u8 0] 26)) 5 s
  replace hR := hR.mods hmc id
  replace hM := hM.no hmc
  have HRow := Lib.hid (hrow.alloc (.cells #[.int .u8 128] 5))
  have HR := Lib.hid (hR.alloc (.cells #[.int .u8 128] 5))
  have HM := Lib.hid (hM.alloc (.cells #[.int .u8 128] 5))
  have Hc : Hid (((Lib.bytesWorld (w.alloc (.cells #[.int .u8 0, .int .u8 0, .int .u8 0, .int .u8 0, .int .u8 0, .int .u8 0, .int .u8 0, .int .u8 0, .int .u8 0, .int .u8 0, .int .u8 0, .int .u8 0, .int .u8 0, .int .u8 0, .int .u8 0, .int .u8 0, .int .u8 0, .int .u8 0, .int .u8 0, .int .u8 0, .int .u8 0, .int .u8 0, .int .u8 0, .int .u8 0, .int .u8 0, .int .u8 0, .int .u8 0, .int .u8 0, .int .u8 0, .int .u8 0, .int .u8 0, .int .u8 0] 26)) 5 s).alloc (.cells #[.int .u8 128] 5)).cell? ⟨(Lib.bytesWorld (w.alloc (.cells #[.int .u8 0, .int .u8 0, .int .u8 0, .int .u8 0, .int .u8 0, .int .u8 0, .int .u8 0, .int .u8 0, .int .u8 0, .int .u8 0, .int .u8 0, .int .u8 0, .int .u8 0, .int .u8 0, .int .u8 0, .int .u8 0, .int .u8 0, .int .u8 0, .int .u8 0, .int .u8 0, .int .u8 0, .int .u8 0, .int .u8 0, .int .u8 0, .int .u8 0, .int .u8 0, .int .u8 0, .int .u8 0, .int .u8 0, .int .u8 0, .int .u8 0, .int .u8 0] 26)) 5 s).heap.size, 0, none⟩ = some (.int .u8 128)) := heap_cell (heap_alloc_new _ _) 0
  rw [World.size_alloc] at HRow
  clear hrow hmc hR hM
  go_enter Try.func16, Try.ntmps16
  have hsz : w.heap.size ≤ (Lib.bytesWorld (w.alloc (.cells #[.int .u8 0, .int .u8 0, .int .u8 0, .int .u8 0, .int .u8 0, .int .u8 0, .int .u8 0, .int .u8 0, .int .u8 0, .int .u8 0, .int .u8 0, .int .u8 0, .int .u8 0, .int .u8 0, .int .u8 0, .int .u8 0, .int .u8 0, .int .u8 0, .int .u8 0, .int .u8 0, .int .u8 0, .int .u8 0, .int .u8 0, .int .u8 0, .int .u8 0, .int .u8 0, .int .u8 0, .int .u8 0, .int .u8 0, .int .u8 0, .int .u8 0, .int .u8 0] 26)) 5 s).heap.size := by rw [Lib.bytesWorld_size, World.size_alloc]; omega
  have HSZ := Lib.hid hsz
  clear hsz
  go_wp2_with (at_builtin; refine wpList_append_one rfl _ _ 23 rfl 5 i9 (.int .u8 0) 1 Try.underlying23 hi9 hz9 hs9 hy9 rfl _ _ _ (by rfl) HRow.out _ 1 _ (by rfl) Hc.out rfl ?c1 ?c2 ?_)
  case c1 => unfold maxLen; omega
  case c2 => omega
  intro v' w4 hr4 hm4 hb4
  have hb5 : ∀ g, v'.ownBlock = some g → w.heap.size + 1 ≤ g := by
    intro g hg
    rcases hb4 with h | ⟨g', h, hh⟩
    · rw [hg] at h
      simp [Value.ownBlock] at h
      omega
    · rw [hg] at h
      cases h
      rw [Lib.bytesWorld_size, World.size_alloc] at hh
      omega
  have hR4 := HR.out.mods hm4 (by simp [Value.ownBlock])
  have hM4 := HM.out.trans hm4 (fun i hi => .inr (by simp [Value.ownBlock] at hi; omega))
  have hr5 : Row w4 1 v' (s.size + 1 + 0) ((padK s 0).map (Value.int .u8)) := by
    have e : (padK s 0).map (Value.int .u8) = (s.data.toList.map fun b => Value.int .u8 b.toNat) ++ [.int .u8 128] := by simp [padK, byts]
    rw [e]
    exact hr4
  clear hr4 hm4 hb4 HRow HR HM Hc hcv HSZ
  obtain ⟨N, hN⟩ : ∃ N, w.heap.size = N := ⟨_, rfl⟩
  rw [hN] at hR4 hb5 ⊢
  have bN : w.heap.size ≤ N := by omega
  clear hN
  go_wp2_with fail
  go_loopw [3] (fun v wr => ∃ k : Nat, k ≤ padZ s.size ∧ Row wr 1 v (s.size + 1 + k) ((padK s k).map (Value.int .u8)) ∧ (∀ g, v.ownBlock = some g → N + 1 ≤ g) ∧ Arr wr N (u8s (List.replicate 32 0)) ∧ Mods No w wr) (fun v _ => match v with | .slice _ n _ => 2000000 - n | _ => 0)
  case atStart => exact ⟨0, Nat.zero_le _, hr5, hb5, hR4, hM4⟩
  case round =>
    obtain ⟨k, hk, hr, hb, hR, hM⟩ := hrel
    clear hr5 hb5 hR4 hM4
    obtain ⟨A, c, rfl, -, -, hA⟩ := hr.shape
    by_cases hlt : k < padZ s.size
    · have ht : (((s.size : Int) + 1 + (k : Int)) % 64 != 56) = true := by
        rw [bne_iff_ne]
        unfold padZ at hlt hk
        omega
      have HRow := Lib.hid (hr.alloc (.cells #[.int .u8 0] 5))
      have HR := Lib.hid (hR.alloc (.cells #[.int .u8 0] 5))
      have HM := Lib.hid (hM.alloc (.cells #[.int .u8 0] 5))
      have Hc : Hid ((wr.alloc (.cells #[.int .u8 0] 5)).cell? ⟨wr.heap.size, 0, none⟩ = some (.int .u8 0)) := heap_cell (heap_alloc_new wr _) 0
      have Hb := Lib.hid hb
      have hNw := hR.lt (by rw [u8s_length, List.length_replicate]; omega)
      have hbN : w.heap.size ≤ N := bN
      clear hr hR hM hb
      go_wp2_with (at_builtin; refine wpList_append_one rfl _ _ 23 rfl 5 i9 (.int .u8 0) 1 Try.underlying23 hi9 hz9 hs9 hy9 rfl _ _ _ (by rfl) HRow.out _ 1 _ (by rfl) Hc.out rfl ?d1 ?d2 ?_)
      case d1 => unfold maxLen; omega
      case d2 => omega
      intro v' w4 hr4 hm4 hb4
      have hb5 : ∀ g, v'.ownBlock = some g → N + 1 ≤ g := by
        intro g hg
        rcases hb4 with h | ⟨g', h, hh⟩
        · exact Hb.out g (h ▸ hg)
        · rw [hg] at h
          cases h
          omega
      have hR4 := HR.out.mods hm4 (fun h => by have := Hb.out _ h; omega)
      have hM4 := HM.out.trans hm4 (fun i hi => .inr (by have := Hb.out i hi; omega))
      have hr5 : Row w4 1 v' (s.size + 1 + (k + 1)) ((padK s (k + 1)).map (Value.int .u8)) := by
        rw [padK_succ, List.map_append, show s.size + 1 + (k + 1) = s.size + 1 + k + 1 by omega]
        exact hr4
      clear hr4 hm4 hb4 HRow HR HM Hc Hb ht
      have H5 := Lib.hid hr5
      have H6 := Lib.hid hb5
      have H7 := Lib.hid hR4
      have H8 := Lib.hid hM4
      obtain ⟨A', c', rfl, -, -, -⟩ := hr5.shape
      clear hr5 hb5 hR4 hM4
      go_wp2_with fail
      go_roundw
      case rel => exact ⟨k + 1, by omega, H5.out, H6.out, H7.out, H8.out⟩
      case measure => simp; omega
    · obtain rfl : k = padZ s.size := by omega
      have ht : (((s.size : Int) + 1 + ((padZ s.size : Nat) : Int)) % 64 != 56) = false := by
        rw [bne_eq_false_iff_eq]
        unfold padZ
        omega
      rw [padK_full] at hr
      have hr0 : Row wr 1 (.slice A (s.size + 1 + padZ s.size) c) (s.size + 1 + padZ s.size + 0) ((padB s ++ lenTo s.size 0).map (Value.int .u8)) := by simpa [lenTo] using hr
      clear hr hlt hk
      generalize padZ s.size = z at hr0 ht hzl hb hA ⊢
      go_wp2_with fail
      clear ht
      go_loopw [3, 5] (fun v q wr => ∃ k : Nat, k ≤ 8 ∧ q = .int .i64 (7 - k) ∧ Row wr 1 v (s.size + 1 + z + k) ((padB s ++ lenTo s.size k).map (Value.int .u8)) ∧ (∀ g, v.ownBlock = some g → N + 1 ≤ g) ∧ Arr wr N (u8s (List.replicate 32 0)) ∧ Mods No w wr) (fun _ q _ => (intOf q + 1).toNat)
      case atStart => exact ⟨0, Nat.zero_le _, rfl, hr0, hb, hR, hM⟩
      case round =>
        obtain ⟨k, hk, rfl, gr, gb, gR, gM⟩ := hrel
        clear hr0 hb hR hM hA
        by_cases hlt : k < 8
        · have hk1 : (0 : Int) ≤ 7 - k := by omega
          obtain ⟨A, c, rfl, -, -, -⟩ := gr.shape
          have hr := gr
          have hb := gb
          have hR := gR
          have hM := gM
          clear gr gb gR gM
          have HRow := Lib.hid (hr.alloc (.cells #[.int .u8 ((s.size : Int) * 8 / 2 ^ (8 * (7 - k)) % 256)] 5))
          have HR := Lib.hid (hR.alloc (.cells #[.int .u8 ((s.size : Int) * 8 / 2 ^ (8 * (7 - k)) % 256)] 5))
          have HM := Lib.hid (hM.alloc (.cells #[.int .u8 ((s.size : Int) * 8 / 2 ^ (8 * (7 - k)) % 256)] 5))
          have Hc : Hid ((wr.alloc (.cells #[.int .u8 ((s.size : Int) * 8 / 2 ^ (8 * (7 - k)) % 256)] 5)).cell? ⟨wr.heap.size, 0, none⟩ = some (.int .u8 ((s.size : Int) * 8 / 2 ^ (8 * (7 - k)) % 256))) := heap_cell (heap_alloc_new wr _) 0
          have Hb := Lib.hid hb
          have hNw := hR.lt (by rw [u8s_length, List.length_replicate]; omega)
          have hbN : w.heap.size ≤ N := bN
          clear hr hR hM hb
          go_wp2_with (at_builtin; refine wpList_append_one rfl _ _ 23 rfl 5 i9 (.int .u8 0) 1 Try.underlying23 hi9 hz9 hs9 hy9 rfl _ _ _ (by rfl) HRow.out _ 1 _ (by rfl) Hc.out rfl ?e1 ?e2 ?_)
          case e1 => unfold maxLen; omega
          case e2 => omega
          intro v' w4 hr4 hm4 hb4
          have hb5 : ∀ g, v'.ownBlock = some g → N + 1 ≤ g := by
            intro g hg
            rcases hb4 with h | ⟨g', h, hh⟩
            · exact Hb.out g (h ▸ hg)
            · rw [hg] at h
              cases h
              omega
          have hR4 := HR.out.mods hm4 (fun h => by have := Hb.out _ h; omega)
          have hM4 := HM.out.trans hm4 (fun i hi => .inr (by have := Hb.out i hi; omega))
          have hr5 : Row w4 1 v' (s.size + 1 + z + (k + 1)) ((padB s ++ lenTo s.size (k + 1)).map (Value.int .u8)) := by
            rw [lenTo_succ, ← List.append_assoc, List.map_append, show s.size + 1 + z + (k + 1) = s.size + 1 + z + k + 1 by omega]
            have e : ((s.size : Int) * 8 / 2 ^ (8 * (7 - k)) % 256) = lenNum s.size (7 - k) := by
              unfold lenNum
              push_cast
              rfl
            rw [e] at hr4
            rw [List.map_append, List.append_assoc]
            exact hr4
          have H5 := Lib.hid hr5
          have H6 := Lib.hid hb5
          have H7 := Lib.hid hR4
          have H8 := Lib.hid hM4
          clear hr5 hb5 hR4 hM4 hr4 hm4 hb4 HRow HR HM Hc Hb
          go_wp2_with fail
          go_roundw
          case rel => exact ⟨k + 1, by omega, by go_num, H5.out, H6.out, H7.out, H8.out⟩
          case measure => simp [intOf]; omega
        · obtain rfl : k = 8 := by omega
          have hk1 : ¬ (0 : Int) ≤ 7 - (8 : Nat) := by omega
          obtain ⟨A, c, rfl, -, -, hA⟩ := gr.shape
          obtain ⟨g, rfl⟩ := hA (by omega)
          have hcv := gr.bytes (P := Try.prog) 23 5 9 Try.underlying23 Try.underlying5 Try.underlying9
          rw [show strOfNums (padB s ++ lenTo s.size 8) = m from HMD.out] at hcv
          clear gr gb hlt hk
          have HR := Lib.hid gR
          have HM := Lib.hid gM
          clear gR gM
          go_wp2_with fail
          have hN1 := HR.out.lt (by rw [u8s_length, List.length_replicate]; omega)
          have hH : Arr (wr.alloc (.cells #[.int .u32 1779033703, .int .u32 3144134277, .int .u32 1013904242, .int .u32 2773480762, .int .u32 1359893119, .int .u32 2600822924, .int .u32 528734635, .int .u32 1541459225] 63)) wr.heap.size (sumTo m 0).vals := Arr.new wr H0.vals 63
          have hR : Arr (wr.alloc (.cells #[.int .u32 1779033703, .int .u32 3144134277, .int .u32 1013904242, .int .u32 2773480762, .int .u32 1359893119, .int .u32 2600822924, .int .u32 528734635, .int .u32 1541459225] 63)) N (u8s (List.replicate 32 0)) := HR.out.alloc _
          have hM : Mods No w (wr.alloc (.cells #[.int .u32 1779033703, .int .u32 3144134277, .int .u32 1013904242, .int .u32 2773480762, .int .u32 1359893119, .int .u32 2600822924, .int .u32 528734635, .int .u32 1541459225] 63)) := HM.out.alloc _
          have n7 : N ≠ wr.heap.size := by omega
          have b7 : w.heap.size ≤ wr.heap.size := HM.out.size
          clear HR HM hcv hA hk1
          generalize wr.alloc (.cells #[.int .u32 1779033703, .int .u32 3144134277, .int .u32 1013904242, .int .u32 2773480762, .int .u32 1359893119, .int .u32 2600822924, .int .u32 528734635, .int .u32 1541459225] 63) = W7 at hH hR hM ⊢
          generalize wr.heap.size = B7 at hH n7 b7 ⊢
          go_loopw [8] (fun q wr => ∃ k : Nat, k ≤ n ∧ q = .int .i64 (64 * k) ∧ Arr wr B7 (sumTo m k).vals ∧ Arr wr N (u8s (List.replicate 32 0)) ∧ Mods No w wr) (fun q _ => m.size - (intOf q).toNat)
          case atStart => exact ⟨0, Nat.zero_le _, rfl, hH, hR, hM⟩
          case round =>
            obtain ⟨k, hk, rfl, gH, gR, gM⟩ := hrel
            clear hH hR hM
            by_cases hlt : k < n
            · obtain ⟨a, ha⟩ : ∃ a : Nat, a = 64 * k := ⟨_, rfl⟩
              have qa : 64 * (k : Int) = (a : Int) := by omega
              have hml : (a : Int) < m.size := by rw [HMS.out]; omega
              have hml2 : (a : Int) + 64 ≤ m.size := by rw [HMS.out]; omega
              have hml3 : a + 64 ≤ m.size := by rw [HMS.out]; omega
              have hmx : m.size ≤ 100000000 := by
                rw [← HMD.out, padS_size, padL_length]
                have : padZ s.size < 64 := by unfold padZ; omega
                omega
              have hbk : m.extract a (a + 64) = blk m k := by rw [ha]; rfl
              have hbs := blk_size m k (by rw [HMS.out]; omega)
              have hok := sumTo_ok m k
              have HC : Hid (comp (blk m k) (sumTo m k) = sumTo m (k + 1)) := rfl
              have HA := Lib.hid ha
              clear ha
              generalize sumTo m k = h0 at gH hok HC
              go_wp2_with fail
              refine wp_region_ext 7 (by kernel_rfl) (by kernel_rfl) ?_
              simp only [List.take_succ_cons, List.take_zero, List.drop_succ_cons, List.drop_zero, List.take_nil, List.drop_nil]
              repeat (first | go_big_quiet_skip | (go_big_quiet_want; first | (refine quiet_load_row 63 (.tmp 7) rfl B7 0 (by rfl) h0.vals _ (fun _ ⟨x, e⟩ => e ▸ (gH.ext x).range) Try.underlying63 rfl (info8 h0) ?_; go_big_quiet_on; simp only [Act.put, List.setIfInBounds_toArray, List.set_cons_succ, List.set_cons_zero]) | (go_big_quiet_op; first | go_big_quiet_on | go_big_quiet_call ((go_at_call 39; exact Ext.call _ (block_any _ hbs h0 hok _))))))
              refine wpQuiet_nil ?_
              intro x
              obtain ⟨r, hr⟩ : ∃ r, comp (blk m k) h0 = r := ⟨_, rfl⟩
              rw [hr]
              have HC2 := Lib.hid (hr.symm.trans HC.out)
              have HT := Lib.hid ((gH.ext x).there' (vs := r.vals.toArray) rfl)
              have HI := Lib.hid (info8' r)
              have HR1 := Lib.hid ((gR.ext x).farCells B7 n7 r.vals)
              have HH1 := Lib.hid ((gH.ext x).stored r.vals rfl)
              have HM1 := Lib.hid (mods_setCells (F := No) (a := w) B7 (.inr b7) r.vals 0 _ (gM.no x.m))
              clear hr HC gR gH gM
              go_wp2_with ((with_reducible refine wpList_store_mid ?_ 63 (.tmp 7) (.tmp 54) ?_ B7 0 r.vals.toArray ?_ ?_ HT.out HI.out (vals_one _) ?_); rfl; rfl; rfl; rfl)
              go_roundw
              case rel =>
                refine ⟨k + 1, by omega, ?_, ?_, HR1.out, HM1.out⟩
                · have := HA.out
                  simp
                  omega
                · rw [← HC2.out]; exact HH1.out
              case measure => simp [intOf]; omega
            · obtain rfl : k = n := by omega
              have hml : ¬ (64 * (k : Int) < m.size) := by rw [HMS.out]; omega
              obtain ⟨r, hr⟩ : ∃ r, sumTo m k = r := ⟨_, rfl⟩
              rw [hr] at gH
              have HE := Lib.hid hr
              clear hr hlt hk
              go_wp2_with fail
              have hD : Arr (wr.alloc (.cells #[.int .u8 0, .int .u8 0, .int .u8 0, .int .u8 0, .int .u8 0, .int .u8 0, .int .u8 0, .int .u8 0, .int .u8 0, .int .u8 0, .int .u8 0, .int .u8 0, .int .u8 0, .int .u8 0, .int .u8 0, .int .u8 0, .int .u8 0, .int .u8 0, .int .u8 0, .int .u8 0, .int .u8 0, .int .u8 0, .int .u8 0, .int .u8 0, .int .u8 0, .int .u8 0, .int .u8 0, .int .u8 0, .int .u8 0, .int .u8 0, .int .u8 0, .int .u8 0] 26)) wr.heap.size (u8s (dgK r.l 0)) := Arr.new wr (u8s (List.replicate 32 0)) 26
              have hH := gH.alloc (.cells #[.int .u8 0, .int .u8 0, .int .u8 0, .int .u8 0, .int .u8 0, .int .u8 0, .int .u8 0, .int .u8 0, .int .u8 0, .int .u8 0, .int .u8 0, .int .u8 0, .int .u8 0, .int .u8 0, .int .u8 0, .int .u8 0, .int .u8 0, .int .u8 0, .int .u8 0, .int .u8 0, .int .u8 0, .int .u8 0, .int .u8 0, .int .u8 0, .int .u8 0, .int .u8 0, .int .u8 0, .int .u8 0, .int .u8 0, .int .u8 0, .int .u8 0, .int .u8 0] 26)
              have hR := gR.alloc (.cells #[.int .u8 0, .int .u8 0, .int .u8 0, .int .u8 0, .int .u8 0, .int .u8 0, .int .u8 0, .int .u8 0, .int .u8 0, .int .u8 0, .int .u8 0, .int .u8 0, .int .u8 0, .int .u8 0, .int .u8 0, .int .u8 0, .int .u8 0, .int .u8 0, .int .u8 0, .int .u8 0, .int .u8 0, .int .u8 0, .int .u8 0, .int .u8 0, .int .u8 0, .int .u8 0, .int .u8 0, .int .u8 0, .int .u8 0, .int .u8 0, .int .u8 0, .int .u8 0] 26)
              have hM := gM.alloc (.cells #[.int .u8 0, .int .u8 0, .int .u8 0, .int .u8 0, .int .u8 0, .int .u8 0, .int .u8 0, .int .u8 0, .int .u8 0, .int .u8 0, .int .u8 0, .int .u8 0, .int .u8 0, .int .u8 0, .int .u8 0, .int .u8 0, .int .u8 0, .int .u8 0, .int .u8 0, .int .u8 0, .int .u8 0, .int .u8 0, .int .u8 0, .int .u8 0, .int .u8 0, .int .u8 0, .int .u8 0, .int .u8 0, .int .u8 0, .int .u8 0, .int .u8 0, .int .u8 0] 26)
              have n9 : N ≠ wr.heap.size := by have := gR.lt (by rw [u8s_length, List.length_replicate]; omega); omega
              have n79 : B7 ≠ wr.heap.size := by have := gH.lt (by rw [vals_length]; omega); omega
              have b9 : w.heap.size ≤ wr.heap.size := gM.size
              clear gH gR gM hml HMS HMD
              generalize wr.alloc (.cells #[.int .u8 0, .int .u8 0, .int .u8 0, .int .u8 0, .int .u8 0, .int .u8 0, .int .u8 0, .int .u8 0, .int .u8 0, .int .u8 0, .int .u8 0, .int .u8 0, .int .u8 0, .int .u8 0, .int .u8 0, .int .u8 0, .int .u8 0, .int .u8 0, .int .u8 0, .int .u8 0, .int .u8 0, .int .u8 0, .int .u8 0, .int .u8 0, .int .u8 0, .int .u8 0, .int .u8 0, .int .u8 0, .int .u8 0, .int .u8 0, .int .u8 0, .int .u8 0] 26) = W9 at hD hH hR hM ⊢
              generalize wr.heap.size = B9 at hD n9 n79 b9 ⊢
              go_loopw [10] (fun q wr => ∃ k : Nat, k ≤ 32 ∧ q = .int .i64 k ∧ Arr wr B9 (u8s (dgK r.l k)) ∧ Arr wr B7 r.vals ∧ Arr wr N (u8s (List.replicate 32 0)) ∧ Mods No w wr) (fun q _ => 32 - (intOf q).toNat)
              case atStart => exact ⟨0, Nat.zero_le _, rfl, hD, hH, hR, hM⟩
              case round =>
                obtain ⟨j, hj, rfl, gD, gH, gR, gM⟩ := hrel
                clear hD hH hR hM
                by_cases hlt : j < 32
                · have hj1 : (j : Int) < 32 := by omega
                  obtain ⟨q4, e4⟩ : ∃ q4 : Nat, q4 = j / 4 := ⟨_, rfl⟩
                  have h4 : q4 < 8 := by omega
                  have c7 : wr.cell? ⟨B7, q4, none⟩ = some (.int .u32 (r.l.getD q4 0)) := (gH q4 _ (vals_at r q4 h4)).1
                  rw [e4] at c7
                  have lD : j < (u8s (dgK r.l j)).length := by rw [u8s_length, dgK_length]; exact hlt
                  obtain ⟨d0, f0⟩ := gD j _ (List.getElem?_eq_getElem lD)
                  generalize (u8s (dgK r.l j))[j] = y0 at d0
                  have HS := Lib.hid (dgK_set r.l j)
                  have HD := Lib.hid gD
                  have HH := Lib.hid gH
                  have HR := Lib.hid gR
                  have HM := Lib.hid gM
                  clear lD gD gH gR gM e4 h4
                  generalize r.l.getD (j / 4) 0 = X at c7 HS
                  have hp0 : 0 ≤ 24 - 8 * ((j : Int) % 4) := by omega
                  go_wp2_with fail
                  go_roundw
                  case rel =>
                    refine ⟨j + 1, by omega, by go_num, ?_, HH.out.far ⟨B9, j, none⟩ n79 _, HR.out.far ⟨B9, j, none⟩ n9 _, HM.out.setCell (p := ⟨B9, j, none⟩) (.inr b9) _⟩
                    rw [← HS.out _ rfl]
                    exact HD.out.set j _
                  case measure => simp [intOf]; omega
                · obtain rfl : j = 32 := by omega
                  rw [dgK_full] at gD
                  have hl := dgTo_length r.l 8
                  obtain ⟨L, hL⟩ : ∃ L, dgTo r.l 8 = L := ⟨_, rfl⟩
                  rw [hL] at gD hl
                  have HE2 := Lib.hid hL
                  have hst := gR.stored (u8s L) (by rw [u8s_length, u8s_length, hl, List.length_replicate])
                  have hl' := run_loadVar_mid (P := Try.prog) (wr.setCells N 0 (u8s L)) N 0 26 (u8s L) _ hst.range Try.underlying26 rfl (info32 hl)
                  have HL := Lib.hid hl'
                  have HM := Lib.hid (mods_setCells (F := No) (a := w) N (.inr bN) (u8s L) 0 wr gM)
                  have HT := Lib.hid (gR.there' (vs := (u8s L).toArray) (by rw [List.size_toArray, u8s_length, u8s_length, hl, List.length_replicate]))
                  have HI := Lib.hid (info32 hl)
                  have HI' := Lib.hid (info32' hl)
                  have HR := Lib.hid gD.range
                  clear hl' hst gR gM gD gH hL hl hj hlt
                  go_wp2_with (first | ((with_reducible refine wpList_load_mid ?_ 26 (.tmp 9) ?_ B9 0 ?_ (u8s L) _ HR.out Try.underlying26 rfl HI.out ?_); rfl; rfl; rfl) | ((with_reducible refine wpList_store_mid ?_ 26 (.tmp 2) (.tmp 72) ?_ N 0 (u8s L).toArray ?_ ?_ HT.out HI'.out (u8s_one _) ?_); rfl; rfl; rfl; rfl))
                  refine bodyPost_ret (v := .agg (u8s L).toArray) ?_ rfl ⟨by rw [HE.out, HE2.out], HM.out⟩
                  exact results_cell1 Try.results16 (by rfl) HL.out

theorem refSum_any (s : ByteArray) (hs : s.size ≤ 1000000) (w : World) :
    Calls Try.prog 16 #[.string s] w fun e w' => e = .returned (.agg (u8s (shaL s)).toArray) ∧ Mods No w w' :=
  refSum_gen s (padS s) ((padS s).size / 64) rfl (by have := padL_mod s; rw [← padS_size] at this; omega) hs w
end Go.Proofs.Ytamdanpkkcdhbaa
