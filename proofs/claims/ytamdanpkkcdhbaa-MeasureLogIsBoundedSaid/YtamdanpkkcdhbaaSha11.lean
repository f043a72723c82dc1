/- SHA-256: the walk over Sum. -/
import Derived.Test.YtamdanpkkcdhbaaSha10
set_option linter.unusedVariables false
set_option linter.unusedSimpArgs false
namespace Go.Proofs.Ytamdanpkkcdhbaa
open Go.RowKit Go.PF

theorem index8 (h : St8) (k : Nat) (hk : k < 8) (w : World) : (Instr.index 63 (.agg h.vals.toArray) (.int .i64 (k : Int))).run Try.prog w = .ok (.int .u32 (h.l.getD k 0)) w := by
  match k, hk with
  | 0, _ => exact rfl
  | 1, _ => exact rfl
  | 2, _ => exact rfl
  | 3, _ => exact rfl
  | 4, _ => exact rfl
  | 5, _ => exact rfl
  | 6, _ => exact rfl
  | 7, _ => exact rfl

set_option maxHeartbeats 2000000 in
set_option maxRecDepth 100000 in
theorem sum_gen (s m : ByteArray) (n : Nat) (hm : m.size = 64 * n) (hs : s.size ≤ 1000000) (hpad : ∀ w, Calls Try.prog 37 #[.string s] w fun e w' => e = .returned (.string m) ∧ Mods No w w') (w : World) :
    Calls Try.prog 15 #[.string s] w fun e w' => e = .returned (.agg (u8s (dgTo (sumTo m n).l 8)).toArray) ∧ Mods No w w' := by
  have HP := Lib.hid hpad
  have HMS := Lib.hid hm
  clear hpad hm
  go_enter Try.func15, Try.ntmps15
  go_wp2_with fail
  have hR : Arr ((w.alloc (.cells #[.int .u8 0, .int .u8 0, .int .u8 0, .int .u8 0, .int .u8 0, .int .u8 0, .int .u8 0, .int .u8 0, .int .u8 0, .int .u8 0, .int .u8 0, .int .u8 0, .int .u8 0, .int .u8 0, .int .u8 0, .int .u8 0, .int .u8 0, .int .u8 0, .int .u8 0, .int .u8 0, .int .u8 0, .int .u8 0, .int .u8 0, .int .u8 0, .int .u8 0, .int .u8 0, .int .u8 0, .int .u8 0, .int .u8 0, .int .u8 0, .int .u8 0, .int .u8 0] 26)).alloc (.cells #[.int .u32 1779033703, .int .u32 3144134277, .int .u32 1013904242, .int .u32 2773480762, .int .u32 1359893119, .int .u32 2600822924, .int .u32 528734635, .int .u32 1541459225] 63)) w.heap.size (u8s (List.replicate 32 0)) := (Arr.new w (u8s (List.replicate 32 0)) 26).alloc _
  have hH : Arr ((w.alloc (.cells #[.int .u8 0, .int .u8 0, .int .u8 0, .int .u8 0, .int .u8 0, .int .u8 0, .int .u8 0, .int .u8 0, .int .u8 0, .int .u8 0, .int .u8 0, .int .u8 0, .int .u8 0, .int .u8 0, .int .u8 0, .int .u8 0, .int .u8 0, .int .u8 0, .int .u8 0, .int .u8 0, .int .u8 0, .int .u8 0, .int .u8 0, .int .u8 0, .int .u8 0, .int .u8 0, .int .u8 0, .int .u8 0, .int .u8 0, .int .u8 0, .int .u8 0, .int .u8 0] 26)).alloc (.cells #[.int .u32 1779033703, .int .u32 3144134277, .int .u32 1013904242, .int .u32 2773480762, .int .u32 1359893119, .int .u32 2600822924, .int .u32 528734635, .int .u32 1541459225] 63)) (w.heap.size + 1) (sumTo m 0).vals := by
    have := Arr.new (w.alloc (.cells #[.int .u8 0, .int .u8 0, .int .u8 0, .int .u8 0, .int .u8 0, .int .u8 0, .int .u8 0, .int .u8 0, .int .u8 0, .int .u8 0, .int .u8 0, .int .u8 0, .int .u8 0, .int .u8 0, .int .u8 0, .int .u8 0, .int .u8 0, .int .u8 0, .int .u8 0, .int .u8 0, .int .u8 0, .int .u8 0, .int .u8 0, .int .u8 0, .int .u8 0, .int .u8 0, .int .u8 0, .int .u8 0, .int .u8 0, .int .u8 0, .int .u8 0, .int .u8 0] 26)) H0.vals 63
    rw [World.size_alloc] at this
    exact this
  have hM : Mods No w ((w.alloc (.cells #[.int .u8 0, .int .u8 0, .int .u8 0, .int .u8 0, .int .u8 0, .int .u8 0, .int .u8 0, .int .u8 0, .int .u8 0, .int .u8 0, .int .u8 0, .int .u8 0, .int .u8 0, .int .u8 0, .int .u8 0, .int .u8 0, .int .u8 0, .int .u8 0, .int .u8 0, .int .u8 0, .int .u8 0, .int .u8 0, .int .u8 0, .int .u8 0, .int .u8 0, .int .u8 0, .int .u8 0, .int .u8 0, .int .u8 0, .int .u8 0, .int .u8 0, .int .u8 0] 26)).alloc (.cells #[.int .u32 1779033703, .int .u32 3144134277, .int .u32 1013904242, .int .u32 2773480762, .int .u32 1359893119, .int .u32 2600822924, .int .u32 528734635, .int .u32 1541459225] 63)) := ((Mods.refl _ _).alloc _).alloc _
  generalize (w.alloc (.cells #[.int .u8 0, .int .u8 0, .int .u8 0, .int .u8 0, .int .u8 0, .int .u8 0, .int .u8 0, .int .u8 0, .int .u8 0, .int .u8 0, .int .u8 0, .int .u8 0, .int .u8 0, .int .u8 0, .int .u8 0, .int .u8 0, .int .u8 0, .int .u8 0, .int .u8 0, .int .u8 0, .int .u8 0, .int .u8 0, .int .u8 0, .int .u8 0, .int .u8 0, .int .u8 0, .int .u8 0, .int .u8 0, .int .u8 0, .int .u8 0, .int .u8 0, .int .u8 0] 26)).alloc (.cells #[.int .u32 1779033703, .int .u32 3144134277, .int .u32 1013904242, .int .u32 2773480762, .int .u32 1359893119, .int .u32 2600822924, .int .u32 528734635, .int .u32 1541459225] 63) = W at hR hH hM ⊢
  refine (HP.out _).mono ?_
  rintro e w1 ⟨rfl, m1⟩
  replace hR := hR.mods m1 id
  replace hH := hH.mods m1 id
  replace hM := hM.no m1
  clear m1
  obtain ⟨N, hN⟩ : ∃ N, w.heap.size = N := ⟨_, rfl⟩
  rw [hN] at hR hH ⊢
  have bN : w.heap.size ≤ N := by omega
  clear hN
  go_wp2_with fail
  go_loopw [4] (fun v wr => ∃ k : Nat, k ≤ n ∧ v = .string (tl m k) ∧ Arr wr N (u8s (List.replicate 32 0)) ∧ Arr wr (N + 1) (sumTo m k).vals ∧ Mods No w wr) (fun v _ => match v with | .string p => p.size | _ => 0)
  case atStart => exact ⟨0, Nat.zero_le _, by rw [tl_zero], hR, hH, hM⟩
  case round =>
    obtain ⟨k, hk, rfl, gR, gH, gM⟩ := hrel
    clear hR hH hM
    by_cases hlt : k < n
    · have hS : (tl m k).size = 64 * (n - k) := by rw [tl_size, HMS.out]; omega
      have hbk := tl_blk m k (by rw [HMS.out]; omega)
      have hnx := tl_next m k (by rw [HMS.out]; omega)
      have hbs := blk_size m k (by rw [HMS.out]; omega)
      have hok := sumTo_ok m k
      have hcomp : comp (blk m k) (sumTo m k) = sumTo m (k + 1) := rfl
      have hne2 : (tl m k).toList.isEmpty = false := notEmpty (by omega)
      have hge : 64 ≤ (tl m k).size := by omega
      have HS := Lib.hid hS
      have HNX := Lib.hid hnx
      have HC := Lib.hid hcomp
      clear hS
      generalize tl m k = p at *
      generalize sumTo m k = h0 at gH hok HC
      go_wp2_with fail
      refine wp_region_ext 4 (by kernel_rfl) (by kernel_rfl) ?_
      simp only [List.take_succ_cons, List.take_zero, List.drop_succ_cons, List.drop_zero, List.take_nil, List.drop_nil]
      repeat (first | go_big_quiet_skip | (go_big_quiet_want; first | (refine quiet_load_row 63 (.tmp 3) rfl (N + 1) 0 (by rfl) h0.vals _ (fun _ ⟨x, e⟩ => e ▸ (gH.ext x).range) Try.underlying63 rfl (info8 h0) ?_; go_big_quiet_on; simp only [Act.put, List.setIfInBounds_toArray, List.set_cons_succ, List.set_cons_zero]) | (go_big_quiet_op; first | go_big_quiet_on | go_big_quiet_call ((go_at_call 38; exact Ext.call _ (compress_any _ hbs h0 hok _))))))
      refine wpQuiet_nil ?_
      intro x
      clear hcomp hnx
      obtain ⟨r, hr⟩ : ∃ r, comp (blk m k) h0 = r := ⟨_, rfl⟩
      rw [hr]
      have HC2 := Lib.hid (hr.symm.trans HC.out)
      have HT := Lib.hid ((gH.ext x).there' (vs := r.vals.toArray) rfl)
      have HI := Lib.hid (info8' r)
      have HR1 := Lib.hid ((gR.ext x).farCells (N + 1) (by omega) r.vals)
      have HH1 := Lib.hid ((gH.ext x).stored r.vals rfl)
      have HM1 := Lib.hid (mods_setCells (F := No) (a := w) (N + 1) (.inr (by omega)) r.vals 0 _ (gM.no x.m))
      clear hr HC gR gH gM
      go_wp2_with ((with_reducible refine wpList_store_mid ?_ 63 (.tmp 3) (.tmp 18) ?_ (N + 1) 0 r.vals.toArray ?_ ?_ HT.out HI.out (vals_one _) ?_); rfl; rfl; rfl; rfl)
      have hnx := HNX.out
      clear HNX
      go_roundw
      case rel =>
        refine ⟨k + 1, by omega, ?_, HR1.out, ?_, HM1.out⟩
        · first | rw [hnx] | (simp; exact hnx)
        · rw [← HC2.out]; exact HH1.out
      case measure => simp; omega
    · obtain rfl : k = n := by omega
      have hS : (tl m k).size = 0 := by rw [tl_size, HMS.out]; omega
      have hne2 : (tl m k).toList.isEmpty = true := isEmpty' hS
      obtain ⟨r, hr⟩ : ∃ r, sumTo m k = r := ⟨_, rfl⟩
      rw [hr] at gH
      have HE := Lib.hid hr
      clear hr hS hlt hk
      generalize tl m k = p at hne2 ⊢
      have hG := gH.alloc (.cells #[.int .u8 0, .int .u8 0, .int .u8 0, .int .u8 0, .int .u8 0, .int .u8 0, .int .u8 0, .int .u8 0, .int .u8 0, .int .u8 0, .int .u8 0, .int .u8 0, .int .u8 0, .int .u8 0, .int .u8 0, .int .u8 0, .int .u8 0, .int .u8 0, .int .u8 0, .int .u8 0, .int .u8 0, .int .u8 0, .int .u8 0, .int .u8 0, .int .u8 0, .int .u8 0, .int .u8 0, .int .u8 0, .int .u8 0, .int .u8 0, .int .u8 0, .int .u8 0] 26)
      have hRR := gR.alloc (.cells #[.int .u8 0, .int .u8 0, .int .u8 0, .int .u8 0, .int .u8 0, .int .u8 0, .int .u8 0, .int .u8 0, .int .u8 0, .int .u8 0, .int .u8 0, .int .u8 0, .int .u8 0, .int .u8 0, .int .u8 0, .int .u8 0, .int .u8 0, .int .u8 0, .int .u8 0, .int .u8 0, .int .u8 0, .int .u8 0, .int .u8 0, .int .u8 0, .int .u8 0, .int .u8 0, .int .u8 0, .int .u8 0, .int .u8 0, .int .u8 0, .int .u8 0, .int .u8 0] 26)
      have hMM := gM.alloc (.cells #[.int .u8 0, .int .u8 0, .int .u8 0, .int .u8 0, .int .u8 0, .int .u8 0, .int .u8 0, .int .u8 0, .int .u8 0, .int .u8 0, .int .u8 0, .int .u8 0, .int .u8 0, .int .u8 0, .int .u8 0, .int .u8 0, .int .u8 0, .int .u8 0, .int .u8 0, .int .u8 0, .int .u8 0, .int .u8 0, .int .u8 0, .int .u8 0, .int .u8 0, .int .u8 0, .int .u8 0, .int .u8 0, .int .u8 0, .int .u8 0, .int .u8 0, .int .u8 0] 26)
      have hD : Arr (wr.alloc (.cells #[.int .u8 0, .int .u8 0, .int .u8 0, .int .u8 0, .int .u8 0, .int .u8 0, .int .u8 0, .int .u8 0, .int .u8 0, .int .u8 0, .int .u8 0, .int .u8 0, .int .u8 0, .int .u8 0, .int .u8 0, .int .u8 0, .int .u8 0, .int .u8 0, .int .u8 0, .int .u8 0, .int .u8 0, .int .u8 0, .int .u8 0, .int .u8 0, .int .u8 0, .int .u8 0, .int .u8 0, .int .u8 0, .int .u8 0, .int .u8 0, .int .u8 0, .int .u8 0] 26)) wr.heap.size (u8s (dgTo r.l 0)) := Arr.new wr (u8s (List.replicate 32 0)) 26
      have hD1 : N ≠ wr.heap.size := by have := gR.lt (by rw [u8s_length, List.length_replicate]; omega); omega
      have hDw : w.heap.size ≤ wr.heap.size := gM.size
      have HG := Lib.hid hG.range
      have HI := Lib.hid (info8 r)
      have HRR := Lib.hid hRR
      have HMM := Lib.hid hMM
      have HD := Lib.hid hD
      clear gH gR gM hG hRR hMM hD
      go_wp2_with ((with_reducible refine wpList_load_mid ?_ 63 (.tmp 3) ?_ (N + 1) 0 ?_ r.vals _ HG.out Try.underlying63 rfl HI.out ?_); rfl; rfl; rfl)
      have hRR := HRR.out
      have hMM := HMM.out
      have hD := HD.out
      clear HG HI HRR HMM HD
      generalize wr.alloc (.cells #[.int .u8 0, .int .u8 0, .int .u8 0, .int .u8 0, .int .u8 0, .int .u8 0, .int .u8 0, .int .u8 0, .int .u8 0, .int .u8 0, .int .u8 0, .int .u8 0, .int .u8 0, .int .u8 0, .int .u8 0, .int .u8 0, .int .u8 0, .int .u8 0, .int .u8 0, .int .u8 0, .int .u8 0, .int .u8 0, .int .u8 0, .int .u8 0, .int .u8 0, .int .u8 0, .int .u8 0, .int .u8 0, .int .u8 0, .int .u8 0, .int .u8 0, .int .u8 0] 26) = W5 at hRR hMM hD ⊢
      generalize wr.heap.size = B5 at hD hD1 hDw ⊢
      clear hne2 HMS
      go_loopw [20] (fun q wr => ∃ k : Nat, k ≤ 8 ∧ q = .int .i64 k ∧ Arr wr B5 (u8s (dgTo r.l k)) ∧ Arr wr N (u8s (List.replicate 32 0)) ∧ Mods No w wr) (fun q _ => 8 - (intOf q).toNat)
      case atStart => exact ⟨0, Nat.zero_le _, rfl, hD, hRR, hMM⟩
      case round =>
        obtain ⟨j, hj, rfl, gD, gR, gM⟩ := hrel
        clear hD hRR hMM
        by_cases hlt : j < 8
        · have hj1 : (j : Int) < 8 := by omega
          have hix := index8 r j hlt
          obtain ⟨n0, e0⟩ : ∃ n : Nat, n = 4 * j := ⟨_, rfl⟩
          obtain ⟨n1, e1⟩ : ∃ n : Nat, n = 4 * j + 1 := ⟨_, rfl⟩
          obtain ⟨n2, e2⟩ : ∃ n : Nat, n = 4 * j + 2 := ⟨_, rfl⟩
          obtain ⟨n3, e3⟩ : ∃ n : Nat, n = 4 * j + 3 := ⟨_, rfl⟩
          have q0 : 4 * (j : Int) = (n0 : Int) := by omega
          have q1 : (n0 : Int) + 1 = (n1 : Int) := by omega
          have q2 : (n0 : Int) + 2 = (n2 : Int) := by omega
          have q3 : (n0 : Int) + 3 = (n3 : Int) := by omega
          have i0 : (n0 : Int) < 32 := by omega
          have i1 : (n1 : Int) < 32 := by omega
          have i2 : (n2 : Int) < 32 := by omega
          have i3 : (n3 : Int) < 32 := by omega
          have x01 : n0 ≠ n1 := by omega
          have x02 : n0 ≠ n2 := by omega
          have x03 : n0 ≠ n3 := by omega
          have x12 : n1 ≠ n2 := by omega
          have x13 : n1 ≠ n3 := by omega
          have x23 : n2 ≠ n3 := by omega
          have lD : (u8s (dgTo r.l j)).length = 32 := by rw [u8s_length, dgTo_length]
          have c0 := gD n0 _ (List.getElem?_eq_getElem (by omega))
          have c1 := gD n1 _ (List.getElem?_eq_getElem (by omega))
          have c2 := gD n2 _ (List.getElem?_eq_getElem (by omega))
          have c3 := gD n3 _ (List.getElem?_eq_getElem (by omega))
          obtain ⟨d0, f0⟩ := c0
          obtain ⟨d1, f1⟩ := c1
          obtain ⟨d2, f2⟩ := c2
          obtain ⟨d3, f3⟩ := c3
          generalize (u8s (dgTo r.l j))[n0] = y0 at d0
          generalize (u8s (dgTo r.l j))[n1] = y1 at d1
          generalize (u8s (dgTo r.l j))[n2] = y2 at d2
          generalize (u8s (dgTo r.l j))[n3] = y3 at d3
          have HS := Lib.hid (dgTo_set r.l j hlt)
          rw [← e1, ← e2, ← e3, ← e0] at HS
          have HD := Lib.hid gD
          clear e0 e1 e2 e3 lD gD
          generalize r.l.getD j 0 = X at hix HS
          go_wp2_with fail
          go_roundw
          case rel =>
            refine ⟨j + 1, by omega, by go_num, ?_, (((gR.far ⟨B5, n0, none⟩ hD1 _).far ⟨B5, n1, none⟩ hD1 _).far ⟨B5, n2, none⟩ hD1 _).far ⟨B5, n3, none⟩ hD1 _,
              (((gM.setCell (p := ⟨B5, n0, none⟩) (.inr hDw) _).setCell (p := ⟨B5, n1, none⟩) (.inr hDw) _).setCell (p := ⟨B5, n2, none⟩) (.inr hDw) _).setCell (p := ⟨B5, n3, none⟩) (.inr hDw) _⟩
            rw [← HS.out (X / 16777216 % 256) (X / 65536 % 256) (X / 256 % 256) (X % 256) ⟨by simp [byteOf], by simp [byteOf], by simp [byteOf], by simp [byteOf]⟩]
            exact (((HD.out.set n0 _).set n1 _).set n2 _).set n3 _
          case measure => simp [intOf]; omega
        · obtain rfl : j = 8 := by omega
          have hl := dgTo_length r.l 8
          obtain ⟨L, hL⟩ : ∃ L, dgTo r.l 8 = L := ⟨_, rfl⟩
          rw [hL] at gD hl
          have HE2 := Lib.hid hL
          have hst := gR.stored (u8s L) (by rw [u8s_length, u8s_length, hl, List.length_replicate])
          have hl' := run_loadVar_mid (P := Try.prog) (wr.setCells N 0 (u8s L)) N 0 26 (u8s L) _ hst.range Try.underlying26 rfl (info32 hl)
          have HL := Lib.hid hl'
          have HM := Lib.hid (mods_setCells (F := No) (a := w) N (.inr bN) (u8s L) 0 wr gM)
          have HT := Lib.hid (gR.there' (vs := (u8s L).toArray) (by rw [List.size_toArray, u8s_length, u8s_length, hl, List.length_replicate]))
          have HI := Lib.hid (info32 hl)
          have HI' := Lib.hid (info32' hl)
          have HR := Lib.hid gD.range
          clear hl' hst gR gM gD hL hl hj hlt
          go_wp2_with (first | ((with_reducible refine wpList_load_mid ?_ 26 (.tmp 5) ?_ B5 0 ?_ (u8s L) _ HR.out Try.underlying26 rfl HI.out ?_); rfl; rfl; rfl) | ((with_reducible refine wpList_store_mid ?_ 26 (.tmp 2) (.tmp 51) ?_ N 0 (u8s L).toArray ?_ ?_ HT.out HI'.out (u8s_one _) ?_); rfl; rfl; rfl; rfl))
          refine bodyPost_ret (v := .agg (u8s L).toArray) ?_ rfl ⟨by rw [HE.out, HE2.out], HM.out⟩
          exact results_cell1 Try.results15 (by rfl) HL.out

theorem sum_any (s : ByteArray) (hs : s.size ≤ 1000000) (w : World) :
    Calls Try.prog 15 #[.string s] w fun e w' => e = .returned (.agg (u8s (shaL s)).toArray) ∧ Mods No w w' :=
  sum_gen s (padS s) ((padS s).size / 64) (by have := padL_mod s; rw [← padS_size] at this; omega) hs (fun w => padded_any s hs w) w
end Go.Proofs.Ytamdanpkkcdhbaa
