/- The statement MeasureReplays: replaying the events of a log yields its registers; a prefix of the calls yields a prefix of the events. -/
import Derived.Test.YtamdanpkkcdhbaaMs1
set_option linter.unusedVariables false
set_option linter.unusedSimpArgs false
namespace Go.Proofs.Ytamdanpkkcdhbaa
open Go.RowKit Go.PF

theorem sl_take {w : World} {A : Option Addr} {len : Nat} {l : List MCall} (h : Sl w 4 A len (l.flatMap mCells)) (hl : l.length = len) {k : Nat} (hk : k ≤ len) : Sl w 4 A k ((l.take k).flatMap mCells) := by
  have e : (l.take k).flatMap mCells = (l.flatMap mCells).take (k * 4) := by
    clear h hl hk
    induction l generalizing k with
    | nil => simp
    | cons e l ih =>
      cases k with
      | zero => simp
      | succ k =>
        have h1 : (mCells e).take ((k + 1) * 4) = mCells e := List.take_of_length_le (by show 4 ≤ _; omega)
        rw [List.take_succ_cons, List.flatMap_cons, List.flatMap_cons, List.take_append, h1, show (mCells e).length = 4 from rfl, show (k + 1) * 4 - 4 = k * 4 by omega, ih]
  rw [e]
  refine ⟨by rw [List.length_take, h.1]; have := Nat.mul_le_mul_right 4 hk; omega, by have := h.2.1; omega, fun hp => ?_⟩
  obtain ⟨g, o, hA, hc⟩ := h.2.2 (by omega)
  refine ⟨g, o, hA, fun j u hu => ?_⟩
  rw [List.getElem?_take] at hu
  split at hu
  · exact hc j u hu
  · cases hu

set_option maxHeartbeats 4000000 in
set_option maxRecDepth 100000 in
theorem replays_walk (A : Option Addr) (len cap : Nat) (l : List MCall) (hl : l.length = len) (hwf : ∀ c ∈ l, MCall.WF c) (hcap : len ≤ cap) (hcap2 : cap ≤ 9223372036854775807) (cut : Int) (hcut : -9223372036854775808 ≤ cut ∧ cut < 9223372036854775808) {W : World} (hS : Sl W 4 A len (l.flatMap mCells)) (hb : isLarge l = false) :
    Calls Try.prog 10 #[.slice A len cap, .int .i64 cut] W fun e w' => e = .returned (.bool true) ∧ Mods No W w' := by
  obtain ⟨h12, hsm⟩ := isLarge_small hb
  have HS := Lib.hid hS
  have Hwf := Lib.hid hwf
  have Hsm := Lib.hid hsm
  have Hlarge := Lib.hid (fun w (h : Sl w 4 A len (l.flatMap mCells)) => large_any A len cap l w hl h)
  rw [hb] at Hlarge
  have Hmeas := Lib.hid (fun w (h : Sl w 4 A len (l.flatMap mCells)) => measured_any A len cap l hl hwf hsm w h)
  have hev12 : (measAll l).length ≤ 12 := by have := measAll_len l; omega
  have Hinr := Lib.hid (measAll_inRegs l)
  clear hS hwf hsm hb
  go_enter Try.func10, Try.ntmps10
  go_wp2_with fail
  refine (Hlarge.out _ HS.out).mono ?_
  rintro e w' ⟨rfl, rfl⟩
  go_wp2_with fail
  refine (Hmeas.out _ HS.out).mono ?_
  rintro e w1 ⟨⟨b, v, rfl, hL1, hF1⟩, hM1⟩
  obtain ⟨evs, hevs⟩ : ∃ evs, measAll l = evs := ⟨_, rfl⟩
  rw [hevs] at hL1 hev12 Hinr
  have HL1 := Lib.hid hL1
  have HF1 := Lib.hid hF1
  have HM1 := Lib.hid hM1
  have Hevs := Lib.hid hevs
  clear hL1 hF1 hM1 hevs
  go_wp2_with fail
  refine (events_any b v _ evs _ HL1.out (by omega)).mono ?_
  rintro e w2 ⟨⟨u, rfl, r2, -⟩, m2⟩
  have HL2 := Lib.hid (HL1.out.no m2)
  have HM2 := Lib.hid (HM1.out.no m2)
  have HR2 := Lib.hid r2
  clear r2 m2 HL1 HM1
  go_wp2_with fail
  refine (replay_any u evs HL2.out.good (by omega) _ HR2.out).mono ?_
  rintro e w3 p3
  obtain ⟨B, hB, rfl, hA⟩ := p3.good Hinr.out
  have HL3 := Lib.hid (HL2.out.no p3.mods)
  have HM3 := Lib.hid (HM2.out.no p3.mods)
  have HA3 := Lib.hid hA
  clear p3 hB hA HL2 HM2 HR2
  go_wp2_with fail
  go_loopw [8] (fun q wr => ∃ r : Nat, r ≤ 8 ∧ q = .int .i64 r ∧ LogAt wr b v (replayL evs) evs ∧ RegsAt wr B 0 (replayL evs) ∧ Mods No W wr) (fun q _ => 8 - (intOf q).toNat)
  case atStart => exact ⟨0, by omega, rfl, HL3.out, HA3.out, HM3.out⟩
  case round =>
    clear HL3 HM3 HA3
    obtain ⟨r, hr8, rfl, hL, hR, hM⟩ := hrel
    have HL := Lib.hid hL
    have HR := Lib.hid hR
    have HM := Lib.hid hM
    clear hL hR hM
    by_cases hlt : r < 8
    · have hkl : (r : Int) < 8 := by omega
      obtain ⟨X, hX, hXl⟩ := (replayL_ok evs).at (k := r) hlt
      have HRA := Lib.hid (register_any b v (replayL evs) evs r wr HL.out)
      have hres : regRes (replayL evs) r = (X, 0) := by unfold regRes; rw [if_pos (by omega)]; simp [List.getD, hX]
      rw [hres] at HRA
      have HX := Lib.hid hXl
      have HXr := Lib.hid hX
      clear hres hX hXl
      go_wp2_with fail
      refine HRA.out.mono ?_
      rintro e w3 ⟨rfl, m3⟩
      have HI := Lib.hid (info32' HX.out)
      have HI2 := Lib.hid (info32 HX.out)
      have hT3 := Lib.hid (boxD_there w3 HX.out)
      have hA3 := Lib.hid (boxD_arr w3 HX.out)
      have hM3 := Lib.hid (m3.no (boxD_mods w3 X))
      clear m3 HRA
      go_wp2_with ((with_reducible refine wpList_store_mid ?_ 26 (.tmp 9) (.tmp 43) ?_ w3.heap.size 0 (u8s X).toArray ?_ ?_ hT3.out HI.out (u8s_one _) ?_); rfl; rfl; rfl; rfl)
      obtain ⟨B7, hB7⟩ : ∃ b, w3.heap.size = b := ⟨_, rfl⟩
      rw [hB7] at hA3 hM3 ⊢
      clear hB7 hT3
      generalize (w3.alloc (.cells #[Value.int .u8 0, Value.int .u8 0, Value.int .u8 0, Value.int .u8 0, Value.int .u8 0, Value.int .u8 0, Value.int .u8 0, Value.int .u8 0, Value.int .u8 0, Value.int .u8 0, Value.int .u8 0, Value.int .u8 0, Value.int .u8 0, Value.int .u8 0, Value.int .u8 0, Value.int .u8 0, Value.int .u8 0, Value.int .u8 0, Value.int .u8 0, Value.int .u8 0, Value.int .u8 0, Value.int .u8 0, Value.int .u8 0, Value.int .u8 0, Value.int .u8 0, Value.int .u8 0, Value.int .u8 0, Value.int .u8 0, Value.int .u8 0, Value.int .u8 0, Value.int .u8 0, Value.int .u8 0] 26)).setCells B7 0 (u8s X) = w4 at hA3 hM3 ⊢
      have HL4 := Lib.hid (HL.out.no hM3.out)
      have HM4 := Lib.hid (HM.out.no hM3.out)
      have HR4 := Lib.hid (HR.out.mods hM3.out id)
      have HG := Lib.hid (fun x : Ext w4 => ((HR4.out.mods x.m id).range HXr.out))
      have hNE : ∀ w, (binOp .neq 26 (.agg (u8s X).toArray) (.agg (u8s X).toArray)).run Try.prog w = .ok (.bool false) w := fun w => by
        rw [digNe X X HX.out HX.out w]
        simp
      clear hM3 HL HM HR
      simp only [Nat.zero_add] at HG
      refine wp_region_ext 10 (by kernel_rfl) (by kernel_rfl) ?_
      simp only [List.take_succ_cons, List.take_zero, List.drop_succ_cons, List.drop_zero, List.take_nil, List.drop_nil]
      repeat (first | go_big_quiet_skip | (go_big_quiet_want; first
        | (refine quiet_load_row 26 (.tmp 9) rfl B7 0 (by rfl) (u8s X) _ (fun _ ⟨x, e⟩ => e ▸ (hA3.out.ext x).range) Try.underlying26 rfl HI2.out ?_; go_big_quiet_on; simp only [Act.put, List.setIfInBounds_toArray, List.set_cons_succ, List.set_cons_zero])
        | (refine quiet_load_row 26 (.tmp 51) rfl B (r * 32) (by rfl) (u8s X) _ (fun _ ⟨x, e⟩ => e ▸ HG.out x) Try.underlying26 rfl HI2.out ?_; go_big_quiet_on; simp only [Act.put, List.setIfInBounds_toArray, List.set_cons_succ, List.set_cons_zero])
        | (go_big_quiet_op; go_big_quiet_on)))
      refine wpQuiet_nil ?_
      intro x
      have HL7 := Lib.hid (HL4.out.no x.m)
      have HM7 := Lib.hid (HM4.out.no x.m)
      have HR7 := Lib.hid (HR4.out.mods x.m id)
      clear hA3 HL4 HM4 HR4 HG
      go_wp2_with fail
      go_roundw
      case rel => exact ⟨r + 1, by omega, by go_num, HL7.out, HR7.out, HM7.out⟩
      case measure => simp [intOf]; omega
    · obtain rfl : r = 8 := by omega
      have hmx : len ≤ 9223372036854775807 := by omega
      have hz := modZ_range cut (m := (len : Int) + 1) (by omega)
      have hmodv := Lib.hid (fun w => mod_val cut ((len : Int) + 1) hcut (by omega) w)
      obtain ⟨k, hk⟩ : ∃ k : Nat, modZ cut ((len : Int) + 1) = k := ⟨(modZ cut ((len : Int) + 1)).toNat, by omega⟩
      rw [hk] at hmodv hz
      have hkl : k ≤ len := by omega
      have Hk := Lib.hid hk
      clear hk hz hlt
      go_wp2_with fail
      refine (hmodv.out _).mono ?_
      rintro e w' ⟨rfl, rfl⟩
      have hkc : (k : Int) ≤ cap := by omega
      have hsl : ∀ w, (Instr.slice 31 (.slice A len cap) none (some (.int .i64 k)) none).run Try.prog w = .ok (.slice A k cap) w := fun w => by
        exact slice_to 31 A len cap k 4 Try.underlying31 (by kernel_rfl) (by omega)
      have hS4 := sl_take (HS.out.mods HM.out (fun _ _ _ h => h)) hl hkl
      have Hmeas2 := Lib.hid (measured_any A k cap (l.take k) (by rw [List.length_take]; omega) (fun c hc => Hwf.out c (List.mem_of_mem_take hc)) (fun c hc => Hsm.out c (List.mem_of_mem_take hc)) wr hS4)
      have hpre := Lib.hid (measAll_prefix l k)
      have hpl : (measAll (l.take k)).length ≤ evs.length := by
        have := hpre.out.length_le
        rw [Hevs.out] at this
        exact this
      rw [Hevs.out] at hpre
      have hevt := Lib.hid (List.prefix_iff_eq_take.1 hpre.out)
      generalize measAll (l.take k) = evs2 at Hmeas2 hpl hevt
      clear hpre hS4
      go_wp2_with fail
      refine Hmeas2.out.mono ?_
      rintro e w5 ⟨⟨b2, v2, rfl, hL5, hF5⟩, hM5⟩
      have HL5 := Lib.hid (HL.out.no hM5)
      have HN5 := Lib.hid hL5
      have HM5 := Lib.hid (HM.out.no hM5)
      clear hL5 hF5 hM5 HL HM HR hsl
      go_wp2_with fail
      refine (events_any b v _ evs _ HL5.out (by omega)).mono ?_
      rintro e w6 ⟨⟨u6, rfl, r6, -⟩, m6⟩
      obtain ⟨A6, c6, rfl, hc6, -, -⟩ := r6.shape
      have HN6 := Lib.hid (HN5.out.no m6)
      have HM6 := Lib.hid (HM5.out.no m6)
      have HR6 := Lib.hid r6
      have HL6g := Lib.hid HL5.out.good
      clear r6 m6 HL5 HN5 HM5
      go_wp2_with fail
      refine (events_any b2 v2 _ evs2 _ HN6.out (by omega)).mono ?_
      rintro e w7 ⟨⟨u7, rfl, r7, -⟩, m7⟩
      obtain ⟨A7, c7, rfl, -, -, -⟩ := r7.shape
      have HO := Lib.hid HN6.out.good
      have HM7 := Lib.hid (HM6.out.no m7)
      have HR7 := Lib.hid r7
      have hgood := HL6g.out
      have hpx := Row.prefix (HR6.out.no m7) hpl
      rw [evs_take _ hgood, ← hevt.out] at hpx
      have HPx := Lib.hid hpx
      clear hpx hgood
      clear r7 m7 HN6 HM6 HR6
      have hle : (evs2.length : Int) ≤ evs.length := by omega
      have hsl : ∀ w, (Instr.slice 46 (.slice A6 evs.length c6) none (some (.int .i64 (evs2.length : Int))) none).run Try.prog w = .ok (.slice A6 evs2.length c6) w := fun w => by
        exact slice_to 46 A6 evs.length c6 evs2.length 34 Try.underlying46 (by kernel_rfl) (by omega)
      go_wp2_with fail
      refine (equalEv_same _ _ evs2 HO.out (by omega) _ HR7.out HPx.out).mono ?_
      rintro e w8 ⟨rfl, m8⟩
      have HM8 := Lib.hid (HM7.out.no m8)
      clear m8
      go_wp2_with fail
      refine (awake_any _).mono ?_
      rintro e w10 ⟨rfl, m10⟩
      have HM10 := Lib.hid (HM8.out.no m10)
      clear m10
      go_wp2_with fail
      go_ret
      exact ⟨rfl, HM10.out⟩
theorem replays_law (A : Option Addr) (len cap : Nat) (l : List MCall) (hl : l.length = len) (hwf : ∀ c ∈ l, MCall.WF c) (hcap : len ≤ cap) (hcap2 : cap ≤ 9223372036854775807) {W : World} (hS : Sl W 4 A len (l.flatMap mCells)) (cut : Int) (hcut : -9223372036854775808 ≤ cut ∧ cut < 9223372036854775808) :
    Calls Try.prog 10 #[.slice A len cap, .int .i64 cut] W fun e w' => e = .returned (.bool true) ∧ Below W.heap.size W w' := by
  refine Calls.mono (R := fun e w' => e = .returned (.bool true) ∧ Mods No W w') ?_ (fun e w' ⟨h1, h2⟩ => ⟨h1, h2.toBelow (fun _ h => h.elim) (Nat.le_refl _)⟩)
  by_cases hb : isLarge l = false
  · exact replays_walk A len cap l hl hwf hcap hcap2 cut hcut hS hb
  · have hb' : isLarge l = true := by simpa using hb
    have Hlarge := Lib.hid (large_any A len cap l W hl hS)
    rw [hb'] at Hlarge
    clear hb hb' hS hwf
    go_enter Try.func10, Try.ntmps10
    go_wp2_with fail
    refine Hlarge.out.mono ?_
    rintro e w' ⟨rfl, rfl⟩
    go_wp2_with fail
    refine (awake_any _).mono ?_
    rintro e w9 ⟨rfl, m9⟩
    go_wp2_with fail
    go_ret
    exact ⟨rfl, m9⟩
end Go.Proofs.Ytamdanpkkcdhbaa
