/- The statement MeasureVerifyAgrees. -/
import Derived.Test.YtamdanpkkcdhbaaVs1
set_option linter.unusedVariables false
set_option linter.unusedSimpArgs false
namespace Go.Proofs.Ytamdanpkkcdhbaa
open Go.RowKit Go.PF

set_option maxHeartbeats 16000000 in
set_option maxRecDepth 100000 in
theorem va_walk (key nonce : ByteArray) (hkey : (key.size : Int) ≤ 100) (hnon : (nonce.size : Int) ≤ 100) (A : Option Addr) (len cap : Nat) (l : List MCall) (hl : l.length = len) (hwf : ∀ c ∈ l, MCall.WF c)
    (Ar : Option Addr) (nr capr : Nat) (raw : List Ev) (hlr : raw.length = nr) (hokr : ∀ e ∈ raw, Ev.Ok e) (hnr : (nr : Int) ≤ 12) (quote : List Int) (hquote : quote.length = 32)
    (kk : Int) (hkk : -9223372036854775808 ≤ kk ∧ kk < 9223372036854775808) (drop : Bool) {W : World} (hSr : EvSl W Ar raw) (hS : Sl W 4 A len (l.flatMap mCells)) (hb : isLarge l = false) :
    Calls Try.prog 11 #[.string key, .string nonce, .slice A len cap, .slice Ar nr capr, .agg (u8s quote).toArray, .int .i64 kk, .bool drop] W fun e w' => e = .returned (.bool true) ∧ Mods No W w' := by
  obtain ⟨h12, hsm⟩ := isLarge_small hb
  have HS := Lib.hid hS
  have HSr := Lib.hid hSr
  have Hokr := Lib.hid hokr
  have Hlr := Lib.hid hlr
  have Hwf := Lib.hid hwf
  have Hsm := Lib.hid hsm
  have HQl := Lib.hid hquote
  have Hlarge := Lib.hid (fun w (h : Sl w 4 A len (l.flatMap mCells)) => large_any A len cap l w hl h)
  rw [hb] at Hlarge
  have HQ0 := Lib.hid (boxP_arr W (L := quote))
  have HM0 : Hid (Mods No W (W.alloc (.cells (u8s quote).toArray 26))) := Lib.hid ((Mods.refl _ _).alloc _)
  clear hS hwf hsm hb hSr hokr hlr hquote
  go_enter Try.func11, Try.ntmps11
  go_wp2_with fail
  obtain ⟨Bq, hBq⟩ : ∃ B, W.heap.size = B := ⟨_, rfl⟩
  have hBql : W.heap.size ≤ Bq := by omega
  have hBq2 : Hid (Bq < (W.alloc (.cells (u8s quote).toArray 26)).heap.size) := Lib.hid (by rw [← hBq]; simp)
  rw [hBq] at HQ0 ⊢
  clear hBq
  generalize W.alloc (.cells (u8s quote).toArray 26) = w0 at HQ0 HM0 hBq2 ⊢
  refine (Hlarge.out _ (HS.out.mods HM0.out (fun _ _ _ h => h))).mono ?_
  rintro e w' ⟨rfl, rfl⟩
  go_wp2_with fail
  refine (refNew_any _).mono ?_
  rintro e w1 ⟨rfl, hA1, m1⟩
  have HA1 := Lib.hid hA1
  have HM1 := Lib.hid (HM0.out.no m1)
  have HQ1 := Lib.hid (HQ0.out.mods m1 id)
  have hsz := HM0.out.size
  have hBlt := hBq2.out
  clear hA1 m1 HM0 HQ0 hBq2
  obtain ⟨b, hbA⟩ : ∃ b, w0.heap.size = b := ⟨_, rfl⟩
  rw [hbA] at HA1 hsz hBlt ⊢
  have hbl := hsz
  clear hbA hsz
  go_wp2_with fail
  go_loopw [16] (fun q wr => ∃ (k : Nat) (v : Value) (evs : List Ev), k ≤ len ∧ q = .int .i64 k ∧ evs = measAll (l.take k) ∧ RefAt wr b v evs ∧ (∀ q, Foot b v q → Bq < q) ∧ Mods No W wr ∧ Arr wr Bq (u8s quote)) (fun q _ => len - (intOf q).toNat)
  case atStart => exact ⟨0, _, [], Nat.zero_le _, rfl, rfl, HA1.out, fun q hq => (by rcases hq with rfl | hq; exact hBlt; cases hq), HM1.out, HQ1.out⟩
  case round =>
    clear HA1 HM1 HQ1
    obtain ⟨k, v, evs, hk, rfl, hevs, hL, hF, hM, hQ⟩ := hrel
    have HQ := Lib.hid hQ
    clear hQ
    have HL := Lib.hid hL
    have HF := Lib.hid hF
    have HM := Lib.hid hM
    have Hevs := Lib.hid hevs
    clear hL hF hM hevs
    by_cases hlt : k < len
    · obtain ⟨c, hc⟩ := some_at (l := l) (i := k) (by omega)
      obtain ⟨g, o, hC⟩ := Sl.callAt (HS.out.mods HM.out (fun _ _ _ h => h)) hl hc
      obtain ⟨g', o', hC0⟩ := Sl.callAt HS.out hl hc
      obtain ⟨rfl, e0, -, -, -⟩ := hC0
      obtain ⟨hgo, d0, d1, d2, d3⟩ := hC
      cases hgo
      have hgW : g < W.heap.size := World.block_lt_of_cell? W ⟨g, o + k * 4, none⟩ e0
      have hkl : (k : Int) < len := by omega
      have hmx : len ≤ 9223372036854775807 := HS.out.2.1
      have hwc := (Hwf.out c (List.mem_of_getElem? hc)).reg
      have Hc := Lib.hid hc
      have hnG : ¬ Foot b v g := fun h => by have := HF.out g h; omega
      have c0 : ∀ y : Sub (Mods (Foot b v) wr), y.w.cell? ⟨g, o + k * 4, none⟩ = some (.int .i64 c.reg) := fun y => y.s.cell d0 hnG
      have c1 : ∀ y : Sub (Mods (Foot b v) wr), y.w.cell? ⟨g, o + k * 4 + 1, none⟩ = some (.string c.text) := fun y => y.s.cell d1 hnG
      have c2 : ∀ y : Sub (Mods (Foot b v) wr), y.w.cell? ⟨g, o + k * 4 + 2, none⟩ = some (.string c.data) := fun y => y.s.cell d2 hnG
      have hne : Nonempty (Sub (Mods (Foot b v) wr)) := ⟨⟨wr, Mods.refl _ _⟩⟩
      clear e0 d0 d1 d2 d3 hc
      have hmeasA := Lib.hid (fun w (h : RefAt w b v evs) => refMeasure_any b v (replayL evs) evs (modZ c.reg 8) c.text c.data w h (by have := Hsm.out c (List.mem_of_getElem? Hc.out); omega))
      have hnext := Lib.hid (show (measRes (replayL evs) evs (modZ c.reg 8) c.text c.data).2.2 = measAll (l.take (k + 1)) by rw [take_succ_of Hc.out, measAll_push, ← Hevs.out]; rfl)
      have hmodv := Lib.hid (fun w => mod_val c.reg 8 hwc (by omega) w)
      generalize measRes (replayL evs) evs (modZ c.reg 8) c.text c.data = M at hmeasA hnext
      generalize modZ c.reg 8 = md at hmeasA hmodv
      obtain ⟨M1, M2, M3⟩ := M
      dsimp only at hnext hmeasA
      go_wp2_with fail
      refine wp_region_sub false (Mods (Foot b v) wr) [(0, false), (1, false), (2, false), (3, false), (4, false), (5, false), (7, false), (8, false), (9, false), (10, false), (11, false), (12, false), (13, false), (14, false), (15, false), (16, false), (6, true), (17, true)] (by kernel_rfl) (by kernel_rfl) (Mods.refl _ _).drew ?_
      simp only [pickL, List.map_cons, List.map_nil, List.getElem?_cons_zero, List.getElem?_cons_succ, Option.getD_some]
      refine wpSt_quiet rfl ?_
      go_big_quiet_want
      go_big_quiet_op
      go_big_quiet_on
      refine wpQuiet_nil ?_
      refine wpSt_quiet rfl ?_
      go_big_quiet_want
      go_big_quiet_op
      go_big_quiet_on
      refine wpQuiet_nil ?_
      refine wpSt_quiet rfl ?_
      go_big_quiet_want
      go_big_quiet_op
      go_big_quiet_on
      refine wpQuiet_nil ?_
      refine wpSt_quiet rfl ?_
      go_big_quiet_want
      go_big_quiet_op
      go_big_quiet_on
      refine wpQuiet_nil ?_
      refine wpSt_quiet rfl ?_
      go_big_quiet_want
      go_big_quiet_op
      go_big_quiet_on
      refine wpQuiet_nil ?_
      refine wpSt_quiet rfl ?_
      go_big_quiet_want
      go_big_quiet_op
      go_big_quiet_on
      refine wpQuiet_nil ?_
      refine wpSt_quiet rfl ?_
      go_big_quiet_want
      go_big_quiet_op
      go_big_quiet_on
      refine wpQuiet_nil ?_
      refine wpSt_quiet rfl ?_
      go_big_quiet_want
      go_big_quiet_op
      go_big_quiet_on
      refine wpQuiet_nil ?_
      refine wpSt_quiet rfl ?_
      go_big_quiet_want
      go_big_quiet_op
      go_big_quiet_on
      refine wpQuiet_nil ?_
      refine wpSt_quiet rfl ?_
      go_big_quiet_want
      go_big_quiet_op
      go_big_quiet_on
      refine wpQuiet_nil ?_
      refine wpSt_quiet rfl ?_
      go_big_quiet_want
      go_big_quiet_op
      go_big_quiet_on
      refine wpQuiet_nil ?_
      refine wpSt_quiet rfl ?_
      go_big_quiet_want
      go_big_quiet_op
      go_big_quiet_on
      refine wpQuiet_nil ?_
      refine wpSt_quiet rfl ?_
      go_big_quiet_want
      go_big_quiet_op
      go_big_quiet_on
      refine wpQuiet_nil ?_
      refine wpSt_quiet rfl ?_
      go_big_quiet_want
      go_big_quiet_op
      go_big_quiet_on
      refine wpQuiet_nil ?_
      refine wpSt_quiet rfl ?_
      go_big_quiet_want
      go_big_quiet_op
      go_big_quiet_on
      refine wpQuiet_nil ?_
      refine wpSt_quiet rfl ?_
      go_big_quiet_want
      go_big_quiet_op
      go_big_quiet_on
      refine wpQuiet_nil ?_
      refine wpSt_step ?_
      go_wp2_with fail
      refine (hmodv.out _).mono ?_
      rintro e w' ⟨rfl, rfl⟩
      go_wp2_with fail
      refine nowhere_up ⟨rfl, .inr (inSub_mk (Mods.refl _ _).drew), ?_⟩
      refine wpSt_step ?_
      go_wp2_with fail
      refine (hmeasA.out _ (HL.out.no (Mods.refl No wr).drew)).mono ?_
      rintro e w7 p7
      have he := p7.ret
      subst he
      have P7 := Lib.hid p7
      have g7 : Mods (Foot b v) wr w7 := p7.mods.undrew
      have G7 := Lib.hid g7
      clear p7
      go_wp2_with fail
      refine nowhere_up ⟨rfl, .inr (inSub_mk g7), ?_⟩
      refine wpSt_nil ?_
      clear g7 c0 c1 c2 hne
      go_wp2_with fail
      obtain ⟨v', hL', hb'⟩ := P7.out.log
      have hfn := foot_new (b := b) hb'
      go_roundw
      case rel =>
        refine ⟨k + 1, v', M3, by omega, by go_num, hnext.out, hL', fun q hq => ?_, ?_, HQ.out.mods G7.out (fun h => by have := HF.out Bq h; omega)⟩
        · rcases hfn q hq with h | h
          · exact HF.out q h
          · exact Nat.lt_of_lt_of_le (HQ.out.lt (by rw [u8s_length, HQl.out]; omega)) h
        · exact HM.out.trans G7.out (fun q hq => .inr (by have := HF.out q hq; omega))
      case measure => simp [intOf]; omega
    · obtain rfl : k = len := by omega
      have hkl : (k : Int) ≤ k := Int.le_refl _
      rw [← hl, List.take_length] at Hevs
      have hev12 : evs.length ≤ 12 := by rw [Hevs.out]; have := measAll_len l; omega
      have Hin : Hid (inRegs evs) := Lib.hid (by rw [Hevs.out]; exact measAll_inRegs l)
      clear hlt hk
      go_wp2_with fail
      refine (refEvents_any b v evs _ HL.out (by omega)).mono ?_
      rintro e w2 ⟨⟨u, rfl, r2, b2⟩, m2⟩
      have HL2 := Lib.hid (HL.out.no m2)
      have HM2 := Lib.hid (HM.out.no m2)
      have HQ2 := Lib.hid (HQ.out.mods m2 id)
      have HR2 := Lib.hid r2
      clear r2 m2 b2 HL HM HF HQ Hevs
      go_wp2_with fail
      refine (refReplay_any u evs HL2.out.good (by omega) _ HR2.out).mono ?_
      rintro e w3 p3
      obtain ⟨B, hB, rfl, hA⟩ := p3.good Hin.out
      have HL3 := Lib.hid (HL2.out.no p3.mods)
      have HM3 := Lib.hid (HM2.out.no p3.mods)
      have HQ3 := Lib.hid (HQ2.out.mods p3.mods id)
      have HQu := Lib.hid (refQuote_any key nonce (some ⟨B, 0, none⟩) 8 (replayL evs) (replayL_ok evs).all (by rw [(replayL_ok evs).eight]; omega) (by omega) (by omega) w3 hA.regsSl)
      rw [(replayL_ok evs).eight] at HQu
      have hq1 := quoteL_length key (replayL evs) nonce
      generalize quoteL key (replayL evs) nonce = DD at HQu hq1
      obtain ⟨D1, E1⟩ := DD
      dsimp only at HQu hq1
      have Hq1 := Lib.hid hq1
      clear p3 hB hA hq1 HL2 HM2 HQ2 HR2
      go_wp2_with fail
      refine HQu.out.mono ?_
      rintro e w4 ⟨rfl, m4⟩
      have hT4 := Lib.hid (boxD_there w4 Hq1.out)
      have hA4 := Lib.hid (boxD_arr w4 Hq1.out)
      have HM4 := Lib.hid (HM3.out.no (m4.no (boxD_mods w4 D1)))
      have HL4 := Lib.hid (HL3.out.no (m4.no (boxD_mods w4 D1)))
      have HQ4 := Lib.hid (HQ3.out.mods (m4.no (boxD_mods w4 D1)) id)
      have HI1 := Lib.hid (info32' Hq1.out)
      clear m4 HM3 HL3 HQ3 HQu
      go_wp2_with ((with_reducible refine wpList_store_mid ?_ 26 (.tmp 19) (.tmp 77) ?_ w4.heap.size 0 (u8s D1).toArray ?_ ?_ hT4.out HI1.out (u8s_one _) ?_); rfl; rfl; rfl; rfl)
      generalize w4.heap.size = B1 at hA4 HM4 HL4 HQ4 ⊢
      generalize (w4.alloc (.cells #[Value.int .u8 0, Value.int .u8 0, Value.int .u8 0, Value.int .u8 0, Value.int .u8 0, Value.int .u8 0, Value.int .u8 0, Value.int .u8 0, Value.int .u8 0, Value.int .u8 0, Value.int .u8 0, Value.int .u8 0, Value.int .u8 0, Value.int .u8 0, Value.int .u8 0, Value.int .u8 0, Value.int .u8 0, Value.int .u8 0, Value.int .u8 0, Value.int .u8 0, Value.int .u8 0, Value.int .u8 0, Value.int .u8 0, Value.int .u8 0, Value.int .u8 0, Value.int .u8 0, Value.int .u8 0, Value.int .u8 0, Value.int .u8 0, Value.int .u8 0, Value.int .u8 0, Value.int .u8 0] 26)).setCells B1 0 (u8s D1) = w5 at hA4 HM4 HL4 HQ4 ⊢
      have hB1 : B1 < w5.heap.size := hA4.out.lt (by rw [u8s_length, Hq1.out]; omega)
      have hBq5 : Bq < w5.heap.size := HQ4.out.lt (by rw [u8s_length, HQl.out]; omega)
      refine (refEvents_any b v evs _ HL4.out (by omega)).mono ?_
      rintro e w6 ⟨⟨u6, rfl, r6, b6⟩, m6⟩
      obtain ⟨A2, c2, rfl, hnc2, -, hA2⟩ := r6.shape
      have HM6 := Lib.hid (HM4.out.no m6)
      have HQ6 := Lib.hid (HQ4.out.mods m6 id)
      have hA6 := Lib.hid (hA4.out.mods m6 id)
      have HR6 := Lib.hid r6
      have HB6 := Lib.hid b6
      have HW5 := Lib.hid HM4.out.size
      have HG6 := Lib.hid HL4.out.good
      clear r6 m6 b6 HL4 HM4 HQ4 hA4 hT4 Hin
      rcases Nat.eq_zero_or_pos evs.length with h0 | h0
      case' inl =>
        have h0' : (evs.length : Int) ≤ 0 := by omega
        clear h0
        go_wp2_with fail
        obtain ⟨L, hL⟩ : ∃ L, L = evs := ⟨_, rfl⟩
        obtain ⟨A7, hA7⟩ : ∃ A7, A2 = A7 := ⟨_, rfl⟩
        obtain ⟨c7, hc7⟩ : ∃ c7, c2 = c7 := ⟨_, rfl⟩
        obtain ⟨n7, hn7⟩ : ∃ n7, evs.length = n7 := ⟨_, rfl⟩
        rw [hA7, hc7, hn7] at HR6 ⊢
        have HLn : Hid (L.length = n7) := Lib.hid (by rw [hL]; exact hn7)
        have hL13 : L.length ≤ 1000 := by rw [hL]; omega
        have HRx : Hid (Row w6 34 (.slice A7 n7 c7) n7 (L.flatMap evV)) := Lib.hid (by rw [hL]; exact HR6.out)
        have HMx := HM6
        have HQx := HQ6
        have HAx := hA6
        have HGx : Hid (∀ e ∈ L, Ev.Ok e) := Lib.hid (by rw [hL]; exact HG6.out)
        obtain ⟨w7, hw7⟩ : ∃ w7, w7 = w6 := ⟨_, rfl⟩
        subst hw7
      case' inr =>
        have h0' : (0 : Int) < evs.length := by omega
        obtain ⟨g, rfl⟩ := hA2 (by omega)
        have hz := modZ_range kk (m := (evs.length : Int)) (by omega)
        have hmodv := Lib.hid (fun w => mod_val kk (evs.length : Int) hkk (by omega) w)
        obtain ⟨j, hj⟩ : ∃ j : Nat, modZ kk (evs.length : Int) = j := ⟨(modZ kk (evs.length : Int)).toNat, by omega⟩
        rw [hj] at hmodv hz
        have hjl : (j : Int) < evs.length := by omega
        have hgn := HB6.out g rfl
        obtain ⟨e, he⟩ := some_at (l := evs) (i := j) (by omega)
        have He := Lib.hid he
        clear hj hz he
        cases drop
        case' false =>
          have hoke := HG6.out e (List.mem_of_getElem? He.out)
          have HI2 := Lib.hid (info32 HQl.out)
          have HI2' := Lib.hid (info32' HQl.out)
          have hGq := Lib.hid HQ6.out.range
          have hTj : Hid (w6.there g (j * 34 + 1) (u8s quote).toArray.size) := Lib.hid (Row.there HR6.out _ _ (by rw [List.size_toArray, u8s_length, HQl.out]; omega))
          have hms := mods_setCells (F := PF.One g) (a := w6) g (.inl rfl) (u8s quote) (j * 34 + 1) _ (Mods.refl _ _)
          have hR' := Row.setCells (u8s quote) (j * 34 + 1) _ _ HR6.out
          rw [flat_dig evs HG6.out j e He.out quote HQl.out] at hR'
          have HRx := Lib.hid hR'
          have HMx := Lib.hid (mods_setCells (F := No) (a := W) g (.inr (by have := HW5.out; omega)) (u8s quote) (j * 34 + 1) _ HM6.out)
          have HQx := Lib.hid (HQ6.out.mods hms (by unfold PF.One; omega))
          have HAx := Lib.hid (hA6.out.mods hms (by unfold PF.One; omega))
          have HGx := Lib.hid (ok_set HG6.out j (e := ⟨e.reg, quote, e.text⟩) ⟨hoke.lo, hoke.hi, HQl.out⟩)
          have HLn : Hid ((evs.set j ⟨e.reg, quote, e.text⟩).length = evs.length) := Lib.hid (List.length_set ..)
          have hL13 : (evs.set j ⟨e.reg, quote, e.text⟩).length ≤ 1000 := by rw [List.length_set]; omega
          clear hR' hms hoke
          go_wp2_with fail
          refine (hmodv.out _).mono ?_
          rintro e' w'' ⟨rfl, rfl⟩
          go_wp2_with (first
            | ((with_reducible refine wpList_load_mid ?_ 26 (.tmp 11) ?_ Bq 0 ?_ (u8s quote) _ hGq.out Try.underlying26 rfl HI2.out ?_); rfl; rfl; rfl)
            | ((with_reducible refine wpList_store_mid ?_ 26 (.tmp 103) (.tmp 101) ?_ g (j * 34 + 1) (u8s quote).toArray ?_ ?_ hTj.out HI2'.out (u8s_one _) ?_); rfl; rfl; rfl; rfl))
          generalize evs.set j ⟨e.reg, quote, e.text⟩ = L at HRx HGx HLn hL13
          generalize w6.setCells g (j * 34 + 1) (u8s quote) = w7 at HRx HMx HQx HAx ⊢
          obtain ⟨A7, hA7⟩ : ∃ A7 : Option Addr, some ⟨g, 0, none⟩ = A7 := ⟨_, rfl⟩
          obtain ⟨c7, hc7⟩ : ∃ c7, c2 = c7 := ⟨_, rfl⟩
          obtain ⟨n7, hn7⟩ : ∃ n7, evs.length = n7 := ⟨_, rfl⟩
          rw [hA7, hc7, hn7] at HRx ⊢
          rw [hn7] at HLn
        case' true =>
          go_wp2_with fail
          refine (hmodv.out _).mono ?_
          rintro e' w'' ⟨rfl, rfl⟩
          go_wp2_with fail
          obtain ⟨iE, hiE, hzE, hsE, hyE⟩ := info_parts infoEv3
          have hbs : ∀ w, (Instr.buildSlice 46 0 #[]).run Try.prog w = .ok (.slice (some ⟨w.heap.size, 0, none⟩) 0 0) (w.alloc (.cells #[] 45)) := fun w => by kernel_rfl
          obtain ⟨ad, had, hadp⟩ := slice_from (P := Try.prog) 46 g evs.length c2 (j + 1) 34 Try.underlying46 (fun w => by kernel_rfl) (by omega) hnc2
          have hsl1 : ∀ w, (Instr.slice 46 (.slice (some ⟨g, 0, none⟩) evs.length c2) none (some (.int .i64 (j : Int))) none).run Try.prog w = .ok (.slice (some ⟨g, 0, none⟩) j c2) w := fun w => by
            exact slice_to 46 (some ⟨g, 0, none⟩) evs.length c2 j 34 Try.underlying46 (by kernel_rfl) (by omega)
          have hsl2 : ∀ w, (Instr.slice 46 (.slice (some ⟨g, 0, none⟩) evs.length c2) (some (.int .i64 ((j : Int) + 1))) none none).run Try.prog w = .ok (.slice (some ad) (evs.length - (j + 1)) (c2 - (j + 1))) w := fun w => had w
          have hne : Nonempty (Sub (Mods No w6)) := ⟨⟨w6, Mods.refl _ _⟩⟩
          have Hadp := Lib.hid hadp
          have HG := Lib.hid (fun (L : List Ev) (h : ∀ e ∈ L, e ∈ evs) (u : Value) (hu : u ∈ L.flatMap evV) => (show u.oneCell' = true from by
            obtain ⟨e, _, h⟩ := List.mem_flatMap.1 hu
            exact evV_one e u h))
          clear had hadp
          refine wp_region_sub false (Mods No w6) [(1, false), (2, false), (3, false), (5, false), (6, false), (7, false), (8, false), (0, true), (4, true), (9, true), (10, false)] (by kernel_rfl) (by kernel_rfl) (Mods.refl _ _).drew ?_
          simp only [pickL, List.map_cons, List.map_nil, List.getElem?_cons_zero, List.getElem?_cons_succ, Option.getD_some]
          refine wpSt_quiet rfl ?_
          go_big_quiet_want
          go_big_quiet_op
          go_big_quiet_on
          refine wpQuiet_nil ?_
          refine wpSt_quiet rfl ?_
          go_big_quiet_want
          go_big_quiet_op
          go_big_quiet_on
          refine wpQuiet_nil ?_
          refine wpSt_quiet rfl ?_
          go_big_quiet_want
          go_big_quiet_op
          go_big_quiet_on
          refine wpQuiet_nil ?_
          refine wpSt_quiet rfl ?_
          go_big_quiet_want
          go_big_quiet_op
          go_big_quiet_on
          refine wpQuiet_nil ?_
          refine wpSt_quiet rfl ?_
          go_big_quiet_want
          go_big_quiet_op
          go_big_quiet_on
          refine wpQuiet_nil ?_
          refine wpSt_quiet rfl ?_
          go_big_quiet_want
          go_big_quiet_op
          go_big_quiet_on
          refine wpQuiet_nil ?_
          refine wpSt_quiet rfl ?_
          go_big_quiet_want
          go_big_quiet_op
          go_big_quiet_on
          refine wpQuiet_nil ?_
          refine wpSt_value (.slice (some ⟨w6.drew.heap.size, 0, none⟩) 0 0) _ rfl (op_value _ (by simp [execOp, Act.eval]) (hbs w6.drew)) (.inr (inSub_mk (((Mods.refl No w6).drew).alloc _))) ?_
          simp only [Act.put, List.setIfInBounds_toArray, List.set_cons_succ, List.set_cons_zero]
          obtain ⟨B8, hB8⟩ : ∃ B8, w6.drew.heap.size = B8 := ⟨_, rfl⟩
          have hB8w : w6.heap.size ≤ B8 := by rw [← hB8]; exact Nat.le_refl _
          have hB8n : Hid (B8 < (w6.drew.alloc (.cells #[] 45)).heap.size) := Lib.hid (by rw [← hB8]; simp)
          have HM8 : Hid (Mods No w6 (w6.drew.alloc (.cells #[] 45))) := Lib.hid (((Mods.refl No w6).drew).alloc _)
          rw [hB8]
          clear hB8
          generalize w6.drew.alloc (.cells #[] 45) = w8 at HM8 hB8n ⊢
          have hpre := Row.prefix (HR6.out.no HM8.out) (show j ≤ evs.length by omega)
          rw [evs_take _ HG6.out] at hpre
          have HP := Lib.hid (Row.sl hpre (by omega))
          have HQj := Lib.hid (HG (evs.take j) (fun x hx => List.mem_of_mem_take hx))
          clear hpre
          refine wpSt_step ?_
          go_wp2_with (at_builtin; refine wpList_append_arg_new rfl _ _ 46 rfl 45 iE _ 34 56 Try.underlying46 hiE hzE hsE hyE rfl (by decide) B8 rfl (some ⟨g, 0, none⟩) j c2 ((evs.take j).flatMap evV) rfl HP.out (fun h => by cases h) HQj.out ?c2 ?c3 ?_)
          case c2 => unfold maxLen; omega
          case c3 => omega
          intro A9 c9 w9 hnc9 hr9 hm9 hb9
          have HM9 := Lib.hid (HM8.out.trans hm9 (fun i h => .inr (by omega)))
          have HR9 := Lib.hid hr9
          have hB9 : Hid (∀ q, (Value.slice A9 j c9).ownBlock = some q → w6.heap.size ≤ q) := Lib.hid fun q hq => by
            rcases hb9 q hq with h | h
            · omega
            · have := HM8.out.size; omega
          clear hr9 hm9 hb9
          refine (show nowhere _ .normal _ _ from nowhere_up ⟨rfl, inSub_mk HM9.out, ?_⟩)
          have hnl : ((evs.drop (j + 1)).flatMap evV).length = (evs.length - (j + 1)) * 34 := by
            rw [flat_length evV 34 _ (fun x hx => evV_length (HG6.out x (List.mem_of_mem_drop hx)).dig), List.length_drop]
          have HQd := Lib.hid (HG (evs.drop (j + 1)) (fun x hx => List.mem_of_mem_drop hx))
          have HNc : Hid (∀ i u, ((evs.drop (j + 1)).flatMap evV)[i]? = some u → w9.cell? (ad.add i) = some u) := Lib.hid fun i u hu => by
            have hi : i < (evs.length - (j + 1)) * 34 := by rw [← hnl]; exact (List.getElem?_eq_some_iff.1 hu).1
            rw [Hadp.out (by omega), Addr.add_lit]
            refine (HR6.out.no HM9.out).cell ?_
            have e1 : evs.flatMap evV = (evs.take (j + 1)).flatMap evV ++ (evs.drop (j + 1)).flatMap evV := by rw [← List.flatMap_append, List.take_append_drop]
            have e2 : ((evs.take (j + 1)).flatMap evV).length = (j + 1) * 34 := by
              rw [flat_length evV 34 _ (fun x hx => evV_length (HG6.out x (List.mem_of_mem_take hx)).dig), List.length_take, Nat.min_eq_left (by omega)]
            rw [e1, List.getElem?_append_right (by rw [e2]; omega), e2, show (j + 1) * 34 + i - (j + 1) * 34 = i by omega]
            exact hu
          have Hnl := Lib.hid hnl
          clear hnl
          refine wpSt_step ?_
          go_wp2_with (at_builtin; refine wpList_append_row rfl _ _ 46 rfl 45 iE _ 34 56 Try.underlying46 hiE hzE hsE hyE rfl (by decide) _ _ _ (by rfl) HR9.out ad (evs.length - (j + 1)) (c2 - (j + 1)) ((evs.drop (j + 1)).flatMap evV) (by rfl) Hnl.out HNc.out HQd.out ?c4 ?c5 ?_)
          case c4 => unfold maxLen; omega
          case c5 => omega
          intro v' w10 hr10 hm10 hb10
          obtain ⟨A7, c7, rfl, -, -, -⟩ := hr10.shape
          have HMx0 := Lib.hid (HM9.out.trans hm10 (fun i h => .inr (hB9.out i h)))
          rw [← List.flatMap_append] at hr10
          have HRx := Lib.hid hr10
          have HLn : Hid ((evs.take j ++ evs.drop (j + 1)).length = j + (evs.length - (j + 1))) := Lib.hid (by rw [List.length_append, List.length_take, List.length_drop, Nat.min_eq_left (by omega)])
          have hL13 : (evs.take j ++ evs.drop (j + 1)).length ≤ 1000 := by rw [HLn.out]; omega
          have HGx : Hid (∀ e ∈ evs.take j ++ evs.drop (j + 1), Ev.Ok e) := Lib.hid fun x hx => by
            rcases List.mem_append.1 hx with h | h
            · exact HG6.out x (List.mem_of_mem_take h)
            · exact HG6.out x (List.mem_of_mem_drop h)
          generalize evs.take j ++ evs.drop (j + 1) = L at HRx HLn hL13 HGx
          clear hr10 hm10 hb10 HNc HQd HR9 HM8 HM9
          refine (show nowhere _ .normal _ _ from nowhere_up ⟨rfl, inSub_mk HMx0.out, ?_⟩)
          refine wpSt_quiet rfl ?_
          go_big_quiet_want
          go_big_quiet_op
          go_big_quiet_on
          refine wpQuiet_nil ?_
          refine wpSt_nil ?_
          have HMx := Lib.hid (HM6.out.no HMx0.out)
          have HQx := Lib.hid (HQ6.out.mods HMx0.out id)
          have HAx := Lib.hid (hA6.out.mods HMx0.out id)
          obtain ⟨n7, hn7⟩ : ∃ n7, j + (evs.length - (j + 1)) = n7 := ⟨_, rfl⟩
          rw [hn7] at HRx HLn ⊢
          obtain ⟨w7, hw7⟩ : ∃ w7, w7 = w10 := ⟨_, rfl⟩
          subst hw7
          clear hsl1 hsl2 hbs hne
          go_wp2_with fail
      all_goals
        have HSr7 := Lib.hid (HSr.out.no HMx.out)
        have HE7 := Lib.hid (Row.evSl (c := c7) (by rw [HLn.out]; exact HRx.out) HGx.out)
        have HV1 := Lib.hid (fun x : Ext w7 => verify_any key nonce Ar capr raw Hokr.out (by have := Hlr.out; omega) quote HQl.out (by omega) (by omega) x.w (HSr7.out.no x.m))
        have HV2 := Lib.hid (fun x : Ext w7 => refVerify_any key nonce Ar capr raw Hokr.out (by have := Hlr.out; omega) quote HQl.out (by omega) (by omega) x.w (HSr7.out.no x.m))
        have HV3 := Lib.hid (fun x : Ext w7 => verify_any key nonce A7 c7 L HGx.out hL13 D1 Hq1.out (by omega) (by omega) x.w (HE7.out.no x.m))
        have HV4 := Lib.hid (fun x : Ext w7 => refVerify_any key nonce A7 c7 L HGx.out hL13 D1 Hq1.out (by omega) (by omega) x.w (HE7.out.no x.m))
        have HAw := Lib.hid (fun x : Ext w7 => awake_any x.w)
        rw [Hlr.out] at HV1 HV2
        rw [HLn.out] at HV3 HV4
        generalize verB key raw nonce quote = v1 at HV1 HV2
        generalize verB key L nonce D1 = v2 at HV3 HV4
        clear HSr7 HE7 HRx
        go_wp2_with fail
        refine wp_region_ext 28 (by kernel_rfl) (by kernel_rfl) ?_
        simp only [List.take_succ_cons, List.take_zero, List.drop_succ_cons, List.drop_zero, List.take_nil, List.drop_nil]
        try simp only [Act.put, List.setIfInBounds_toArray, List.set_cons_succ, List.set_cons_zero]
        go_big_quiet_want
        go_big_quiet_op
        go_big_quiet_on
        go_big_quiet_want
        go_big_quiet_op
        go_big_quiet_on
        go_big_quiet_want
        go_big_quiet_op
        go_big_quiet_on
        go_big_quiet_want
        refine quiet_load_row 26 (.tmp 11) rfl Bq 0 (by rfl) (u8s quote) _ (fun _ ⟨x, e⟩ => e ▸ (HQx.out.ext x).range) Try.underlying26 rfl (info32 HQl.out) ?_
        go_big_quiet_on
        simp only [Act.put, List.setIfInBounds_toArray, List.set_cons_succ, List.set_cons_zero]
        go_big_quiet_want
        go_big_quiet_op
        go_big_quiet_call ((go_at_call 34; exact Ext.call _ (HV1.out _)))
        go_big_quiet_want
        go_big_quiet_op
        go_big_quiet_on
        go_big_quiet_want
        go_big_quiet_op
        go_big_quiet_on
        go_big_quiet_want
        go_big_quiet_op
        go_big_quiet_on
        go_big_quiet_want
        refine quiet_load_row 26 (.tmp 11) rfl Bq 0 (by rfl) (u8s quote) _ (fun _ ⟨x, e⟩ => e ▸ (HQx.out.ext x).range) Try.underlying26 rfl (info32 HQl.out) ?_
        go_big_quiet_on
        simp only [Act.put, List.setIfInBounds_toArray, List.set_cons_succ, List.set_cons_zero]
        go_big_quiet_want
        go_big_quiet_op
        go_big_quiet_call ((go_at_call 35; exact Ext.call _ (HV2.out _)))
        go_big_quiet_want
        go_big_quiet_op
        go_big_quiet_on
        go_big_quiet_want
        go_big_quiet_op
        go_big_quiet_on
        go_big_quiet_want
        go_big_quiet_op
        go_big_quiet_on
        go_big_quiet_want
        go_big_quiet_op
        go_big_quiet_on
        go_big_quiet_want
        go_big_quiet_op
        go_big_quiet_on
        go_big_quiet_want
        refine quiet_load_row 26 (.tmp 19) rfl B1 0 (by rfl) (u8s D1) _ (fun _ ⟨x, e⟩ => e ▸ (HAx.out.ext x).range) Try.underlying26 rfl (info32 Hq1.out) ?_
        go_big_quiet_on
        simp only [Act.put, List.setIfInBounds_toArray, List.set_cons_succ, List.set_cons_zero]
        go_big_quiet_want
        go_big_quiet_op
        go_big_quiet_call ((go_at_call 34; exact Ext.call _ (HV3.out _)))
        go_big_quiet_want
        go_big_quiet_op
        go_big_quiet_on
        go_big_quiet_want
        go_big_quiet_op
        go_big_quiet_on
        go_big_quiet_want
        go_big_quiet_op
        go_big_quiet_on
        go_big_quiet_want
        refine quiet_load_row 26 (.tmp 19) rfl B1 0 (by rfl) (u8s D1) _ (fun _ ⟨x, e⟩ => e ▸ (HAx.out.ext x).range) Try.underlying26 rfl (info32 Hq1.out) ?_
        go_big_quiet_on
        simp only [Act.put, List.setIfInBounds_toArray, List.set_cons_succ, List.set_cons_zero]
        go_big_quiet_want
        go_big_quiet_op
        go_big_quiet_call ((go_at_call 35; exact Ext.call _ (HV4.out _)))
        go_big_quiet_want
        go_big_quiet_op
        go_big_quiet_on
        go_big_quiet_want
        go_big_quiet_op
        go_big_quiet_on
        go_big_quiet_want
        go_big_quiet_op
        go_big_quiet_on
        go_big_quiet_want
        go_big_quiet_op
        go_big_quiet_call ((go_at_call 13; exact Ext.call _ (HAw.out _)))
        go_big_quiet_want
        go_big_quiet_op
        go_big_quiet_on
        go_big_quiet_want
        go_big_quiet_op
        go_big_quiet_on
        refine wpQuiet_nil ?_
        intro x
        have HMy := Lib.hid (HMx.out.no x.m)
        clear HMx HQx HAx
        go_wp2_with fail
        go_ret
        exact ⟨rfl, HMy.out⟩
theorem va_law (key : ByteArray) (_ : key.size ≤ 140737488351232) (nonce : ByteArray) (_ : nonce.size ≤ 140737488351232) (A : Option Addr) (len cap : Nat) (l : List MCall) (hl : l.length = len) (hwf : ∀ c ∈ l, MCall.WF c) (_ : len ≤ cap) (_ : cap ≤ 9223372036854775807) {W : World} (hS : Sl W 4 A len (l.flatMap mCells))
    (Ar : Option Addr) (nr capr : Nat) (l0 : List EvW) (hl0 : l0.length = nr) (_ : ∀ x ∈ l0, EvW.Good x) (_ : nr ≤ capr) (_ : capr ≤ 9223372036854775807) (hS0 : Sl W 34 Ar nr (l0.flatMap evW))
    (quote : List Int) (hquote : quote.length = 32) (kk : Int) (hkk : -9223372036854775808 ≤ kk ∧ kk < 9223372036854775808) (drop : Bool) :
    Calls Try.prog 11 #[.string key, .string nonce, .slice A len cap, .slice Ar nr capr, .agg (u8s quote).toArray, .int .i64 kk, .bool drop] W fun e w' => e = .returned (.bool true) ∧ Below W.heap.size W w' := by
  refine Calls.mono (R := fun e w' => e = .returned (.bool true) ∧ Mods No W w') ?_ (fun e w' ⟨h1, h2⟩ => ⟨h1, h2.toBelow (fun _ h => h.elim) (Nat.le_refl _)⟩)
  obtain ⟨raw, hlr, hokr, hSr⟩ := ev_args hl0 hS0
  have HM0 : Hid (Mods No W (W.alloc (.cells (u8s quote).toArray 26))) := Lib.hid ((Mods.refl _ _).alloc _)
  have Hlarge := Lib.hid (large_any A len cap l (W.alloc (.cells (u8s quote).toArray 26)) hl (hS.mods HM0.out (fun _ _ _ h => h)))
  by_cases hb : isLarge l = true
  · rw [hb] at Hlarge
    clear hS0 hSr hokr hlr hl0 hS hwf
    clear hb
    go_enter Try.func11, Try.ntmps11
    go_wp2_with fail
    refine Hlarge.out.mono ?_
    rintro e w' ⟨rfl, rfl⟩
    go_wp2_with fail
    refine (awake_any _).mono ?_
    rintro e w9 ⟨rfl, m9⟩
    have HM9 := Lib.hid (HM0.out.no m9)
    clear m9 HM0
    go_wp2_with fail
    go_ret
    exact ⟨rfl, HM9.out⟩
  have hb' : isLarge l = false := by simpa using hb
  rw [hb'] at Hlarge
  by_cases h1 : 100 < key.size
  · have h1' : (100 : Int) < key.size := by omega
    clear hb hb'
    clear hS0 hSr hokr hlr hl0 hS hwf
    go_enter Try.func11, Try.ntmps11
    go_wp2_with fail
    refine Hlarge.out.mono ?_
    rintro e w' ⟨rfl, rfl⟩
    go_wp2_with fail
    refine (awake_any _).mono ?_
    rintro e w9 ⟨rfl, m9⟩
    have HM9 := Lib.hid (HM0.out.no m9)
    clear m9 HM0
    go_wp2_with fail
    go_ret
    exact ⟨rfl, HM9.out⟩
  have h1' : (key.size : Int) ≤ 100 := by omega
  by_cases h2 : 100 < nonce.size
  · have h2' : (100 : Int) < nonce.size := by omega
    clear hb hb'
    clear hS0 hSr hokr hlr hl0 hS hwf
    go_enter Try.func11, Try.ntmps11
    go_wp2_with fail
    refine Hlarge.out.mono ?_
    rintro e w' ⟨rfl, rfl⟩
    go_wp2_with fail
    refine (awake_any _).mono ?_
    rintro e w9 ⟨rfl, m9⟩
    have HM9 := Lib.hid (HM0.out.no m9)
    clear m9 HM0
    go_wp2_with fail
    go_ret
    exact ⟨rfl, HM9.out⟩
  have h2' : (nonce.size : Int) ≤ 100 := by omega
  by_cases h3 : 12 < nr
  · have h3' : (12 : Int) < nr := by omega
    clear hb hb'
    clear hS0 hSr hokr hlr hl0 hS hwf
    go_enter Try.func11, Try.ntmps11
    go_wp2_with fail
    refine Hlarge.out.mono ?_
    rintro e w' ⟨rfl, rfl⟩
    go_wp2_with fail
    refine (awake_any _).mono ?_
    rintro e w9 ⟨rfl, m9⟩
    have HM9 := Lib.hid (HM0.out.no m9)
    clear m9 HM0
    go_wp2_with fail
    go_ret
    exact ⟨rfl, HM9.out⟩
  exact va_walk key nonce h1' h2' A len cap l hl hwf Ar nr capr raw hlr hokr (by omega) quote hquote kk hkk drop (Sl.evSl hSr hlr hokr) hS hb'
end Go.Proofs.Ytamdanpkkcdhbaa
