/- The statement MeasureReplayAgrees. -/
import Derived.Test.YtamdanpkkcdhbaaPre1
set_option linter.unusedVariables false
set_option linter.unusedSimpArgs false
namespace Go.Proofs.Ytamdanpkkcdhbaa
open Go.RowKit Go.PF

set_option maxHeartbeats 8000000 in
set_option maxRecDepth 100000 in
theorem ra_walk (Ar : Option Addr) (nr capr : Nat) (raw : List Ev) (hlr : raw.length = nr) (hokr : ∀ e ∈ raw, Ev.Ok e) (hnr : (nr : Int) ≤ 20) (A : Option Addr) (len cap : Nat) (l : List MCall) (hl : l.length = len) (hwf : ∀ c ∈ l, MCall.WF c)
    (kk rr : Int) (hkk : -9223372036854775808 ≤ kk ∧ kk < 9223372036854775808) (hrr : -9223372036854775808 ≤ rr ∧ rr < 9223372036854775808) {W : World} (hSr : EvSl W Ar raw) (hS : Sl W 4 A len (l.flatMap mCells)) (hb : isLarge l = false) :
    Calls Try.prog 6 #[.slice Ar nr capr, .slice A len cap, .int .i64 kk, .int .i64 rr] W fun e w' => e = .returned (.bool true) ∧ Mods No W w' := by
  obtain ⟨h12, hsm⟩ := isLarge_small hb
  have HS := Lib.hid hS
  have HSr := Lib.hid hSr
  have Hokr := Lib.hid hokr
  have Hlr := Lib.hid hlr
  have Hwf := Lib.hid hwf
  have Hsm := Lib.hid hsm
  have Hlarge := Lib.hid (fun w (h : Sl w 4 A len (l.flatMap mCells)) => large_any A len cap l w hl h)
  rw [hb] at Hlarge
  clear hS hwf hsm hb hSr hokr hlr
  go_enter Try.func6, Try.ntmps6
  go_wp2_with fail
  refine (Hlarge.out _ HS.out).mono ?_
  rintro e w' ⟨rfl, rfl⟩
  go_wp2_with fail
  refine (refNew_any _).mono ?_
  rintro e w1 ⟨rfl, hA1, m1⟩
  have HA1 := Lib.hid hA1
  have HM1 := Lib.hid m1
  clear hA1 m1
  obtain ⟨b, hbA⟩ : ∃ b, W.heap.size = b := ⟨_, rfl⟩
  have hbl : W.heap.size ≤ b := by omega
  rw [hbA] at HA1 ⊢
  clear hbA
  go_wp2_with fail
  go_loopw [10] (fun q wr => ∃ (k : Nat) (v : Value) (evs : List Ev), k ≤ len ∧ q = .int .i64 k ∧ evs = measAll (l.take k) ∧ RefAt wr b v evs ∧ (∀ q, Foot b v q → W.heap.size ≤ q) ∧ Mods No W wr) (fun q _ => len - (intOf q).toNat)
  case atStart => exact ⟨0, _, [], Nat.zero_le _, rfl, rfl, HA1.out, fun q hq => (by rcases hq with rfl | hq; exact hbl; cases hq), HM1.out⟩
  case round =>
    clear HA1 HM1
    obtain ⟨k, v, evs, hk, rfl, hevs, hL, hF, hM⟩ := hrel
    have HL := Lib.hid hL
    have HF := Lib.hid hF
    have HM := Lib.hid hM
    have Hevs := Lib.hid hevs
    clear hL hF hM hevs
    by_cases hlt : k < len
    · obtain ⟨c, hc⟩ := some_at (l := l) (i := k) (by omega)
      obtain ⟨g, o, hC⟩ := Sl.callAt (HS.out.mods HM.out (fun _ _ _ h => h)) hl hc
      obtain ⟨g', o', hC0⟩ := Sl.callAt HS.out hl hc
      obtain ⟨rfl, e0, -, -, -⟩ := hC0
      obtain ⟨hgo, d0, d1, d2, d3⟩ := hC
      cases hgo
      have hgW : g < W.heap.size := World.block_lt_of_cell? W ⟨g, o + k * 4, none⟩ e0
      have hkl : (k : Int) < len := by omega
      have hmx : len ≤ 9223372036854775807 := HS.out.2.1
      have hwc := (Hwf.out c (List.mem_of_getElem? hc)).reg
      have Hc := Lib.hid hc
      have hnG : ¬ Foot b v g := fun h => by have := HF.out g h; omega
      have c0 : ∀ y : Sub (Mods (Foot b v) wr), y.w.cell? ⟨g, o + k * 4, none⟩ = some (.int .i64 c.reg) := fun y => y.s.cell d0 hnG
      have c1 : ∀ y : Sub (Mods (Foot b v) wr), y.w.cell? ⟨g, o + k * 4 + 1, none⟩ = some (.string c.text) := fun y => y.s.cell d1 hnG
      have c2 : ∀ y : Sub (Mods (Foot b v) wr), y.w.cell? ⟨g, o + k * 4 + 2, none⟩ = some (.string c.data) := fun y => y.s.cell d2 hnG
      have hne : Nonempty (Sub (Mods (Foot b v) wr)) := ⟨⟨wr, Mods.refl _ _⟩⟩
      clear e0 d0 d1 d2 d3 hc
      have hmeasA := Lib.hid (fun w (h : RefAt w b v evs) => refMeasure_any b v (replayL evs) evs (modZ c.reg 8) c.text c.data w h (by have := Hsm.out c (List.mem_of_getElem? Hc.out); omega))
      have hnext := Lib.hid (show (measRes (replayL evs) evs (modZ c.reg 8) c.text c.data).2.2 = measAll (l.take (k + 1)) by rw [take_succ_of Hc.out, measAll_push, ← Hevs.out]; rfl)
      have hmodv := Lib.hid (fun w => mod_val c.reg 8 hwc (by omega) w)
      generalize measRes (replayL evs) evs (modZ c.reg 8) c.text c.data = M at hmeasA hnext
      generalize modZ c.reg 8 = md at hmeasA hmodv
      obtain ⟨M1, M2, M3⟩ := M
      dsimp only at hnext hmeasA
      go_wp2_with fail
      refine wp_region_sub false (Mods (Foot b v) wr) [(0, false), (1, false), (2, false), (3, false), (4, false), (5, false), (7, false), (8, false), (9, false), (10, false), (11, false), (12, false), (13, false), (14, false), (15, false), (16, false), (6, true), (17, true)] (by kernel_rfl) (by kernel_rfl) (Mods.refl _ _).drew ?_
      simp only [pickL, List.map_cons, List.map_nil, List.getElem?_cons_zero, List.getElem?_cons_succ, Option.getD_some]
      refine wpSt_quiet rfl ?_
      go_big_quiet_want
      go_big_quiet_op
      go_big_quiet_on
      refine wpQuiet_nil ?_
      refine wpSt_quiet rfl ?_
      go_big_quiet_want
      go_big_quiet_op
      go_big_quiet_on
      refine wpQuiet_nil ?_
      refine wpSt_quiet rfl ?_
      go_big_quiet_want
      go_big_quiet_op
      go_big_quiet_on
      refine wpQuiet_nil ?_
      refine wpSt_quiet rfl ?_
      go_big_quiet_want
      go_big_quiet_op
      go_big_quiet_on
      refine wpQuiet_nil ?_
      refine wpSt_quiet rfl ?_
      go_big_quiet_want
      go_big_quiet_op
      go_big_quiet_on
      refine wpQuiet_nil ?_
      refine wpSt_quiet rfl ?_
      go_big_quiet_want
      go_big_quiet_op
      go_big_quiet_on
      refine wpQuiet_nil ?_
      refine wpSt_quiet rfl ?_
      go_big_quiet_want
      go_big_quiet_op
      go_big_quiet_on
      refine wpQuiet_nil ?_
      refine wpSt_quiet rfl ?_
      go_big_quiet_want
      go_big_quiet_op
      go_big_quiet_on
      refine wpQuiet_nil ?_
      refine wpSt_quiet rfl ?_
      go_big_quiet_want
      go_big_quiet_op
      go_big_quiet_on
      refine wpQuiet_nil ?_
      refine wpSt_quiet rfl ?_
      go_big_quiet_want
      go_big_quiet_op
      go_big_quiet_on
      refine wpQuiet_nil ?_
      refine wpSt_quiet rfl ?_
      go_big_quiet_want
      go_big_quiet_op
      go_big_quiet_on
      refine wpQuiet_nil ?_
      refine wpSt_quiet rfl ?_
      go_big_quiet_want
      go_big_quiet_op
      go_big_quiet_on
      refine wpQuiet_nil ?_
      refine wpSt_quiet rfl ?_
      go_big_quiet_want
      go_big_quiet_op
      go_big_quiet_on
      refine wpQuiet_nil ?_
      refine wpSt_quiet rfl ?_
      go_big_quiet_want
      go_big_quiet_op
      go_big_quiet_on
      refine wpQuiet_nil ?_
      refine wpSt_quiet rfl ?_
      go_big_quiet_want
      go_big_quiet_op
      go_big_quiet_on
      refine wpQuiet_nil ?_
      refine wpSt_quiet rfl ?_
      go_big_quiet_want
      go_big_quiet_op
      go_big_quiet_on
      refine wpQuiet_nil ?_
      refine wpSt_step ?_
      go_wp2_with fail
      refine (hmodv.out _).mono ?_
      rintro e w' ⟨rfl, rfl⟩
      go_wp2_with fail
      refine nowhere_up ⟨rfl, .inr (inSub_mk (Mods.refl _ _).drew), ?_⟩
      refine wpSt_step ?_
      go_wp2_with fail
      refine (hmeasA.out _ (HL.out.no (Mods.refl No wr).drew)).mono ?_
      rintro e w7 p7
      have he := p7.ret
      subst he
      have P7 := Lib.hid p7
      have g7 : Mods (Foot b v) wr w7 := p7.mods.undrew
      have G7 := Lib.hid g7
      clear p7
      go_wp2_with fail
      refine nowhere_up ⟨rfl, .inr (inSub_mk g7), ?_⟩
      refine wpSt_nil ?_
      clear g7 c0 c1 c2 hne
      go_wp2_with fail
      obtain ⟨v', hL', hb'⟩ := P7.out.log
      have hfn := foot_new (b := b) hb'
      go_roundw
      case rel =>
        refine ⟨k + 1, v', M3, by omega, by go_num, hnext.out, hL', fun q hq => ?_, ?_⟩
        · rcases hfn q hq with h | h
          · exact HF.out q h
          · exact Nat.le_trans HM.out.size h
        · exact HM.out.trans G7.out (fun q hq => .inr (HF.out q hq))
      case measure => simp [intOf]; omega
    · obtain rfl : k = len := by omega
      have hkl : (k : Int) ≤ k := Int.le_refl _
      rw [← hl, List.take_length] at Hevs
      have hev12 : evs.length ≤ 12 := by rw [Hevs.out]; have := measAll_len l; omega
      have Hin : Hid (inRegs evs) := Lib.hid (by rw [Hevs.out]; exact measAll_inRegs l)
      clear hlt hk
      go_wp2_with fail
      refine (refEvents_any b v evs _ HL.out (by omega)).mono ?_
      rintro e w2 ⟨⟨u, rfl, r2, b2⟩, m2⟩
      obtain ⟨A2, c2, rfl, -, -, hA2⟩ := r2.shape
      have HM2 := Lib.hid (HM.out.no m2)
      have HR2 := Lib.hid r2
      have HB2 := Lib.hid (fun q hq => Nat.le_trans HM.out.size (b2 q hq))
      have HG2 := Lib.hid HL.out.good
      have Hraw1 := Lib.hid (fun w (h : EvSl w Ar raw) => replay_sl Ar capr raw Hokr.out (by have := Hlr.out; omega) w h)
      have Hraw2 := Lib.hid (fun w (h : EvSl w Ar raw) => refReplay_sl Ar capr raw Hokr.out (by have := Hlr.out; omega) w h)
      rw [Hlr.out] at Hraw1 Hraw2
      clear r2 m2 b2 HL HM HF Hevs
      rcases Nat.eq_zero_or_pos evs.length with h0 | h0
      case' inl =>
        have h0' : (evs.length : Int) ≤ 0 := by omega
        clear h0
        go_wp2_with fail
        obtain ⟨L, hL⟩ : ∃ L, L = evs := ⟨_, rfl⟩
        have HLn : Hid (L.length = evs.length) := Lib.hid (by rw [hL])
        have HRx : Hid (Row w2 34 (.slice A2 evs.length c2) evs.length (L.flatMap evV)) := Lib.hid (by rw [hL]; exact HR2.out)
        have HMx := HM2
        have HGx : Hid (∀ e ∈ L, Ev.Ok e) := Lib.hid (by rw [hL]; exact HG2.out)
        clear hL
        obtain ⟨w3, hw3⟩ : ∃ w3, w3 = w2 := ⟨_, rfl⟩
        subst hw3
      case' inr =>
        have h0' : (0 : Int) < evs.length := by omega
        obtain ⟨g, rfl⟩ := hA2 (by omega)
        have hz := modZ_range kk (m := (evs.length : Int)) (by omega)
        have hmodv := Lib.hid (fun w => mod_val kk (evs.length : Int) hkk (by omega) w)
        obtain ⟨j, hj⟩ : ∃ j : Nat, modZ kk (evs.length : Int) = j := ⟨(modZ kk (evs.length : Int)).toNat, by omega⟩
        rw [hj] at hmodv hz
        have hjl : (j : Int) < evs.length := by omega
        obtain ⟨e, he⟩ := some_at (l := evs) (i := j) (by omega)
        have hoke := HG2.out e (List.mem_of_getElem? he)
        have hz2 := modZ_range rr (m := 10) (by omega)
        have hmodr := Lib.hid (fun w => mod_val rr 10 hrr (by omega) w)
        have c0 : w2.cell? ⟨g, j * 34, none⟩ = some (.int .i64 e.reg) := HR2.out.cell (by
          have := flat_get_mem evV 34 evs (fun x hx => evV_length (HG2.out x hx).dig) j 0 (by omega)
          rw [Nat.add_zero, he] at this
          exact this)
        have f0 : w2.frozen? ⟨g, j * 34, none⟩ = false := HR2.out.free (by omega)
        have hR' := HR2.out.set (j * 34) (.int .i64 (modZ rr 10 - 1))
        rw [flat_set evs HG2.out j e _ he] at hR'
        have HR' := Lib.hid hR'
        have HM' := Lib.hid (HM2.out.setCell (p := ⟨g, j * 34, none⟩) (.inr (HB2.out g rfl)) (.int .i64 (modZ rr 10 - 1)))
        have HG' := Lib.hid (ok_set HG2.out j (Ok.reg hoke (r := modZ rr 10 - 1) (by omega) (by omega)))
        generalize modZ rr 10 = md at hmodr HR' HM' hz2 HG'
        clear he hoke hR' hj hz
        go_wp2_with fail
        refine (hmodv.out _).mono ?_
        rintro e' w'' ⟨rfl, rfl⟩
        go_wp2_with fail
        refine (hmodr.out _).mono ?_
        rintro e' w'' ⟨rfl, rfl⟩
        go_wp2_with fail
        have HLn : Hid ((evs.set j ⟨md - 1, e.dig, e.text⟩).length = evs.length) := Lib.hid (List.length_set ..)
        have HRx := HR'
        have HMx := HM'
        have HGx := HG'
        generalize evs.set j ⟨md - 1, e.dig, e.text⟩ = L at HLn HRx HGx
        generalize w2.setCell ⟨g, j * 34, none⟩ (.int .i64 (md - 1)) = w3 at HRx HMx ⊢
        obtain ⟨A2, hA2'⟩ : ∃ A2 : Option Addr, some ⟨g, 0, none⟩ = A2 := ⟨_, rfl⟩
        rw [hA2'] at HRx ⊢
      all_goals
        have hL1000 : L.length ≤ 1000 := by have := HLn.out; omega
        have Hx1 := Lib.hid (fun w (h : EvSl w A2 L) => replay_sl A2 c2 L HGx.out hL1000 w h)
        have Hx2 := Lib.hid (fun w (h : EvSl w A2 L) => refReplay_sl A2 c2 L HGx.out hL1000 w h)
        have HEx := Lib.hid (Row.evSl (c := c2) (by rw [HLn.out]; exact HRx.out) HGx.out)
        rw [HLn.out] at Hx1 Hx2
        have HSr3 := Lib.hid (HSr.out.no HMx.out)
        have o1 := resRp_ok raw
        have l1 := resRp_len raw
        have o2 := resRp_ok L
        have l2 := resRp_len L
        have hu1 := Lib.hid (fun w e w' (p : RpPost raw w e w') => p.uni)
        have hu2 := Lib.hid (fun w e w' (p : RpPost L w e w') => p.uni)
        generalize resRp raw = R1 at o1 l1 hu1
        generalize resRp L = R2 at o2 l2 hu2
        obtain ⟨rs1, E1⟩ := R1
        obtain ⟨rs2, E2⟩ := R2
        dsimp only at o1 l1 hu1 o2 l2 hu2
        have O1 := Lib.hid o1
        have O2 := Lib.hid o2
        clear o1 o2 HR2 HM2 HB2 HG2 HRx
        refine (Hraw1.out _ HSr3.out).mono ?_
        rintro e1 w4 p4
        obtain ⟨Aa, ca, rfl, hRa, m4⟩ := hu1.out _ _ _ p4
        have HRa4 := Lib.hid hRa
        have HM4 := Lib.hid (HMx.out.no m4)
        have HSr4 := Lib.hid (HSr3.out.no m4)
        have HEx4 := Lib.hid (HEx.out.no m4)
        clear p4 hRa m4 HMx HSr3 HEx
        go_wp2_with fail
        refine (Hraw2.out _ HSr4.out).mono ?_
        rintro e1 w5 p5
        obtain ⟨Ab, cb, rfl, hRb, m5⟩ := hu1.out _ _ _ p5
        have HRb5 := Lib.hid hRb
        have HRa5 := Lib.hid (HRa4.out.no m5)
        have HM5 := Lib.hid (HM4.out.no m5)
        have HEx5 := Lib.hid (HEx4.out.no m5)
        clear p5 hRb m5 HM4 HSr4 HEx4 HRa4
        go_wp2_with fail
        refine (Hx1.out _ HEx5.out).mono ?_
        rintro e1 w6 p6
        obtain ⟨Ac, cc, rfl, hRc, m6⟩ := hu2.out _ _ _ p6
        have HRc6 := Lib.hid hRc
        have HRa6 := Lib.hid (HRa5.out.no m6)
        have HRb6 := Lib.hid (HRb5.out.no m6)
        have HM6 := Lib.hid (HM5.out.no m6)
        have HEx6 := Lib.hid (HEx5.out.no m6)
        clear p6 hRc m6 HM5 HEx5 HRa5 HRb5
        go_wp2_with fail
        refine (Hx2.out _ HEx6.out).mono ?_
        rintro e1 w7 p7
        obtain ⟨Ad, cd, rfl, hRd, m7⟩ := hu2.out _ _ _ p7
        have HRd7 := Lib.hid hRd
        have HRc7 := Lib.hid (HRc6.out.no m7)
        have HRa7 := Lib.hid (HRa6.out.no m7)
        have HRb7 := Lib.hid (HRb6.out.no m7)
        have HM7 := Lib.hid (HM6.out.no m7)
        clear p7 hRd m7 HM6 HEx6 HRa6 HRb6 HRc6
        go_wp2_with fail
        refine (equalD_same Aa Ab ca cb rs1 O1.out (by omega) _ HRa7.out HRb7.out).mono ?_
        rintro e1 w8 ⟨rfl, m8⟩
        have HRd8 := Lib.hid (HRd7.out.no m8)
        have HRc8 := Lib.hid (HRc7.out.no m8)
        have HM8 := Lib.hid (HM7.out.no m8)
        clear m8 HM7 HRa7 HRb7 HRc7 HRd7
        go_wp2_with fail
        refine (equalD_same Ac Ad cc cd rs2 O2.out (by omega) _ HRc8.out HRd8.out).mono ?_
        rintro e1 w9 ⟨rfl, m9⟩
        have HM9 := Lib.hid (HM8.out.no m9)
        clear m9 HM8 HRc8 HRd8
        go_wp2_with fail
        refine (awake_any _).mono ?_
        rintro e1 w10 ⟨rfl, m10⟩
        have HM10 := Lib.hid (HM9.out.no m10)
        clear m10 HM9
        go_wp2_with fail
        go_ret
        exact ⟨rfl, HM10.out⟩
theorem ra_law (Ar : Option Addr) (nr capr : Nat) (l0 : List EvW) (hl0 : l0.length = nr) (_ : ∀ x ∈ l0, EvW.Good x) (_ : nr ≤ capr) (_ : capr ≤ 9223372036854775807) {W : World} (hS0 : Sl W 34 Ar nr (l0.flatMap evW))
    (A : Option Addr) (len cap : Nat) (l : List MCall) (hl : l.length = len) (hwf : ∀ c ∈ l, MCall.WF c) (_ : len ≤ cap) (_ : cap ≤ 9223372036854775807) (hS : Sl W 4 A len (l.flatMap mCells))
    (kk : Int) (hkk : -9223372036854775808 ≤ kk ∧ kk < 9223372036854775808) (rr : Int) (hrr : -9223372036854775808 ≤ rr ∧ rr < 9223372036854775808) :
    Calls Try.prog 6 #[.slice Ar nr capr, .slice A len cap, .int .i64 kk, .int .i64 rr] W fun e w' => e = .returned (.bool true) ∧ Below W.heap.size W w' := by
  refine Calls.mono (R := fun e w' => e = .returned (.bool true) ∧ Mods No W w') ?_ (fun e w' ⟨h1, h2⟩ => ⟨h1, h2.toBelow (fun _ h => h.elim) (Nat.le_refl _)⟩)
  obtain ⟨raw, hlr, hokr, hSr⟩ := ev_args hl0 hS0
  have Hlarge := Lib.hid (large_any A len cap l W hl hS)
  by_cases h1 : 20 < nr
  · have h1' : (20 : Int) < nr := by omega
    clear hS0 hSr hokr hlr hl0 h1 hS hwf Hlarge
    go_enter Try.func6, Try.ntmps6
    go_wp2_with fail
    refine (awake_any _).mono ?_
    rintro e w9 ⟨rfl, m9⟩
    go_wp2_with fail
    go_ret
    exact ⟨rfl, m9⟩
  have h1' : (nr : Int) ≤ 20 := by omega
  by_cases hb : isLarge l = true
  · rw [hb] at Hlarge
    clear hS0 hSr hokr hlr hl0 h1 hS hwf hb
    go_enter Try.func6, Try.ntmps6
    go_wp2_with fail
    refine Hlarge.out.mono ?_
    rintro e w' ⟨rfl, rfl⟩
    go_wp2_with fail
    refine (awake_any _).mono ?_
    rintro e w9 ⟨rfl, m9⟩
    go_wp2_with fail
    go_ret
    exact ⟨rfl, m9⟩
  · exact ra_walk Ar nr capr raw hlr hokr h1' A len cap l hl hwf kk rr hkk hrr (Sl.evSl hSr hlr hokr) hS (by simpa using hb)
end Go.Proofs.Ytamdanpkkcdhbaa
