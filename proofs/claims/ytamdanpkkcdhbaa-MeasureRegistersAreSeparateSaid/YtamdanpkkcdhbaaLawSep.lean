/- The statement MeasureRegistersAreSeparate. -/
import Derived.Test.YtamdanpkkcdhbaaSep1
set_option linter.unusedVariables false
set_option linter.unusedSimpArgs false
namespace Go.Proofs.Ytamdanpkkcdhbaa
open Go.RowKit Go.PF

/-- two of the program's logs beside one another -/
structure Duo2 (W w : World) (bA bB : Nat) (vA vB : Value) (evA evB : List Ev) : Prop where
  a : LogAt w bA vA (replayL evA) evA
  b : LogAt w bB vB (replayL evB) evB
  apart : ∀ q, Foot bA vA q → ¬ Foot bB vB q
  newB : ∀ q, Foot bB vB q → W.heap.size ≤ q
  mods : Mods No W w
theorem Duo2.no {W w w' : World} {bA bB : Nat} {vA vB : Value} {evA evB : List Ev} (h : Duo2 W w bA bB vA vB evA evB) (hm : Mods No w w') : Duo2 W w' bA bB vA vB evA evB :=
  ⟨h.a.no hm, h.b.no hm, h.apart, h.newB, h.mods.no hm⟩
theorem Duo2.stepB {W w w1 : World} {bA bB : Nat} {vA vB : Value} {evA evB : List Ev} {M1 : Int} {M2 : List (List Int)} {M3 : List Ev} {e : Ending} (h : Duo2 W w bA bB vA vB evA evB) (p : MeasPost bB vB (M1, M2, M3) w e w1) (hr : M2 = replayL M3) : ∃ vB', Duo2 W w1 bA bB vA vB' evA M3 := by
  obtain ⟨vB', hB, gB⟩ := p.log
  subst hr
  have h2 := foot_new (b := bB) gB
  refine ⟨vB', h.a.mods p.mods (fun q hq hf => h.apart q hq hf), hB, fun q hq hf => ?_, fun q hq => ?_, h.mods.trans p.mods (fun q hq => .inr (h.newB q hq))⟩
  · rcases h2 q hf with h3 | h3
    · exact h.apart q hq h3
    · have : q < w.heap.size := by
        rcases hq with rfl | hq
        · exact h.a.lt
        · exact h.a.low q hq
      omega
  · rcases h2 q hq with h3 | h3
    · exact h.newB q h3
    · exact Nat.le_trans h.mods.size h3

set_option maxHeartbeats 4000000 in
set_option maxRecDepth 100000 in
theorem sep_walk (A : Option Addr) (len cap : Nat) (l : List MCall) (hl : l.length = len) (hwf : ∀ c ∈ l, MCall.WF c) {W : World} (hS : Sl W 4 A len (l.flatMap mCells)) (hb : isLarge l = false) :
    Calls Try.prog 7 #[.slice A len cap] W fun e w' => e = .returned (.bool true) ∧ Mods No W w' := by
  obtain ⟨h12, hsm⟩ := isLarge_small hb
  have HS := Lib.hid hS
  have Hwf := Lib.hid hwf
  have Hsm := Lib.hid hsm
  have Hlarge := Lib.hid (fun w (h : Sl w 4 A len (l.flatMap mCells)) => large_any A len cap l w hl h)
  rw [hb] at Hlarge
  have Hmeas := Lib.hid (fun w (h : Sl w 4 A len (l.flatMap mCells)) => measured_any A len cap l hl hwf hsm w h)
  have hev12 : (measAll l).length ≤ 12 := by have := measAll_len l; omega
  have hevB : (sepAll 8 l).length ≤ 96 := by have := sepAll_len 8 l; omega
  clear hS hwf hsm hb
  go_enter Try.func7, Try.ntmps7
  go_wp2_with fail
  refine (Hlarge.out _ HS.out).mono ?_
  rintro e w' ⟨rfl, rfl⟩
  go_wp2_with fail
  refine (Hmeas.out _ HS.out).mono ?_
  rintro e w1 ⟨⟨bA, vA, rfl, hL1, hF1⟩, hM1⟩
  have HL1 := Lib.hid hL1
  have HF1 := Lib.hid hF1
  have HM1 := Lib.hid hM1
  clear hL1 hF1 hM1
  go_wp2_with fail
  refine (new_any _).mono ?_
  rintro e w2 ⟨rfl, hB2, m2⟩
  have hD : Duo2 W w2 bA w1.heap.size vA (.slice none 0 0) (measAll l) [] := by
    refine ⟨HL1.out.no m2, hB2, fun q hq hf => ?_, fun q hq => ?_, HM1.out.no m2⟩
    · rcases hf with h | h
      · subst h
        rcases hq with h | h
        · have := HL1.out.lt; omega
        · have := HL1.out.low _ h; omega
      · cases h
    · rcases hq with rfl | hq
      · exact HM1.out.size
      · cases hq
  generalize w1.heap.size = bB at hD hB2 ⊢
  have HD := Lib.hid hD
  clear hD HL1 HF1 HM1 hB2 m2
  go_wp2_with fail
  go_loopw [5] (fun q wr => ∃ (r : Nat) (vB : Value), r ≤ 8 ∧ q = .int .i64 r ∧ Duo2 W wr bA bB vA vB (measAll l) (sepAll r l)) (fun q _ => 8 - (intOf q).toNat)
  case atStart => exact ⟨0, _, by omega, rfl, HD.out⟩
  case round =>
    clear HD
    obtain ⟨r, vB, hr, rfl, hD⟩ := hrel
    have HD := Lib.hid hD
    clear hD
    by_cases hlr : r < 8
    · have hr8 : (r : Int) < 8 := by omega
      go_wp2_with fail
      obtain ⟨wo, hwo⟩ : ∃ wo : World, wo = wr := ⟨_, rfl⟩
      go_loopw [6] (fun q wr => ∃ (k : Nat) (vB : Value) (evs : List Ev), k ≤ len ∧ q = .int .i64 k ∧ evs = sepR r (sepAll r l) (l.take k) ∧ Duo2 W wr bA bB vA vB (measAll l) evs) (fun q _ => len - (intOf q).toNat)
      case atStart => exact ⟨0, _, _, Nat.zero_le _, rfl, rfl, HD.out⟩
      case round =>
        clear HD
        obtain ⟨k, vB2, evs, hk, rfl, hevs, hD⟩ := hrel
        have HD := Lib.hid hD
        have Hevs := Lib.hid hevs
        clear hD hevs
        by_cases hlt : k < len
        · obtain ⟨c, hc⟩ := some_at (l := l) (i := k) (by omega)
          obtain ⟨g, o, hC⟩ := Sl.callAt (HS.out.mods HD.out.mods (fun _ _ _ h => h)) hl hc
          obtain ⟨g', o', hC0⟩ := Sl.callAt HS.out hl hc
          obtain ⟨rfl, e0, -, -, -⟩ := hC0
          obtain ⟨hgo, d0, d1, d2, d3⟩ := hC
          cases hgo
          have hkl : (k : Int) < len := by omega
          have hmx : len ≤ 9223372036854775807 := HS.out.2.1
          have hwc := (Hwf.out c (List.mem_of_getElem? hc)).reg
          have Hc := Lib.hid hc
          have hmodv := Lib.hid (fun w => mod_val c.reg 8 hwc (by omega) w)
          have hnext := Lib.hid (show sepStep r evs c = sepR r (sepAll r l) (l.take (k + 1)) by rw [take_succ_of Hc.out, sepR_push, ← Hevs.out])
          clear e0 hc d3
          by_cases hq : modZ c.reg 8 = (r : Int)
          · rw [hq] at hmodv
            have hmeasA := Lib.hid (fun w (h : LogAt w bB vB2 (replayL evs) evs) => measure_any bB vB2 (replayL evs) evs r c.text c.data w h (by have := Hsm.out c (List.mem_of_getElem? Hc.out); omega))
            have hnx := hnext.out
            unfold sepStep meas1 at hnx
            rw [if_pos hq, hq] at hnx
            have hregs := Lib.hid (measRes_replay evs r c.text c.data)
            generalize measRes (replayL evs) evs r c.text c.data = M at hmeasA hnx hregs
            obtain ⟨M1, M2, M3⟩ := M
            dsimp only at hnx hregs
            have Hnx := Lib.hid hnx
            clear hnx hnext hq
            go_wp2_with fail
            refine (hmodv.out _).mono ?_
            rintro e w' ⟨rfl, rfl⟩
            have c1 : ∀ y : Sub (Mods No wr), y.w.cell? ⟨g, o + k * 4 + 1, none⟩ = some (.string c.text) := fun y => y.s.cell d1 id
            have c2 : ∀ y : Sub (Mods No wr), y.w.cell? ⟨g, o + k * 4 + 2, none⟩ = some (.string c.data) := fun y => y.s.cell d2 id
            have hne : Nonempty (Sub (Mods No wr)) := ⟨⟨wr, Mods.refl _ _⟩⟩
            clear d0 d1 d2
            go_wp2_with fail
            refine wp_region_sub true (Mods No wr) [(0, false), (1, false), (2, false), (3, false), (4, false), (5, false), (6, false), (7, false), (8, false), (9, false), (10, false), (11, false), (12, true)] (by kernel_rfl) (by kernel_rfl) (Mods.refl _ _).drew ?_
            simp only [pickL, List.map_cons, List.map_nil, List.getElem?_cons_zero, List.getElem?_cons_succ, Option.getD_some]
            refine wpSt_quiet rfl ?_
            go_big_quiet_want
            go_big_quiet_op
            go_big_quiet_on
            refine wpQuiet_nil ?_
            refine wpSt_quiet rfl ?_
            go_big_quiet_want
            go_big_quiet_op
            go_big_quiet_on
            refine wpQuiet_nil ?_
            refine wpSt_quiet rfl ?_
            go_big_quiet_want
            go_big_quiet_op
            go_big_quiet_on
            refine wpQuiet_nil ?_
            refine wpSt_quiet rfl ?_
            go_big_quiet_want
            go_big_quiet_op
            go_big_quiet_on
            refine wpQuiet_nil ?_
            refine wpSt_quiet rfl ?_
            go_big_quiet_want
            go_big_quiet_op
            go_big_quiet_on
            refine wpQuiet_nil ?_
            refine wpSt_quiet rfl ?_
            go_big_quiet_want
            go_big_quiet_op
            go_big_quiet_on
            refine wpQuiet_nil ?_
            refine wpSt_quiet rfl ?_
            go_big_quiet_want
            go_big_quiet_op
            go_big_quiet_on
            refine wpQuiet_nil ?_
            refine wpSt_quiet rfl ?_
            go_big_quiet_want
            go_big_quiet_op
            go_big_quiet_on
            refine wpQuiet_nil ?_
            refine wpSt_quiet rfl ?_
            go_big_quiet_want
            go_big_quiet_op
            go_big_quiet_on
            refine wpQuiet_nil ?_
            refine wpSt_quiet rfl ?_
            go_big_quiet_want
            go_big_quiet_op
            go_big_quiet_on
            refine wpQuiet_nil ?_
            refine wpSt_quiet rfl ?_
            go_big_quiet_want
            go_big_quiet_op
            go_big_quiet_on
            refine wpQuiet_nil ?_
            refine wpSt_quiet rfl ?_
            go_big_quiet_want
            go_big_quiet_op
            go_big_quiet_on
            refine wpQuiet_nil ?_
            refine wpSt_step ?_
            go_wp2_with fail
            refine (hmeasA.out _ (HD.out.no (Mods.refl No wr).drew).b).mono ?_
            rintro e w7 p7
            have he := p7.ret
            dsimp only at he
            subst he
            obtain ⟨vB', hD'⟩ := (HD.out.no (Mods.refl No wr).drew).stepB p7 hregs.out
            have HD' := Lib.hid hD'
            clear p7 hD' c1 c2 hne
            go_wp2_with fail
            refine nowhere_up ⟨rfl, .inl rfl, ?_⟩
            refine wpSt_nil ?_
            go_wp2_with fail
            go_roundw
            case rel => exact ⟨k + 1, vB', M3, by omega, by go_num, Hnx.out, HD'.out⟩
            case measure => simp [intOf]; omega
          · have hnx := hnext.out
            unfold sepStep at hnx
            rw [if_neg hq] at hnx
            have Hnx := Lib.hid hnx
            have hne : (modZ c.reg 8 == (r : Int)) = false := by simpa using hq
            clear hnx hnext hq
            generalize modZ c.reg 8 = md at hne hmodv
            have hne' : ¬ md = (r : Int) := by simpa using hne
            go_wp2_with fail
            refine (hmodv.out _).mono ?_
            rintro e w' ⟨rfl, rfl⟩
            go_wp2_with fail
            go_roundw
            case rel => exact ⟨k + 1, vB2, evs, by omega, by go_num, Hnx.out, HD.out⟩
            case measure => simp [intOf]; omega
        · obtain rfl : k = len := by omega
          have hkl : (k : Int) ≤ k := Int.le_refl _
          rw [← hl, List.take_length] at Hevs
          clear hlt hk
          go_wp2_with fail
          go_roundw
          case rel => exact ⟨r + 1, vB2, by omega, by go_num, by rw [show sepAll (r + 1) l = evs from Hevs.out.symm]; exact HD.out⟩
          case measure => simp [intOf]; omega
    · obtain rfl : r = 8 := by omega
      clear hlr hr
      rw [show ((8 : Nat) : Int) = 8 from rfl]
      go_wp2_with fail
      obtain ⟨wo, hwo⟩ : ∃ wo : World, wo = wr := ⟨_, rfl⟩
      go_loopw [7] (fun q wr => ∃ r : Nat, r ≤ 8 ∧ q = .int .i64 r ∧ Duo2 W wr bA bB vA vB (measAll l) (sepAll 8 l)) (fun q _ => 8 - (intOf q).toNat)
      case atStart => exact ⟨0, by omega, rfl, HD.out⟩
      case round =>
        clear HD
        obtain ⟨r, hr, rfl, hD⟩ := hrel
        have HT := Lib.hid hD
        clear hD
        by_cases hlr : r < 8
        · have hr8 : (r : Int) < 8 := by omega
          have hlr := regRes_length (replayL_ok (measAll l)) r
          have HRA := Lib.hid (register_any bA vA (replayL (measAll l)) (measAll l) r wr HT.out.a)
          have HRB := Lib.hid (fun w (h : LogAt w bB vB (replayL (sepAll 8 l)) (sepAll 8 l)) => register_any bB vB (replayL (sepAll 8 l)) (sepAll 8 l) r w h)
          rw [← sep_regRes l h12 r (by omega)] at HRB
          have hE : (regRes (replayL (measAll l)) r).2 = 0 := by unfold regRes; rw [if_pos (by omega)]
          obtain ⟨X, hX⟩ : ∃ X, (regRes (replayL (measAll l)) r).1 = X := ⟨_, rfl⟩
          rw [hX] at hlr HRA HRB
          rw [hE] at HRA HRB
          have HX := Lib.hid hlr
          clear hX hE hlr
          go_wp2_with fail
          refine HRA.out.mono ?_
          rintro e w3 ⟨rfl, m3⟩
          have HI := Lib.hid (info32' HX.out)
          have hT3 := Lib.hid (boxD_there w3 HX.out)
          have hA3 := Lib.hid (boxD_arr w3 HX.out)
          have hM3 := Lib.hid (m3.no (boxD_mods w3 X))
          clear m3
          go_wp2_with ((with_reducible refine wpList_store_mid ?_ 26 (.tmp 8) (.tmp 63) ?_ w3.heap.size 0 (u8s X).toArray ?_ ?_ hT3.out HI.out (u8s_one _) ?_); rfl; rfl; rfl; rfl)
          obtain ⟨B7, hB7⟩ : ∃ b, w3.heap.size = b := ⟨_, rfl⟩
          rw [hB7] at hA3 hM3 ⊢
          clear hB7 hT3
          generalize (w3.alloc (.cells #[Value.int .u8 0, Value.int .u8 0, Value.int .u8 0, Value.int .u8 0, Value.int .u8 0, Value.int .u8 0, Value.int .u8 0, Value.int .u8 0, Value.int .u8 0, Value.int .u8 0, Value.int .u8 0, Value.int .u8 0, Value.int .u8 0, Value.int .u8 0, Value.int .u8 0, Value.int .u8 0, Value.int .u8 0, Value.int .u8 0, Value.int .u8 0, Value.int .u8 0, Value.int .u8 0, Value.int .u8 0, Value.int .u8 0, Value.int .u8 0, Value.int .u8 0, Value.int .u8 0, Value.int .u8 0, Value.int .u8 0, Value.int .u8 0, Value.int .u8 0, Value.int .u8 0, Value.int .u8 0] 26)).setCells B7 0 (u8s X) = w4 at hA3 hM3 ⊢
          refine (HRB.out _ (HT.out.b.no hM3.out)).mono ?_
          rintro e w5 ⟨rfl, m5⟩
          have hT5 := Lib.hid (boxD_there w5 HX.out)
          have hA5 := Lib.hid (boxD_arr w5 HX.out)
          have hA3' := Lib.hid ((hA3.out.mods m5 id).mods (boxD_mods w5 X) id)
          have hM5 := Lib.hid (hM3.out.no (m5.no (boxD_mods w5 X)))
          clear m5 hA3 hM3
          have HT7 := Lib.hid (HT.out.no hM5.out)
          have hNE : ∀ w, (binOp .neq 26 (.agg (u8s X).toArray) (.agg (u8s X).toArray)).run Try.prog w = .ok (.bool false) w := fun w => by
            rw [digNe X X HX.out HX.out w]
            simp
          have HI2 := Lib.hid (info32 HX.out)
          have HG7 := Lib.hid hA3'.out.range
          have HG9 := Lib.hid hA5.out.range
          clear hA3' hA5 hM5 HT HRA HRB
          go_wp2_with (first
            | ((with_reducible refine wpList_store_mid ?_ 26 (.tmp 10) (.tmp 69) ?_ w5.heap.size 0 (u8s X).toArray ?_ ?_ hT5.out HI.out (u8s_one _) ?_); rfl; rfl; rfl; rfl)
            | ((with_reducible refine wpList_load_mid_g ?_ 26 (.tmp 8) ?_ B7 0 ?_ (u8s X) _ HG7.out Try.underlying26 rfl HI2.out ?_); rfl; rfl; rfl)
            | ((with_reducible refine wpList_load_mid_g ?_ 26 (.tmp 10) ?_ w5.heap.size 0 ?_ (u8s X) _ HG9.out Try.underlying26 rfl HI2.out ?_); rfl; rfl; rfl))
          go_roundw
          case rel => exact ⟨r + 1, by omega, by go_num, HT7.out⟩
          case measure => simp [intOf]; omega
        · obtain rfl : r = 8 := by omega
          have hlen := Lib.hid (sep_length l h12)
          go_wp2_with fail
          refine (events_any bA vA _ (measAll l) _ HT.out.a (by omega)).mono ?_
          rintro e w9 ⟨⟨u, rfl, r9, b9⟩, m9⟩
          obtain ⟨A9, c9, rfl, -, -, -⟩ := r9.shape
          have HT9 := Lib.hid (HT.out.no m9)
          clear r9 b9 m9 HT
          go_wp2_with fail
          refine (events_any bB vB _ (sepAll 8 l) _ HT9.out.b (by omega)).mono ?_
          rintro e w10 ⟨⟨v, rfl, r10, b10⟩, m10⟩
          obtain ⟨A10, c10, rfl, -, -, -⟩ := r10.shape
          have HT10 := Lib.hid (HT9.out.no m10)
          clear r10 b10 m10 HT9
          rw [← hlen.out]
          go_wp2_with fail
          refine (awake_any _).mono ?_
          rintro e w11 ⟨rfl, m11⟩
          have HM := Lib.hid (HT10.out.mods.no m11)
          clear m11 HT10
          go_wp2_with fail
          go_ret
          exact ⟨rfl, HM.out⟩
theorem sep_law (A : Option Addr) (len cap : Nat) (l : List MCall) (hl : l.length = len) (hwf : ∀ c ∈ l, MCall.WF c) (_ : len ≤ cap) (_ : cap ≤ 9223372036854775807) {W : World} (hS : Sl W 4 A len (l.flatMap mCells)) :
    Calls Try.prog 7 #[.slice A len cap] W fun e w' => e = .returned (.bool true) ∧ Below W.heap.size W w' := by
  refine Calls.mono (R := fun e w' => e = .returned (.bool true) ∧ Mods No W w') ?_ (fun e w' ⟨h1, h2⟩ => ⟨h1, h2.toBelow (fun _ h => h.elim) (Nat.le_refl _)⟩)
  by_cases hb : isLarge l = false
  · exact sep_walk A len cap l hl hwf hS hb
  · have hb' : isLarge l = true := by simpa using hb
    have Hlarge := Lib.hid (large_any A len cap l W hl hS)
    rw [hb'] at Hlarge
    clear hb hb' hS hwf
    go_enter Try.func7, Try.ntmps7
    go_wp2_with fail
    refine Hlarge.out.mono ?_
    rintro e w' ⟨rfl, rfl⟩
    go_wp2_with fail
    refine (awake_any _).mono ?_
    rintro e w9 ⟨rfl, m9⟩
    go_wp2_with fail
    go_ret
    exact ⟨rfl, m9⟩
end Go.Proofs.Ytamdanpkkcdhbaa
