/- The statement MeasureLogAgrees: every measurement answers as the reference's, and the registers and events agree behind it. -/
import Derived.Test.YtamdanpkkcdhbaaLw1
set_option linter.unusedVariables false
set_option linter.unusedSimpArgs false
namespace Go.Proofs.Ytamdanpkkcdhbaa
open Go.RowKit Go.PF

structure LogPost (W : World) (e : Ending) (w' : World) : Prop where
  ret : e = .returned (.bool true)
  mods : Mods No W w'

set_option maxHeartbeats 4000000 in
set_option maxRecDepth 100000 in
theorem log_walk (A : Option Addr) (len cap : Nat) (l : List MCall) (hl : l.length = len) (hwf : ∀ c ∈ l, MCall.WF c) {W : World} (hS : Sl W 4 A len (l.flatMap mCells)) (hb : isLarge l = false) :
    Calls Try.prog 5 #[.slice A len cap] W (LogPost W) := by
  obtain ⟨h12, hsm⟩ := isLarge_small hb
  have HS := Lib.hid hS
  have Hwf := Lib.hid hwf
  have Hsm := Lib.hid hsm
  have Hlarge := Lib.hid (fun w (h : Sl w 4 A len (l.flatMap mCells)) => large_any A len cap l w hl h)
  rw [hb] at Hlarge
  clear hS hwf hsm hb
  go_enter Try.func5, Try.ntmps5
  go_wp2_with fail
  refine (Hlarge.out _ HS.out).mono ?_
  rintro e w' ⟨rfl, rfl⟩
  go_wp2_with fail
  refine (new_any _).mono ?_
  rintro e w1 ⟨rfl, hA1, m1⟩
  have HA1 := Lib.hid hA1
  have HM1 := Lib.hid m1
  clear hA1 m1
  go_wp2_with fail
  refine (refNew_any _).mono ?_
  rintro e w2 ⟨rfl, hB2, m2⟩
  have hT : Two W w2 W.heap.size w1.heap.size (.slice none 0 0) (.slice none 0 0) [] := by
    refine ⟨HA1.out.no m2, hB2, fun e he => (by cases he), fun q hq hf => ?_, fun q hq => ?_, fun q hq => ?_, HM1.out.no m2⟩
    · have := HA1.out.lt
      rcases hq with rfl | hq
      · rcases hf with h | h
        · omega
        · cases h
      · cases hq
    · rcases hq with rfl | hq
      · exact Nat.le_refl _
      · cases hq
    · rcases hq with rfl | hq
      · exact HM1.out.size
      · cases hq
  obtain ⟨bA, hbA⟩ : ∃ b, W.heap.size = b := ⟨_, rfl⟩
  rw [hbA] at hT ⊢
  generalize w1.heap.size = bB at hT hB2 ⊢
  have HT := Lib.hid hT
  clear hT HA1 HM1 hB2 m2 hbA
  go_wp2_with fail
  go_loopw [5] (fun q wr => ∃ (k : Nat) (vA vB : Value) (evs : List Ev), k ≤ len ∧ q = .int .i64 k ∧ evs.length ≤ k ∧ Two W wr bA bB vA vB evs) (fun q _ => len - (intOf q).toNat)
  case atStart => exact ⟨0, _, _, [], Nat.zero_le _, rfl, Nat.le_refl _, HT.out⟩
  case round =>
    clear HT
    obtain ⟨k, vA, vB, evs, hk, rfl, hevs, hT⟩ := hrel
    by_cases hlt : k < len
    · obtain ⟨c, hc⟩ := some_at (l := l) (i := k) (by omega)
      have hSr := HS.out.mods hT.mods (fun _ _ _ h => h)
      obtain ⟨g, o, hC⟩ := Sl.callAt hSr hl hc
      obtain ⟨rfl, c0, c1, c2, c3⟩ := hC
      have hkl : (k : Int) < len := by omega
      have hmx : len ≤ 9223372036854775807 := hSr.2.1
      have HC := Lib.hid hc
      have HT := Lib.hid hT
      have HSr := Lib.hid hSr
      have hwc := (Hwf.out c (List.mem_of_getElem? hc)).reg
      clear hc hT hSr
      rcases Bool.eq_false_or_eq_true c.odd with ho | ho'
      case' inl =>
        go_wp2_with fail
        refine (mod_any _ 8 hwc (by omega) _).mono ?_
        rintro e w' ⟨r0, hr0, rfl, rfl⟩
        go_wp2_with fail
        clear hr0
        generalize (r0 : Int) = r1
        generalize c.reg = r
      case' inr =>
        go_wp2_with fail
        refine (mod_any _ 8 hwc (by omega) _).mono ?_
        rintro e w' ⟨r0, hr0, rfl, rfl⟩
        go_wp2_with fail
        clear hr0
        generalize (r0 : Int) = r
      all_goals
        have hlr := regRes_length (replayL_ok evs) r
        have HRA := Lib.hid (register_any bA vA (replayL evs) evs r wr HT.out.a)
        have HRB := Lib.hid (fun w (h : RefAt w bB vB evs) => refRegister_any bB vB evs HT.out.inr (by omega) r w h)
        obtain ⟨X, hX⟩ : ∃ X, (regRes (replayL evs) r).1 = X := ⟨_, rfl⟩
        obtain ⟨E, hE⟩ : ∃ E, (regRes (replayL evs) r).2 = E := ⟨_, rfl⟩
        rw [hX] at hlr HRA HRB
        rw [hE] at HRA HRB
        have HX := Lib.hid hlr
        clear hX hE hlr
        refine HRA.out.mono ?_
        rintro e w3 ⟨rfl, m3⟩
        have HI := Lib.hid (info32' HX.out)
        have hT3 := Lib.hid (boxD_there w3 HX.out)
        have hA3 := Lib.hid (boxD_arr w3 HX.out)
        have hM3 := Lib.hid (m3.no (boxD_mods w3 X))
        have HM3 := Lib.hid m3
        clear m3
        go_wp2_with ((with_reducible refine wpList_store_mid ?_ 26 (.tmp 7) (.tmp 49) ?_ w3.heap.size 0 (u8s X).toArray ?_ ?_ hT3.out HI.out (u8s_one _) ?_); rfl; rfl; rfl; rfl)
        obtain ⟨B7, hB7⟩ : ∃ b, w3.heap.size = b := ⟨_, rfl⟩
        have hlo7 : wr.heap.size ≤ B7 := by rw [← hB7]; exact (show Mods No wr w3 from HM3.out).size
        rw [hB7] at hA3 hM3 ⊢
        clear hB7 hT3 HM3
        generalize (w3.alloc (.cells #[Value.int .u8 0, Value.int .u8 0, Value.int .u8 0, Value.int .u8 0, Value.int .u8 0, Value.int .u8 0, Value.int .u8 0, Value.int .u8 0, Value.int .u8 0, Value.int .u8 0, Value.int .u8 0, Value.int .u8 0, Value.int .u8 0, Value.int .u8 0, Value.int .u8 0, Value.int .u8 0, Value.int .u8 0, Value.int .u8 0, Value.int .u8 0, Value.int .u8 0, Value.int .u8 0, Value.int .u8 0, Value.int .u8 0, Value.int .u8 0, Value.int .u8 0, Value.int .u8 0, Value.int .u8 0, Value.int .u8 0, Value.int .u8 0, Value.int .u8 0, Value.int .u8 0, Value.int .u8 0] 26)).setCells B7 0 (u8s X) = w4 at hA3 hM3 ⊢
        refine (HRB.out _ (HT.out.b.no hM3.out)).mono ?_
        rintro e w5 ⟨rfl, m5⟩
        have hT5 := Lib.hid (boxD_there w5 HX.out)
        have hA5 := Lib.hid (boxD_arr w5 HX.out)
        have hA3' := Lib.hid ((hA3.out.mods m5 id).mods (boxD_mods w5 X) id)
        have hM5 := Lib.hid (hM3.out.no (m5.no (boxD_mods w5 X)))
        have hlo9 : wr.heap.size ≤ w5.heap.size := Nat.le_trans hM3.out.size m5.size
        clear m5 hA3 hM3
        go_wp2_with ((with_reducible refine wpList_store_mid ?_ 26 (.tmp 9) (.tmp 55) ?_ w5.heap.size 0 (u8s X).toArray ?_ ?_ hT5.out HI.out (u8s_one _) ?_); rfl; rfl; rfl; rfl)
        obtain ⟨B9, hB9⟩ : ∃ b, w5.heap.size = b := ⟨_, rfl⟩
        rw [hB9] at hA5 hM5 hA3' hlo9 ⊢
        clear hB9 hT5
        generalize (w5.alloc (.cells #[Value.int .u8 0, Value.int .u8 0, Value.int .u8 0, Value.int .u8 0, Value.int .u8 0, Value.int .u8 0, Value.int .u8 0, Value.int .u8 0, Value.int .u8 0, Value.int .u8 0, Value.int .u8 0, Value.int .u8 0, Value.int .u8 0, Value.int .u8 0, Value.int .u8 0, Value.int .u8 0, Value.int .u8 0, Value.int .u8 0, Value.int .u8 0, Value.int .u8 0, Value.int .u8 0, Value.int .u8 0, Value.int .u8 0, Value.int .u8 0, Value.int .u8 0, Value.int .u8 0, Value.int .u8 0, Value.int .u8 0, Value.int .u8 0, Value.int .u8 0, Value.int .u8 0, Value.int .u8 0] 26)).setCells B9 0 (u8s X) = w6 at hA5 hM5 hA3' ⊢
        have hGlow : ∀ q, Foot bA vA q ∨ Foot bB vB q → W.heap.size ≤ q ∧ q < wr.heap.size := fun q hq => by
          rcases hq with h | h
          · exact ⟨HT.out.newA q h, HT.out.lowA q h⟩
          · exact ⟨HT.out.newB q h, HT.out.lowB q h⟩
        have HT6 := Lib.hid (HT.out.no hM5.out)
        have HS6 := Lib.hid (HSr.out.mods hM5.out (fun _ _ _ h => h))
        obtain ⟨g', o', hC6⟩ := Sl.callAt HS6.out hl HC.out
        obtain ⟨hgo, d0, d1, d2, d3⟩ := hC6
        cases hgo
        obtain ⟨g', o', hC0⟩ := Sl.callAt HS.out hl HC.out
        obtain ⟨hgo, e0, -, -, -⟩ := hC0
        cases hgo
        have hgW : g < W.heap.size := World.block_lt_of_cell? W ⟨g, o + k * 4, none⟩ e0
        clear c0 c1 c2 c3 HT HSr e0
        obtain ⟨G, hG⟩ : ∃ G : Nat → Prop, G = fun q => Foot bA vA q ∨ Foot bB vB q := ⟨_, rfl⟩
        have hnG : ∀ q, q < W.heap.size ∨ wr.heap.size ≤ q → ¬ G q := fun q hq hg => by
          rw [hG] at hg
          have := hGlow q hg
          omega
        have cT : ∀ y : Sub (Mods G w6), y.w.cell? ⟨g, o + k * 4 + 1, none⟩ = some (.string c.text) := fun y => y.s.cell d1 (hnG g (.inl hgW))
        have cD : ∀ y : Sub (Mods G w6), y.w.cell? ⟨g, o + k * 4 + 2, none⟩ = some (.string c.data) := fun y => y.s.cell d2 (hnG g (.inl hgW))
        have hX7 : Hid (∀ y : Sub (Mods G w6), y.w.rangeAt B7 0 (u8s X)) := Lib.hid fun y => (hA3'.out.mods y.s (hnG B7 (.inr hlo7))).range
        have hX9 : Hid (∀ y : Sub (Mods G w6), y.w.rangeAt B9 0 (u8s X)) := Lib.hid fun y => (hA5.out.mods y.s (hnG B9 (.inr hlo9))).range
        have hne : Nonempty (Sub (Mods G w6)) := ⟨⟨w6, Mods.refl _ _⟩⟩
        have hNE : Hid (∀ w, (binOp .neq 26 (.agg (u8s X).toArray) (.agg (u8s X).toArray)).run Try.prog w = .ok (.bool false) w) := Lib.hid fun w => by
          rw [digNe X X HX.out HX.out w]
          simp
        have HI2 := Lib.hid (info32 HX.out)
        have hGA : Hid (∀ q, Foot bA vA q → G q) := Lib.hid fun q h => by rw [hG]; exact .inl h
        have hGB : Hid (∀ q, Foot bB vB q → G q) := Lib.hid fun q h => by rw [hG]; exact .inr h
        have hmeasA := Lib.hid (fun w (h : LogAt w bA vA (replayL evs) evs) => measure_any bA vA (replayL evs) evs r c.text c.data w h (by have := Hsm.out c (List.mem_of_getElem? HC.out); omega))
        have hmeasB := Lib.hid (fun w (h : RefAt w bB vB evs) => refMeasure_any bB vB (replayL evs) evs r c.text c.data w h (by have := Hsm.out c (List.mem_of_getElem? HC.out); omega))
        have hstep := Lib.hid (fun w w1 w2 e e' (h : Two W w bA bB vA vB evs) (p : MeasPost bA vA (measRes (replayL evs) evs r c.text c.data) w e w1) (p' : RefPost bB vB (measRes (replayL evs) evs r c.text c.data).1 (measRes (replayL evs) evs r c.text c.data).2.2 w1 e' w2) => Two.step h p p')
        have hlen' := Lib.hid (measRes_len (replayL evs) evs r c.text c.data)
        generalize measRes (replayL evs) evs r c.text c.data = M at hmeasA hmeasB hstep hlen'
        obtain ⟨M1, M2, M3⟩ := M
        dsimp only at hmeasB hstep hlen'
        clear hA3' hA5 hG d0 d1 d2 d3 hGlow
        go_wp2_with fail
        refine wp_region_sub false (Mods G w6) [(0, false), (1, false), (2, false), (3, false), (4, false), (5, false), (6, false), (7, false), (8, false), (9, false), (10, false), (11, false), (13, false), (14, false), (15, false), (16, false), (17, false), (18, false), (19, false), (20, false), (21, false), (22, false), (23, false), (24, false), (12, true), (25, true), (26, false), (27, false), (28, false), (29, false), (30, false), (31, false), (32, false), (33, false), (34, false), (35, false), (36, false), (37, false), (38, false), (40, false), (39, true), (41, true), (42, true), (43, false), (44, false)] (by kernel_rfl) (by kernel_rfl) (Mods.refl _ _).drew ?_
        simp only [pickL, List.map_cons, List.map_nil, List.getElem?_cons_zero, List.getElem?_cons_succ, Option.getD_some]
        refine wpSt_quiet rfl ?_
        go_big_quiet_want
        go_big_quiet_op
        go_big_quiet_on
        refine wpQuiet_nil ?_
        refine wpSt_quiet rfl ?_
        go_big_quiet_want
        go_big_quiet_op
        go_big_quiet_on
        refine wpQuiet_nil ?_
        refine wpSt_quiet rfl ?_
        go_big_quiet_want
        go_big_quiet_op
        go_big_quiet_on
        refine wpQuiet_nil ?_
        refine wpSt_quiet rfl ?_
        go_big_quiet_want
        go_big_quiet_op
        go_big_quiet_on
        refine wpQuiet_nil ?_
        refine wpSt_quiet rfl ?_
        go_big_quiet_want
        go_big_quiet_op
        go_big_quiet_on
        refine wpQuiet_nil ?_
        refine wpSt_quiet rfl ?_
        go_big_quiet_want
        go_big_quiet_op
        go_big_quiet_on
        refine wpQuiet_nil ?_
        refine wpSt_quiet rfl ?_
        go_big_quiet_want
        go_big_quiet_op
        go_big_quiet_on
        refine wpQuiet_nil ?_
        refine wpSt_quiet rfl ?_
        go_big_quiet_want
        go_big_quiet_op
        go_big_quiet_on
        refine wpQuiet_nil ?_
        refine wpSt_quiet rfl ?_
        go_big_quiet_want
        go_big_quiet_op
        go_big_quiet_on
        refine wpQuiet_nil ?_
        refine wpSt_quiet rfl ?_
        go_big_quiet_want
        go_big_quiet_op
        go_big_quiet_on
        refine wpQuiet_nil ?_
        refine wpSt_quiet rfl ?_
        go_big_quiet_want
        go_big_quiet_op
        go_big_quiet_on
        refine wpQuiet_nil ?_
        refine wpSt_quiet rfl ?_
        go_big_quiet_want
        go_big_quiet_op
        go_big_quiet_on
        refine wpQuiet_nil ?_
        refine wpSt_quiet rfl ?_
        go_big_quiet_want
        go_big_quiet_op
        go_big_quiet_on
        refine wpQuiet_nil ?_
        refine wpSt_quiet rfl ?_
        go_big_quiet_want
        go_big_quiet_op
        go_big_quiet_on
        refine wpQuiet_nil ?_
        refine wpSt_quiet rfl ?_
        go_big_quiet_want
        go_big_quiet_op
        go_big_quiet_on
        refine wpQuiet_nil ?_
        refine wpSt_quiet rfl ?_
        go_big_quiet_want
        go_big_quiet_op
        go_big_quiet_on
        refine wpQuiet_nil ?_
        refine wpSt_quiet rfl ?_
        go_big_quiet_want
        go_big_quiet_op
        go_big_quiet_on
        refine wpQuiet_nil ?_
        refine wpSt_quiet rfl ?_
        go_big_quiet_want
        go_big_quiet_op
        go_big_quiet_on
        refine wpQuiet_nil ?_
        refine wpSt_quiet rfl ?_
        go_big_quiet_want
        go_big_quiet_op
        go_big_quiet_on
        refine wpQuiet_nil ?_
        refine wpSt_quiet rfl ?_
        go_big_quiet_want
        go_big_quiet_op
        go_big_quiet_on
        refine wpQuiet_nil ?_
        refine wpSt_quiet rfl ?_
        go_big_quiet_want
        go_big_quiet_op
        go_big_quiet_on
        refine wpQuiet_nil ?_
        refine wpSt_quiet rfl ?_
        go_big_quiet_want
        go_big_quiet_op
        go_big_quiet_on
        refine wpQuiet_nil ?_
        refine wpSt_quiet rfl ?_
        go_big_quiet_want
        go_big_quiet_op
        go_big_quiet_on
        refine wpQuiet_nil ?_
        refine wpSt_quiet rfl ?_
        go_big_quiet_want
        go_big_quiet_op
        go_big_quiet_on
        refine wpQuiet_nil ?_
        refine wpSt_step ?_
        go_wp2_with fail
        have HT6d := Lib.hid (HT6.out.no (Mods.refl No w6).drew)
        refine (hmeasA.out _ HT6d.out.a).mono ?_
        rintro e w7 p7
        have he := p7.ret
        dsimp only at he
        subst he
        have P7 := Lib.hid p7
        have g7 : Mods G w6 w7 := p7.mods.undrew.mono hGA.out
        have hB7 := Lib.hid (HT6d.out.refStill P7.out)
        clear p7
        go_wp2_with fail
        refine nowhere_up ⟨rfl, .inr (inSub_mk g7), ?_⟩
        refine wpSt_step ?_
        go_wp2_with fail
        refine (hmeasB.out _ hB7.out).mono ?_
        rintro e w8 p8
        have he := p8.ret
        subst he
        have P8 := Lib.hid p8
        have g8 : Mods G w6 w8 := g7.trans (p8.mods.mono hGB.out) (fun i h => .inl h)
        obtain ⟨vA', vB', hT8⟩ := hstep.out _ _ _ _ _ HT6d.out P7.out P8.out
        have HT8 := Lib.hid hT8
        clear p8 g7 P7 P8 hB7 hT8 HT6 HT6d
        go_wp2_with fail
        refine nowhere_up ⟨rfl, .inr (inSub_mk g8), ?_⟩
        refine wpSt_quiet rfl ?_
        go_big_quiet_want
        go_big_quiet_op
        go_big_quiet_on
        refine wpQuiet_nil ?_
        refine wpSt_quiet rfl ?_
        go_big_quiet_want
        go_big_quiet_op
        go_big_quiet_on
        refine wpQuiet_nil ?_
        refine wpSt_quiet rfl ?_
        go_big_quiet_want
        refine quiet_load_row 26 (.tmp 7) rfl B7 0 (by rfl) (u8s X) _ (fun _ ⟨y, e⟩ => e ▸ hX7.out y) Try.underlying26 rfl HI2.out ?_
        go_big_quiet_on
        refine wpQuiet_nil ?_
        simp only [Act.put, List.setIfInBounds_toArray, List.set_cons_succ, List.set_cons_zero]
        refine wpSt_quiet rfl ?_
        go_big_quiet_want
        refine quiet_load_row 26 (.tmp 9) rfl B9 0 (by rfl) (u8s X) _ (fun _ ⟨y, e⟩ => e ▸ hX9.out y) Try.underlying26 rfl HI2.out ?_
        go_big_quiet_on
        refine wpQuiet_nil ?_
        simp only [Act.put, List.setIfInBounds_toArray, List.set_cons_succ, List.set_cons_zero]
        have hne2 := hNE.out
        refine wpSt_quiet rfl ?_
        go_big_quiet_want
        go_big_quiet_op
        go_big_quiet_on
        refine wpQuiet_nil ?_
        clear hne2
        refine wpSt_quiet rfl ?_
        go_big_quiet_want
        go_big_quiet_op
        go_big_quiet_on
        refine wpQuiet_nil ?_
        refine wpSt_quiet rfl ?_
        go_big_quiet_want
        go_big_quiet_op
        go_big_quiet_on
        refine wpQuiet_nil ?_
        refine wpSt_quiet rfl ?_
        go_big_quiet_want
        go_big_quiet_op
        go_big_quiet_on
        refine wpQuiet_nil ?_
        refine wpSt_quiet rfl ?_
        go_big_quiet_want
        go_big_quiet_op
        go_big_quiet_on
        refine wpQuiet_nil ?_
        refine wpSt_quiet rfl ?_
        go_big_quiet_want
        go_big_quiet_op
        go_big_quiet_on
        refine wpQuiet_nil ?_
        refine wpSt_quiet rfl ?_
        go_big_quiet_want
        go_big_quiet_op
        go_big_quiet_on
        refine wpQuiet_nil ?_
        refine wpSt_quiet rfl ?_
        go_big_quiet_want
        go_big_quiet_op
        go_big_quiet_on
        refine wpQuiet_nil ?_
        refine wpSt_quiet rfl ?_
        go_big_quiet_want
        go_big_quiet_op
        go_big_quiet_on
        refine wpQuiet_nil ?_
        refine wpSt_quiet rfl ?_
        go_big_quiet_want
        go_big_quiet_op
        go_big_quiet_on
        refine wpQuiet_nil ?_
        refine wpSt_step ?_
        go_wp2_with fail
        have hln3 : M3.length ≤ 1000 := by have := hlen'.out; omega
        refine (events_any bA vA' _ M3 _ HT8.out.a hln3).mono ?_
        rintro e w9 ⟨⟨u, rfl, r9, b9⟩, m9⟩
        have R9 := Lib.hid r9
        have HT9 := Lib.hid (HT8.out.no m9)
        have g9 : Mods G w6 w9 := g8.no m9
        clear r9 b9 m9 HT8 g8
        go_wp2_with fail
        refine nowhere_up ⟨rfl, .inr (inSub_mk g9), ?_⟩
        refine wpSt_step ?_
        go_wp2_with fail
        refine (refEvents_any bB vB' M3 _ HT9.out.b hln3).mono ?_
        rintro e w10 ⟨⟨v, rfl, r10, b10⟩, m10⟩
        have R10 := Lib.hid r10
        have R9' := Lib.hid (R9.out.no m10)
        have HT10 := Lib.hid (HT9.out.no m10)
        have g10 : Mods G w6 w10 := g9.no m10
        clear r10 b10 m10 HT9 g9 R9
        go_wp2_with fail
        refine nowhere_up ⟨rfl, .inr (inSub_mk g10), ?_⟩
        refine wpSt_step ?_
        go_wp2_with fail
        refine (equalEv_same u v M3 HT10.out.a.good hln3 _ R9'.out R10.out).mono ?_
        rintro e w11 ⟨rfl, m11⟩
        have HT11 := Lib.hid (HT10.out.no m11)
        have g11 : Mods G w6 w11 := g10.no m11
        clear m11 HT10 g10 R9' R10
        go_wp2_with fail
        refine nowhere_up ⟨rfl, .inr (inSub_mk g11), ?_⟩
        refine wpSt_quiet rfl ?_
        go_big_quiet_want
        go_big_quiet_op
        go_big_quiet_on
        refine wpQuiet_nil ?_
        refine wpSt_quiet rfl ?_
        go_big_quiet_want
        go_big_quiet_op
        go_big_quiet_on
        refine wpQuiet_nil ?_
        refine wpSt_nil ?_
        clear g11 cT cD hX7 hX9
        go_wp2_with fail
        go_roundw
        case rel => exact ⟨k + 1, vA', vB', M3, by omega, by go_num, by have := hlen'.out; omega, HT11.out⟩
        case measure => simp [intOf]; omega
    · obtain rfl : k = len := by omega
      have hTr := Lib.hid hT
      have hkl : (k : Int) ≤ k := Int.le_refl _
      clear hT hlt hk
      go_wp2_with fail
      go_loopw [11] (fun q wr => ∃ r : Int, -1 ≤ r ∧ r ≤ 9 ∧ q = .int .i64 r ∧ Two W wr bA bB vA vB evs) (fun q _ => (9 - intOf q).toNat)
      case atStart => exact ⟨-1, by omega, by omega, rfl, hTr.out⟩
      case round =>
        clear hTr
        obtain ⟨r, hr1, hr2, rfl, hT⟩ := hrel
        have HT := Lib.hid hT
        clear hT
        by_cases hlt : r ≤ 8
        · have hlr := regRes_length (replayL_ok evs) r
          have HRA := Lib.hid (register_any bA vA (replayL evs) evs r wr HT.out.a)
          have HRB := Lib.hid (fun w (h : RefAt w bB vB evs) => refRegister_any bB vB evs HT.out.inr (by omega) r w h)
          obtain ⟨X, hX⟩ : ∃ X, (regRes (replayL evs) r).1 = X := ⟨_, rfl⟩
          obtain ⟨E, hE⟩ : ∃ E, (regRes (replayL evs) r).2 = E := ⟨_, rfl⟩
          rw [hX] at hlr HRA HRB
          rw [hE] at HRA HRB
          have HX := Lib.hid hlr
          clear hX hE hlr
          go_wp2_with fail
          refine HRA.out.mono ?_
          rintro e w3 ⟨rfl, m3⟩
          have HI := Lib.hid (info32' HX.out)
          have hT3 := Lib.hid (boxD_there w3 HX.out)
          have hA3 := Lib.hid (boxD_arr w3 HX.out)
          have hM3 := Lib.hid (m3.no (boxD_mods w3 X))
          clear m3
          go_wp2_with ((with_reducible refine wpList_store_mid ?_ 26 (.tmp 12) (.tmp 110) ?_ w3.heap.size 0 (u8s X).toArray ?_ ?_ hT3.out HI.out (u8s_one _) ?_); rfl; rfl; rfl; rfl)
          obtain ⟨B7, hB7⟩ : ∃ b, w3.heap.size = b := ⟨_, rfl⟩
          rw [hB7] at hA3 hM3 ⊢
          clear hB7 hT3
          generalize (w3.alloc (.cells #[Value.int .u8 0, Value.int .u8 0, Value.int .u8 0, Value.int .u8 0, Value.int .u8 0, Value.int .u8 0, Value.int .u8 0, Value.int .u8 0, Value.int .u8 0, Value.int .u8 0, Value.int .u8 0, Value.int .u8 0, Value.int .u8 0, Value.int .u8 0, Value.int .u8 0, Value.int .u8 0, Value.int .u8 0, Value.int .u8 0, Value.int .u8 0, Value.int .u8 0, Value.int .u8 0, Value.int .u8 0, Value.int .u8 0, Value.int .u8 0, Value.int .u8 0, Value.int .u8 0, Value.int .u8 0, Value.int .u8 0, Value.int .u8 0, Value.int .u8 0, Value.int .u8 0, Value.int .u8 0] 26)).setCells B7 0 (u8s X) = w4 at hA3 hM3 ⊢
          refine (HRB.out _ (HT.out.b.no hM3.out)).mono ?_
          rintro e w5 ⟨rfl, m5⟩
          have hT5 := Lib.hid (boxD_there w5 HX.out)
          have hA5 := Lib.hid (boxD_arr w5 HX.out)
          have hA3' := Lib.hid ((hA3.out.mods m5 id).mods (boxD_mods w5 X) id)
          have hM5 := Lib.hid (hM3.out.no (m5.no (boxD_mods w5 X)))
          clear m5 hA3 hM3
          have HT7 := Lib.hid (HT.out.no hM5.out)
          have hNE : ∀ w, (binOp .neq 26 (.agg (u8s X).toArray) (.agg (u8s X).toArray)).run Try.prog w = .ok (.bool false) w := fun w => by
            rw [digNe X X HX.out HX.out w]
            simp
          have HI2 := Lib.hid (info32 HX.out)
          have HG7 := Lib.hid hA3'.out.range
          have HG9 := Lib.hid hA5.out.range
          clear hA3' hA5 hM5 HT HRA HRB
          go_wp2_with (first
            | ((with_reducible refine wpList_store_mid ?_ 26 (.tmp 14) (.tmp 116) ?_ w5.heap.size 0 (u8s X).toArray ?_ ?_ hT5.out HI.out (u8s_one _) ?_); rfl; rfl; rfl; rfl)
            | ((with_reducible refine wpList_load_mid ?_ 26 (.tmp 12) ?_ B7 0 ?_ (u8s X) _ HG7.out Try.underlying26 rfl HI2.out ?_); rfl; rfl; rfl)
            | ((with_reducible refine wpList_load_mid ?_ 26 (.tmp 14) ?_ w5.heap.size 0 ?_ (u8s X) _ HG9.out Try.underlying26 rfl HI2.out ?_); rfl; rfl; rfl))
          go_roundw
          case rel => exact ⟨r + 1, by omega, by omega, by go_num, HT7.out⟩
          case measure => simp [intOf]; omega
        · obtain rfl : r = 9 := by omega
          go_wp2_with fail
          refine (awake_any _).mono ?_
          rintro e w9 ⟨rfl, m9⟩
          have HM := Lib.hid (HT.out.mods.no m9)
          clear m9
          go_wp2_with fail
          go_ret
          exact ⟨rfl, HM.out⟩
theorem log_law (A : Option Addr) (len cap : Nat) (l : List MCall) (hl : l.length = len) (hwf : ∀ c ∈ l, MCall.WF c) (_ : len ≤ cap) (_ : cap ≤ 9223372036854775807) {W : World} (hS : Sl W 4 A len (l.flatMap mCells)) :
    Calls Try.prog 5 #[.slice A len cap] W fun e w' => e = .returned (.bool true) ∧ Below W.heap.size W w' := by
  refine Calls.mono (R := LogPost W) ?_ (fun e w' ⟨h1, h2⟩ => ⟨h1, h2.toBelow (fun _ h => h.elim) (Nat.le_refl _)⟩)
  by_cases hb : isLarge l = false
  · exact log_walk A len cap l hl hwf hS hb
  · have hb' : isLarge l = true := by simpa using hb
    have Hlarge := Lib.hid (large_any A len cap l W hl hS)
    rw [hb'] at Hlarge
    clear hb hb' hS hwf
    go_enter Try.func5, Try.ntmps5
    go_wp2_with fail
    refine Hlarge.out.mono ?_
    rintro e w' ⟨rfl, rfl⟩
    go_wp2_with fail
    refine (awake_any _).mono ?_
    rintro e w9 ⟨rfl, m9⟩
    go_wp2_with fail
    go_ret
    exact ⟨rfl, m9⟩
end Go.Proofs.Ytamdanpkkcdhbaa
