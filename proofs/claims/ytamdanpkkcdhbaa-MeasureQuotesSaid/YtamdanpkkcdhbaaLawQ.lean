/- The statement MeasureQuotes. -/
import Derived.Test.YtamdanpkkcdhbaaVq1
import Derived.Test.YtamdanpkkcdhbaaMs1
import Derived.Test.YtamdanpkkcdhbaaOpenD
set_option linter.unusedVariables false
set_option linter.unusedSimpArgs false
namespace Go.Proofs.Ytamdanpkkcdhbaa
open Go.RowKit Go.PF

set_option maxHeartbeats 4000000 in
set_option maxRecDepth 100000 in
theorem quotes_walk (key nonce : ByteArray) (hkey : (key.size : Int) ≤ 100) (hnon : (nonce.size : Int) ≤ 100) (A : Option Addr) (len cap : Nat) (l : List MCall) (hl : l.length = len) (hwf : ∀ c ∈ l, MCall.WF c) {W : World} (hS : Sl W 4 A len (l.flatMap mCells)) (hb : isLarge l = false)
    (A2 : Option Addr) (n cap2 : Nat) (rs : List (List Int)) (hn : rs.length = n) (hrs : ∀ r ∈ rs, r.length = 32) (hn12 : (n : Int) ≤ 12) (hR : RegsSl W A2 rs) :
    Calls Try.prog 12 #[.string key, .string nonce, .slice A len cap, .slice A2 n cap2] W fun e w' => e = .returned (.bool true) ∧ Mods No W w' := by
  obtain ⟨h12, hsm⟩ := isLarge_small hb
  have HS := Lib.hid hS
  have HR := Lib.hid hR
  have Hlarge := Lib.hid (fun w (h : Sl w 4 A len (l.flatMap mCells)) => large_any A len cap l w hl h)
  rw [hb] at Hlarge
  have Hmeas := Lib.hid (fun w (h : Sl w 4 A len (l.flatMap mCells)) => measured_any A len cap l hl hwf hsm w h)
  have hev12 : (measAll l).length ≤ 12 := by have := measAll_len l; omega
  have Hinr := Lib.hid (measAll_inRegs l)
  have hq2 := quoteL_length key rs nonce
  have HQ2 := Lib.hid (fun w (h : RegsSl w A2 rs) => quote_any key nonce A2 cap2 rs hrs (by omega) (by omega) (by omega) w h)
  have HQ3 := Lib.hid (fun w (h : RegsSl w A2 rs) => refQuote_any key nonce A2 cap2 rs hrs (by omega) (by omega) (by omega) w h)
  rw [hn] at HQ2 HQ3
  obtain ⟨D2, hD2⟩ : ∃ D, (quoteL key rs nonce).1 = D := ⟨_, rfl⟩
  obtain ⟨E2, hE2⟩ : ∃ D, (quoteL key rs nonce).2 = D := ⟨_, rfl⟩
  rw [hD2] at HQ2 HQ3 hq2
  rw [hE2] at HQ2 HQ3
  have Hq2 := Lib.hid hq2
  clear hS hwf hsm hb hR hq2 hD2 hE2 hrs
  go_enter Try.func12, Try.ntmps12
  go_wp2_with fail
  refine (Hlarge.out _ HS.out).mono ?_
  rintro e w' ⟨rfl, rfl⟩
  go_wp2_with fail
  refine (Hmeas.out _ HS.out).mono ?_
  rintro e w1 ⟨⟨b, v, rfl, hL1, hF1⟩, hM1⟩
  obtain ⟨evs, hevs⟩ : ∃ evs, measAll l = evs := ⟨_, rfl⟩
  rw [hevs] at hL1 hev12 Hinr
  have HL1 := Lib.hid hL1
  have HM1 := Lib.hid hM1
  clear hL1 hF1 hM1 hevs
  go_wp2_with fail
  refine (events_any b v _ evs _ HL1.out (by omega)).mono ?_
  rintro e w2 ⟨⟨u, rfl, r2, -⟩, m2⟩
  have HL2 := Lib.hid (HL1.out.no m2)
  have HM2 := Lib.hid (HM1.out.no m2)
  have HR2 := Lib.hid r2
  clear r2 m2 HL1 HM1
  go_wp2_with fail
  refine (replay_any u evs HL2.out.good (by omega) _ HR2.out).mono ?_
  rintro e w3 p3
  obtain ⟨B, hB, rfl, hA⟩ := p3.good Hinr.out
  have HL3 := Lib.hid (HL2.out.no p3.mods)
  have HM3 := Lib.hid (HM2.out.no p3.mods)
  have HQ1 := Lib.hid (quote_any key nonce (some ⟨B, 0, none⟩) 8 (replayL evs) (replayL_ok evs).all (by rw [(replayL_ok evs).eight]; omega) (by omega) (by omega) w3 hA.regsSl)
  have h2 : (quoteL key (replayL evs) nonce).2 = 0 := by unfold quoteL; rw [if_pos (replayL_ok evs).eight]
  rw [(replayL_ok evs).eight, h2] at HQ1
  have hq1 := quoteL_length key (replayL evs) nonce
  have HV : Hid (∀ (A : Option Addr) (c : Nat) w, EvSl w A evs → Calls Try.prog 34 #[.string key, .slice A evs.length c, .string nonce, .agg (u8s (quoteL key (replayL evs) nonce).1).toArray] w fun e w' => e = .returned (.bool true) ∧ Mods No w w') := Lib.hid fun A c w hE => by
    have h := verify_any key nonce A c evs HL3.out.good (by omega) _ hq1 (by omega) (by omega) w hE
    rw [show verB key evs nonce (quoteL key (replayL evs) nonce).1 = true by unfold verB; rw [regB_true.2 Hinr.out]; simp] at h
    exact h
  obtain ⟨D1, hD1⟩ : ∃ D, (quoteL key (replayL evs) nonce).1 = D := ⟨_, rfl⟩
  rw [hD1] at HQ1 HV hq1
  have Hq1 := Lib.hid hq1
  clear p3 hB hA h2 hq1 hD1 HL2 HM2 HR2
  go_wp2_with fail
  refine HQ1.out.mono ?_
  rintro e w4 ⟨rfl, m4⟩
  have hT4 := Lib.hid (boxD_there w4 Hq1.out)
  have hA4 := Lib.hid (boxD_arr w4 Hq1.out)
  have HM4 := Lib.hid (HM3.out.no (m4.no (boxD_mods w4 D1)))
  have HL4 := Lib.hid (HL3.out.no (m4.no (boxD_mods w4 D1)))
  have HI1 := Lib.hid (info32' Hq1.out)
  have HI2 := Lib.hid (info32' Hq2.out)
  clear m4 HM3 HL3 HQ1
  go_wp2_with ((with_reducible refine wpList_store_mid ?_ 26 (.tmp 12) (.tmp 51) ?_ w4.heap.size 0 (u8s D1).toArray ?_ ?_ hT4.out HI1.out (u8s_one _) ?_); rfl; rfl; rfl; rfl)
  generalize w4.heap.size = B1 at hA4 HM4 HL4 ⊢
  generalize (w4.alloc (.cells #[Value.int .u8 0, Value.int .u8 0, Value.int .u8 0, Value.int .u8 0, Value.int .u8 0, Value.int .u8 0, Value.int .u8 0, Value.int .u8 0, Value.int .u8 0, Value.int .u8 0, Value.int .u8 0, Value.int .u8 0, Value.int .u8 0, Value.int .u8 0, Value.int .u8 0, Value.int .u8 0, Value.int .u8 0, Value.int .u8 0, Value.int .u8 0, Value.int .u8 0, Value.int .u8 0, Value.int .u8 0, Value.int .u8 0, Value.int .u8 0, Value.int .u8 0, Value.int .u8 0, Value.int .u8 0, Value.int .u8 0, Value.int .u8 0, Value.int .u8 0, Value.int .u8 0, Value.int .u8 0] 26)).setCells B1 0 (u8s D1) = w5 at hA4 HM4 HL4 ⊢
  refine (HQ2.out _ (HR.out.no HM4.out)).mono ?_
  rintro e w6 ⟨rfl, m6⟩
  have hT6 := Lib.hid (boxD_there w6 Hq2.out)
  have hA6 := Lib.hid (boxD_arr w6 Hq2.out)
  have hA4' := Lib.hid ((hA4.out.mods m6 id).mods (boxD_mods w6 D2) id)
  have HM6 := Lib.hid (HM4.out.no (m6.no (boxD_mods w6 D2)))
  have HL6 := Lib.hid (HL4.out.no (m6.no (boxD_mods w6 D2)))
  clear m6 HM4 HL4 HQ2 hA4 hT4
  go_wp2_with ((with_reducible refine wpList_store_mid ?_ 26 (.tmp 14) (.tmp 58) ?_ w6.heap.size 0 (u8s D2).toArray ?_ ?_ hT6.out HI2.out (u8s_one _) ?_); rfl; rfl; rfl; rfl)
  generalize w6.heap.size = B2 at hA6 HM6 HL6 hA4' ⊢
  generalize (w6.alloc (.cells #[Value.int .u8 0, Value.int .u8 0, Value.int .u8 0, Value.int .u8 0, Value.int .u8 0, Value.int .u8 0, Value.int .u8 0, Value.int .u8 0, Value.int .u8 0, Value.int .u8 0, Value.int .u8 0, Value.int .u8 0, Value.int .u8 0, Value.int .u8 0, Value.int .u8 0, Value.int .u8 0, Value.int .u8 0, Value.int .u8 0, Value.int .u8 0, Value.int .u8 0, Value.int .u8 0, Value.int .u8 0, Value.int .u8 0, Value.int .u8 0, Value.int .u8 0, Value.int .u8 0, Value.int .u8 0, Value.int .u8 0, Value.int .u8 0, Value.int .u8 0, Value.int .u8 0, Value.int .u8 0] 26)).setCells B2 0 (u8s D2) = w7 at hA6 HM6 HL6 hA4' ⊢
  refine (HQ3.out _ (HR.out.no HM6.out)).mono ?_
  rintro e w8 ⟨rfl, m8⟩
  have hT8 := Lib.hid (boxD_there w8 Hq2.out)
  have hA8 := Lib.hid (boxD_arr w8 Hq2.out)
  have hA6' := Lib.hid ((hA6.out.mods m8 id).mods (boxD_mods w8 D2) id)
  have hA4'' := Lib.hid ((hA4'.out.mods m8 id).mods (boxD_mods w8 D2) id)
  have HM8 := Lib.hid (HM6.out.no (m8.no (boxD_mods w8 D2)))
  have HL8 := Lib.hid (HL6.out.no (m8.no (boxD_mods w8 D2)))
  clear m8 HM6 HL6 HQ3 hA6 hT6 hA4'
  go_wp2_with ((with_reducible refine wpList_store_mid ?_ 26 (.tmp 16) (.tmp 65) ?_ w8.heap.size 0 (u8s D2).toArray ?_ ?_ hT8.out HI2.out (u8s_one _) ?_); rfl; rfl; rfl; rfl)
  generalize w8.heap.size = B3 at hA8 HM8 HL8 hA4'' hA6' ⊢
  generalize (w8.alloc (.cells #[Value.int .u8 0, Value.int .u8 0, Value.int .u8 0, Value.int .u8 0, Value.int .u8 0, Value.int .u8 0, Value.int .u8 0, Value.int .u8 0, Value.int .u8 0, Value.int .u8 0, Value.int .u8 0, Value.int .u8 0, Value.int .u8 0, Value.int .u8 0, Value.int .u8 0, Value.int .u8 0, Value.int .u8 0, Value.int .u8 0, Value.int .u8 0, Value.int .u8 0, Value.int .u8 0, Value.int .u8 0, Value.int .u8 0, Value.int .u8 0, Value.int .u8 0, Value.int .u8 0, Value.int .u8 0, Value.int .u8 0, Value.int .u8 0, Value.int .u8 0, Value.int .u8 0, Value.int .u8 0] 26)).setCells B3 0 (u8s D2) = w9 at hA8 HM8 HL8 hA4'' hA6' ⊢
  have hX1 : Hid (∀ y : Sub (Mods No w9), y.w.rangeAt B1 0 (u8s D1)) := Lib.hid fun y => (hA4''.out.mods y.s id).range
  have hX2 : Hid (∀ y : Sub (Mods No w9), y.w.rangeAt B2 0 (u8s D2)) := Lib.hid fun y => (hA6'.out.mods y.s id).range
  have hX3 : Hid (∀ y : Sub (Mods No w9), y.w.rangeAt B3 0 (u8s D2)) := Lib.hid fun y => (hA8.out.mods y.s id).range
  have hne : Nonempty (Sub (Mods No w9)) := ⟨⟨w9, Mods.refl _ _⟩⟩
  have hEQ : ∀ w, (binOp .eql 26 (.agg (u8s D2).toArray) (.agg (u8s D2).toArray)).run Try.prog w = .ok (.bool true) w := fun w => by
    rw [digEq D2 D2 Hq2.out Hq2.out w]
    simp
  have HJ1 := Lib.hid (info32 Hq1.out)
  have HJ2 := Lib.hid (info32 Hq2.out)
  clear hA8 hA6' hA4'' hT8
  go_wp2_with fail
  refine wp_region_sub false (Mods No w9) [(0, false), (1, false), (2, false), (3, false), (4, false), (5, false), (6, false), (7, false), (8, false), (10, false), (11, false), (9, true), (12, true), (13, false), (14, false), (15, false), (16, false), (17, false), (18, false), (19, false), (20, false), (21, false), (22, false), (23, false), (24, false), (25, true), (26, false), (27, false)] (by kernel_rfl) (by kernel_rfl) (Mods.refl _ _).drew ?_
  simp only [pickL, List.map_cons, List.map_nil, List.getElem?_cons_zero, List.getElem?_cons_succ, Option.getD_some]
  refine wpSt_quiet rfl ?_
  go_big_quiet_want
  go_big_quiet_op
  go_big_quiet_on
  refine wpQuiet_nil ?_
  refine wpSt_quiet rfl ?_
  go_big_quiet_want
  go_big_quiet_op
  go_big_quiet_on
  refine wpQuiet_nil ?_
  refine wpSt_quiet rfl ?_
  go_big_quiet_want
  go_big_quiet_op
  go_big_quiet_on
  refine wpQuiet_nil ?_
  refine wpSt_quiet rfl ?_
  go_big_quiet_want
  go_big_quiet_op
  go_big_quiet_on
  refine wpQuiet_nil ?_
  refine wpSt_quiet rfl ?_
  go_big_quiet_want
  go_big_quiet_op
  go_big_quiet_on
  refine wpQuiet_nil ?_
  refine wpSt_quiet rfl ?_
  go_big_quiet_want
  go_big_quiet_op
  go_big_quiet_on
  refine wpQuiet_nil ?_
  refine wpSt_quiet rfl ?_
  go_big_quiet_want
  go_big_quiet_op
  go_big_quiet_on
  refine wpQuiet_nil ?_
  refine wpSt_quiet rfl ?_
  go_big_quiet_want
  go_big_quiet_op
  go_big_quiet_on
  refine wpQuiet_nil ?_
  refine wpSt_quiet rfl ?_
  go_big_quiet_want
  go_big_quiet_op
  go_big_quiet_on
  refine wpQuiet_nil ?_
  refine wpSt_quiet rfl ?_
  go_big_quiet_want
  go_big_quiet_op
  go_big_quiet_on
  refine wpQuiet_nil ?_
  refine wpSt_quiet rfl ?_
  go_big_quiet_want
  refine quiet_load_row 26 (.tmp 12) rfl B1 0 (by rfl) (u8s D1) _ (fun _ ⟨y, e⟩ => e ▸ hX1.out y) Try.underlying26 rfl HJ1.out ?_
  go_big_quiet_on
  refine wpQuiet_nil ?_
  simp only [Act.put, List.setIfInBounds_toArray, List.set_cons_succ, List.set_cons_zero]
  refine wpSt_step ?_
  go_wp2_with fail
  refine (events_any b v _ evs _ (HL8.out.no (Mods.refl No w9).drew) (by omega)).mono ?_
  rintro e w10 ⟨⟨u2, rfl, r10, -⟩, m10⟩
  obtain ⟨A10, c10, rfl, -, -, -⟩ := r10.shape
  have R10 := Lib.hid (Row.evSl r10 HL8.out.good)
  have G10 : Mods No w9 w10 := m10.undrew
  have HG10 := Lib.hid G10
  clear r10 m10
  go_wp2_with fail
  refine nowhere_up ⟨rfl, .inr (inSub_mk G10), ?_⟩
  refine wpSt_step ?_
  go_wp2_with fail
  refine (HV.out A10 c10 _ R10.out).mono ?_
  rintro e w11 ⟨rfl, m11⟩
  have G11 : Mods No w9 w11 := HG10.out.no m11
  have HG11 := Lib.hid G11
  clear m11 G10
  go_wp2_with fail
  refine nowhere_up ⟨rfl, .inr (inSub_mk G11), ?_⟩
  refine wpSt_quiet rfl ?_
  go_big_quiet_want
  go_big_quiet_op
  go_big_quiet_on
  refine wpQuiet_nil ?_
  refine wpSt_quiet rfl ?_
  go_big_quiet_want
  go_big_quiet_op
  go_big_quiet_on
  refine wpQuiet_nil ?_
  refine wpSt_quiet rfl ?_
  go_big_quiet_want
  refine quiet_load_row 26 (.tmp 14) rfl B2 0 (by rfl) (u8s D2) _ (fun _ ⟨y, e⟩ => e ▸ hX2.out y) Try.underlying26 rfl HJ2.out ?_
  go_big_quiet_on
  refine wpQuiet_nil ?_
  simp only [Act.put, List.setIfInBounds_toArray, List.set_cons_succ, List.set_cons_zero]
  refine wpSt_quiet rfl ?_
  go_big_quiet_want
  refine quiet_load_row 26 (.tmp 16) rfl B3 0 (by rfl) (u8s D2) _ (fun _ ⟨y, e⟩ => e ▸ hX3.out y) Try.underlying26 rfl HJ2.out ?_
  go_big_quiet_on
  refine wpQuiet_nil ?_
  simp only [Act.put, List.setIfInBounds_toArray, List.set_cons_succ, List.set_cons_zero]
  refine wpSt_quiet rfl ?_
  go_big_quiet_want
  go_big_quiet_op
  go_big_quiet_on
  refine wpQuiet_nil ?_
  refine wpSt_quiet rfl ?_
  go_big_quiet_want
  go_big_quiet_op
  go_big_quiet_on
  refine wpQuiet_nil ?_
  refine wpSt_quiet rfl ?_
  go_big_quiet_want
  go_big_quiet_op
  go_big_quiet_on
  refine wpQuiet_nil ?_
  refine wpSt_quiet rfl ?_
  go_big_quiet_want
  go_big_quiet_op
  go_big_quiet_on
  refine wpQuiet_nil ?_
  refine wpSt_quiet rfl ?_
  go_big_quiet_want
  go_big_quiet_op
  go_big_quiet_on
  refine wpQuiet_nil ?_
  refine wpSt_quiet rfl ?_
  go_big_quiet_want
  go_big_quiet_op
  go_big_quiet_on
  refine wpQuiet_nil ?_
  refine wpSt_quiet rfl ?_
  go_big_quiet_want
  go_big_quiet_op
  go_big_quiet_on
  refine wpQuiet_nil ?_
  refine wpSt_quiet rfl ?_
  go_big_quiet_want
  go_big_quiet_op
  go_big_quiet_on
  refine wpQuiet_nil ?_
  refine wpSt_step ?_
  go_wp2_with fail
  refine (awake_any _).mono ?_
  rintro e w12 ⟨rfl, m12⟩
  have G12 : Mods No w9 w12 := HG11.out.no m12
  have HG12 := Lib.hid G12
  clear m12 G11
  go_wp2_with fail
  refine nowhere_up ⟨rfl, .inr (inSub_mk G12), ?_⟩
  refine wpSt_quiet rfl ?_
  go_big_quiet_want
  go_big_quiet_op
  go_big_quiet_on
  refine wpQuiet_nil ?_
  refine wpSt_quiet rfl ?_
  go_big_quiet_want
  go_big_quiet_op
  go_big_quiet_on
  refine wpQuiet_nil ?_
  refine wpSt_nil ?_
  clear G12 hX1 hX2 hX3
  go_wp2_with fail
  go_ret
  exact ⟨rfl, HM8.out.no HG12.out⟩
theorem quotes_law (key : ByteArray) (_ : key.size ≤ 140737488351232) (nonce : ByteArray) (_ : nonce.size ≤ 140737488351232) (A : Option Addr) (len cap : Nat) (l : List MCall) (hl : l.length = len) (hwf : ∀ c ∈ l, MCall.WF c) (_ : len ≤ cap) (_ : cap ≤ 9223372036854775807) {W : World} (hS : Sl W 4 A len (l.flatMap mCells))
    (A2 : Option Addr) (n cap2 : Nat) (rs0 : List D32) (hn0 : rs0.length = n) (_ : ∀ r ∈ rs0, D32.Good r) (hnc : n ≤ cap2) (hc2 : cap2 ≤ 9223372036854775807) (hS20 : Sl W 32 A2 n (rs0.flatMap d32)) :
    Calls Try.prog 12 #[.string key, .string nonce, .slice A len cap, .slice A2 n cap2] W fun e w' => e = .returned (.bool true) ∧ Below W.heap.size W w' := by
  obtain ⟨rs, hrs0⟩ : ∃ rs, rs0.map (·.1) = rs := ⟨_, rfl⟩
  have hn : rs.length = n := by rw [← hrs0, List.length_map]; exact hn0
  have hrs : ∀ r ∈ rs, r.length = 32 := fun r hr => by rw [← hrs0, List.mem_map] at hr; obtain ⟨y, _, rfl⟩ := hr; exact y.2
  have hS2 : Sl W 32 A2 n (rs.flatMap u8s) := by rw [← hrs0, flat_d32]; exact hS20
  clear hS20 hn0 hrs0
  refine Calls.mono (R := fun e w' => e = .returned (.bool true) ∧ Mods No W w') ?_ (fun e w' ⟨h1, h2⟩ => ⟨h1, h2.toBelow (fun _ h => h.elim) (Nat.le_refl _)⟩)
  have hR := Sl.regsSl hS2 hn hrs
  have Hlarge := Lib.hid (large_any A len cap l W hl hS)
  by_cases hb : isLarge l = true
  · rw [hb] at Hlarge
    clear hb hS hwf hS2 hR hrs
    go_enter Try.func12, Try.ntmps12
    go_wp2_with fail
    refine Hlarge.out.mono ?_
    rintro e w' ⟨rfl, rfl⟩
    go_wp2_with fail
    refine (awake_any _).mono ?_
    rintro e w9 ⟨rfl, m9⟩
    go_wp2_with fail
    go_ret
    exact ⟨rfl, m9⟩
  have hb' : isLarge l = false := by simpa using hb
  rw [hb'] at Hlarge
  by_cases h1 : 100 < key.size
  · have h1' : (100 : Int) < key.size := by omega
    clear hb hb' hS hwf hS2 hR hrs
    go_enter Try.func12, Try.ntmps12
    go_wp2_with fail
    refine Hlarge.out.mono ?_
    rintro e w' ⟨rfl, rfl⟩
    go_wp2_with fail
    refine (awake_any _).mono ?_
    rintro e w9 ⟨rfl, m9⟩
    go_wp2_with fail
    go_ret
    exact ⟨rfl, m9⟩
  have h1' : (key.size : Int) ≤ 100 := by omega
  by_cases h2 : 100 < nonce.size
  · have h2' : (100 : Int) < nonce.size := by omega
    clear hb hb' hS hwf hS2 hR hrs
    go_enter Try.func12, Try.ntmps12
    go_wp2_with fail
    refine Hlarge.out.mono ?_
    rintro e w' ⟨rfl, rfl⟩
    go_wp2_with fail
    refine (awake_any _).mono ?_
    rintro e w9 ⟨rfl, m9⟩
    go_wp2_with fail
    go_ret
    exact ⟨rfl, m9⟩
  have h2' : (nonce.size : Int) ≤ 100 := by omega
  by_cases h3 : 12 < n
  · have h3' : (12 : Int) < n := by omega
    clear hb hb' hS hwf hS2 hR hrs
    go_enter Try.func12, Try.ntmps12
    go_wp2_with fail
    refine Hlarge.out.mono ?_
    rintro e w' ⟨rfl, rfl⟩
    go_wp2_with fail
    refine (awake_any _).mono ?_
    rintro e w9 ⟨rfl, m9⟩
    go_wp2_with fail
    go_ret
    exact ⟨rfl, m9⟩
  have h3' : (n : Int) ≤ 12 := by omega
  exact quotes_walk key nonce h1' h2' A len cap l hl hwf hS hb' A2 n cap2 rs hn hrs h3' hR
end Go.Proofs.Ytamdanpkkcdhbaa
