/- The statement MeasureLogIsBounded: a log accepts 256 events and refuses one more, without changing a register. -/
import Derived.Test.YtamdanpkkcdhbaaMs1
set_option linter.unusedVariables false
set_option linter.unusedSimpArgs false
namespace Go.Proofs.Ytamdanpkkcdhbaa
open Go.RowKit Go.PF

def kT : ByteArray := ⟨#[116]⟩
theorem meas_room (evs : List Ev) (k : Int) (d : ByteArray) (hk : 0 ≤ k ∧ k < 8) (hn : evs.length < 256) : measRes (replayL evs) evs k kT d = (0, replayL (evs ++ [⟨k, shaL d, kT⟩]), evs ++ [⟨k, shaL d, kT⟩]) := by
  have hb : ¬ measBad k kT := by
    unfold measBad
    intro h
    rcases h with h | h
    · exact h hk
    · exact absurd h (by decide)
  unfold measRes
  rw [if_neg hb, if_neg (by omega), replayL_push]
  rfl
theorem meas_full (evs : List Ev) (k : Int) (d : ByteArray) (hk : 0 ≤ k ∧ k < 8) (hn : 256 ≤ evs.length) : measRes (replayL evs) evs k kT d = (8, replayL evs, evs) := by
  have hb : ¬ measBad k kT := by
    unfold measBad
    intro h
    rcases h with h | h
    · exact h hk
    · exact absurd h (by decide)
  unfold measRes
  rw [if_neg hb, if_pos hn]

set_option maxHeartbeats 4000000 in
set_option maxRecDepth 100000 in
theorem bounded_walk (data : ByteArray) (W : World) (hd : (data.size : Int) ≤ 50) : Calls Try.prog 8 #[.string data] W fun e w' => e = .returned (.bool true) ∧ Mods No W w' := by
  go_enter Try.func8, Try.ntmps8
  go_wp2_with fail
  refine (new_any _).mono ?_
  rintro e w1 ⟨rfl, hA1, m1⟩
  have HA1 := Lib.hid hA1
  have HM1 := Lib.hid m1
  clear hA1 m1
  obtain ⟨b, hbA⟩ : ∃ b, W.heap.size = b := ⟨_, rfl⟩
  have hbl : W.heap.size ≤ b := by omega
  rw [hbA] at HA1 ⊢
  clear hbA
  go_wp2_with fail
  go_loopw [4] (fun q wr => ∃ (k : Nat) (v : Value) (evs : List Ev), k ≤ 256 ∧ q = .int .i64 k ∧ evs.length = k ∧ LogAt wr b v (replayL evs) evs ∧ (∀ q, Foot b v q → W.heap.size ≤ q) ∧ Mods No W wr) (fun q _ => 256 - (intOf q).toNat)
  case atStart => exact ⟨0, _, [], by omega, rfl, rfl, HA1.out, fun q hq => (by rcases hq with rfl | hq; exact hbl; cases hq), HM1.out⟩
  case round =>
    clear HA1 HM1
    obtain ⟨k, v, evs, hk, rfl, hevs, hL, hF, hM⟩ := hrel
    have HL := Lib.hid hL
    have HF := Lib.hid hF
    have HM := Lib.hid hM
    have Hevs := Lib.hid hevs
    clear hL hF hM hevs
    by_cases hlt : k < 256
    · have hkl : (k : Int) < 256 := by omega
      have hmod : 0 ≤ (k : Int) % 8 ∧ (k : Int) % 8 < 8 := by omega
      have hmeasA := Lib.hid (fun w (h : LogAt w b v (replayL evs) evs) => measure_any b v (replayL evs) evs ((k : Int) % 8) kT data w h (by omega))
      rw [meas_room evs _ data hmod (by have := Hevs.out; omega)] at hmeasA
      clear hmod
      go_wp2_with fail
      refine (hmeasA.out _ HL.out).mono ?_
      rintro e w7 p7
      have he := p7.ret
      dsimp only at he
      subst he
      have P7 := Lib.hid p7
      clear p7
      go_wp2_with fail
      obtain ⟨v', hL', hb'⟩ := P7.out.log
      have hfn := foot_new (b := b) hb'
      go_roundw
      case rel =>
        refine ⟨k + 1, v', _, by omega, by go_num, by rw [List.length_append, Hevs.out]; rfl, hL', fun q hq => ?_, ?_⟩
        · rcases hfn q hq with h | h
          · exact HF.out q h
          · exact Nat.le_trans HM.out.size h
        · exact HM.out.trans P7.out.mods (fun q hq => .inr (HF.out q hq))
      case measure => simp [intOf]; omega
    · obtain rfl : k = 256 := by omega
      have hmeasA := Lib.hid (fun w (h : LogAt w b v (replayL evs) evs) => measure_any b v (replayL evs) evs 3 kT data w h (by omega))
      rw [meas_full evs _ data (by omega) (by have := Hevs.out; omega)] at hmeasA
      have hlr := regRes_length (replayL_ok evs) 3
      have HRA := Lib.hid (fun w v (h : LogAt w b v (replayL evs) evs) => register_any b v (replayL evs) evs 3 w h)
      have hE : (regRes (replayL evs) 3).2 = 0 := rfl
      obtain ⟨X, hX⟩ : ∃ X, (regRes (replayL evs) 3).1 = X := ⟨_, rfl⟩
      rw [hX] at hlr HRA
      rw [hE] at HRA
      have HX := Lib.hid hlr
      clear hX hE hlr hlt hk
      go_wp2_with fail
      refine (HRA.out _ _ HL.out).mono ?_
      rintro e w3 ⟨rfl, m3⟩
      have HI := Lib.hid (info32' HX.out)
      have hT3 := Lib.hid (boxD_there w3 HX.out)
      have hA3 := Lib.hid (boxD_arr w3 HX.out)
      have hM3 := Lib.hid (m3.no (boxD_mods w3 X))
      have hlo : wr.heap.size ≤ w3.heap.size := m3.size
      clear m3
      go_wp2_with ((with_reducible refine wpList_store_mid ?_ 26 (.tmp 5) (.tmp 30) ?_ w3.heap.size 0 (u8s X).toArray ?_ ?_ hT3.out HI.out (u8s_one _) ?_); rfl; rfl; rfl; rfl)
      obtain ⟨B7, hB7⟩ : ∃ b, w3.heap.size = b := ⟨_, rfl⟩
      rw [hB7] at hA3 hM3 hlo ⊢
      clear hB7 hT3
      generalize (w3.alloc (.cells #[Value.int .u8 0, Value.int .u8 0, Value.int .u8 0, Value.int .u8 0, Value.int .u8 0, Value.int .u8 0, Value.int .u8 0, Value.int .u8 0, Value.int .u8 0, Value.int .u8 0, Value.int .u8 0, Value.int .u8 0, Value.int .u8 0, Value.int .u8 0, Value.int .u8 0, Value.int .u8 0, Value.int .u8 0, Value.int .u8 0, Value.int .u8 0, Value.int .u8 0, Value.int .u8 0, Value.int .u8 0, Value.int .u8 0, Value.int .u8 0, Value.int .u8 0, Value.int .u8 0, Value.int .u8 0, Value.int .u8 0, Value.int .u8 0, Value.int .u8 0, Value.int .u8 0, Value.int .u8 0] 26)).setCells B7 0 (u8s X) = w4 at hA3 hM3 ⊢
      refine (hmeasA.out _ (HL.out.no hM3.out)).mono ?_
      rintro e w5 p5
      have he := p5.ret
      dsimp only at he
      subst he
      obtain ⟨v', hL', hb'⟩ := p5.log
      have hA5 := Lib.hid (hA3.out.mods p5.mods (fun h => by
        have h2 := HL.out.lt
        rcases h with h | h
        · omega
        · have := HL.out.low _ h; omega))
      have hL5 := Lib.hid hL'
      have hM5 := Lib.hid ((HM.out.no hM3.out).trans p5.mods (fun q hq => .inr (HF.out q hq)))
      clear p5 hL' hb' hA3 hM3 hmeasA HL
      go_wp2_with fail
      refine (HRA.out _ _ hL5.out).mono ?_
      rintro e w6 ⟨rfl, m6⟩
      have hT6 := Lib.hid (boxD_there w6 HX.out)
      have hA6 := Lib.hid ((boxD_arr w6 HX.out).range)
      have hA6' := Lib.hid (((hA5.out.mods m6 id).mods (boxD_mods w6 X) id).range)
      have hM6 := Lib.hid (hM5.out.no (m6.no (boxD_mods w6 X)))
      have hL6 := Lib.hid (hL5.out.no (m6.no (boxD_mods w6 X)))
      have HI2 := Lib.hid (info32 HX.out)
      have hEQ : ∀ w, (binOp .eql 26 (.agg (u8s X).toArray) (.agg (u8s X).toArray)).run Try.prog w = .ok (.bool true) w := fun w => by
        rw [digEq X X HX.out HX.out w]
        simp
      clear m6 hL5 hM5 hA5 HRA
      go_wp2_with (first
        | ((with_reducible refine wpList_store_mid ?_ 26 (.tmp 8) (.tmp 38) ?_ w6.heap.size 0 (u8s X).toArray ?_ ?_ hT6.out HI.out (u8s_one _) ?_); rfl; rfl; rfl; rfl)
        | ((with_reducible refine wpList_load_mid_g ?_ 26 (.tmp 5) ?_ B7 0 ?_ (u8s X) _ hA6'.out Try.underlying26 rfl HI2.out ?_); rfl; rfl; rfl)
        | ((with_reducible refine wpList_load_mid_g ?_ 26 (.tmp 8) ?_ w6.heap.size 0 ?_ (u8s X) _ hA6.out Try.underlying26 rfl HI2.out ?_); rfl; rfl; rfl))
      refine (events_any b v' _ evs _ hL6.out (by have := Hevs.out; omega)).mono ?_
      rintro e w9 ⟨⟨u, rfl, r9, b9⟩, m9⟩
      obtain ⟨A9, c9, rfl, -, -, -⟩ := r9.shape
      rw [Hevs.out]
      have HM9 := Lib.hid (hM6.out.no m9)
      clear r9 b9 m9
      go_wp2_with fail
      refine (awake_any _).mono ?_
      rintro e w10 ⟨rfl, m10⟩
      have HM10 := Lib.hid (HM9.out.no m10)
      clear m10
      go_wp2_with fail
      go_ret
      exact ⟨rfl, HM10.out⟩
theorem bounded_law (data : ByteArray) (_ : data.size ≤ 140737488351232) {W : World} : Calls Try.prog 8 #[.string data] W fun e w' => e = .returned (.bool true) ∧ Below W.heap.size W w' := by
  refine Calls.mono (R := fun e w' => e = .returned (.bool true) ∧ Mods No W w') ?_ (fun e w' ⟨h1, h2⟩ => ⟨h1, h2.toBelow (fun _ h => h.elim) (Nat.le_refl _)⟩)
  by_cases hs : 50 < data.size
  · have hs1 : (50 : Int) < data.size := by omega
    go_enter Try.func8, Try.ntmps8
    go_wp2_with fail
    refine (awake_any _).mono ?_
    rintro e w9 ⟨rfl, hb⟩
    go_wp2
    go_ret
    exact ⟨rfl, hb⟩
  · exact bounded_walk data W (by omega)
end Go.Proofs.Ytamdanpkkcdhbaa
