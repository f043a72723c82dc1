/- VerifyQuote, on both sides. -/
import Derived.Test.YtamdanpkkcdhbaaQt1
set_option linter.unusedVariables false
set_option linter.unusedSimpArgs false
namespace Go.Proofs.Ytamdanpkkcdhbaa
open Go.RowKit Go.PF

def regB (evs : List Ev) : Bool := evs.all fun e => decide (0 ≤ e.reg ∧ e.reg < 8)
theorem regB_true {evs : List Ev} : regB evs = true ↔ inRegs evs := by
  unfold regB inRegs
  rw [List.all_eq_true]
  simp only [decide_eq_true_eq]
def verB (key : ByteArray) (evs : List Ev) (nonce : ByteArray) (q : List Int) : Bool := regB evs && ((quoteL key (replayL evs) nonce).1 == q)
theorem boxP_arr (w : World) {L : List Int} : Arr (w.alloc (.cells (u8s L).toArray 26)) w.heap.size (u8s L) := Arr.new w (u8s L) 26

set_option maxHeartbeats 2000000 in
set_option maxRecDepth 100000 in
theorem verify_gen (key nonce : ByteArray) (A : Option Addr) (n c : Nat) (evs : List Ev) (q : List Int) (hq : q.length = 32) (w : World) (D : List Int) (hD : D.length = 32)
    (hRep : ∀ w1, Mods No w w1 → Calls Try.prog 29 #[.slice A n c] w1 (RpPost evs w1))
    (hQu : ∀ w1 B, RegsAt w1 B 0 (replayL evs) → Calls Try.prog 36 #[.string key, .slice (some ⟨B, 0, none⟩) 8 8, .string nonce] w1 fun e w' => e = .returned (.tuple #[.agg (u8s D).toArray, .int .i64 0]) ∧ Mods No w1 w') :
    Calls Try.prog 34 #[.string key, .slice A n c, .string nonce, .agg (u8s q).toArray] w fun e w' => e = .returned (.bool (regB evs && (D == q))) ∧ Mods No w w' := by
  have HRep := Lib.hid hRep
  have HQu := Lib.hid hQu
  have Hq := Lib.hid hq
  have HD := Lib.hid hD
  clear hRep hQu hq hD
  have hP := Lib.hid (boxP_arr w (L := q))
  have hM : Mods No w (w.alloc (.cells (u8s q).toArray 26)) := (Mods.refl _ _).alloc _
  have HM := Lib.hid hM
  clear hM
  go_enter Try.func34, Try.ntmps34
  go_wp2_with fail
  refine (HRep.out _ HM.out).mono ?_
  rintro e w2 p2
  by_cases hg : regB evs = true
  · obtain ⟨B, hB, rfl, hA⟩ := p2.good (regB_true.1 hg)
    have HP2 := Lib.hid (hP.out.mods p2.mods id)
    have HM2 := Lib.hid (HM.out.no p2.mods)
    have HA2 := Lib.hid hA
    have HG := Lib.hid hg
    clear p2 hA hB hP HM hg
    go_wp2_with fail
    refine (HQu.out _ _ HA2.out).mono ?_
    rintro e w5 ⟨rfl, m5⟩
    have hT5 := Lib.hid (boxD_there w5 HD.out)
    have hA5 := Lib.hid (boxD_arr w5 HD.out).range
    have hA3' := Lib.hid ((HP2.out.mods m5 id).mods (boxD_mods w5 D) id).range
    have hM5 := Lib.hid (HM2.out.no (m5.no (boxD_mods w5 D)))
    have HI := Lib.hid (info32' HD.out)
    have HI2 := Lib.hid (info32 HD.out)
    have HI3 := Lib.hid (info32 Hq.out)
    have hE := fun w => digEq D q HD.out Hq.out w
    clear m5 HP2 HM2
    go_wp2_with (first
      | ((with_reducible refine wpList_store_mid ?_ 26 (.tmp 11) (.tmp 24) ?_ w5.heap.size 0 (u8s D).toArray ?_ ?_ hT5.out HI.out (u8s_one _) ?_); rfl; rfl; rfl; rfl)
      | ((with_reducible refine wpList_load_mid_g ?_ 26 (.tmp 11) ?_ w5.heap.size 0 ?_ (u8s D) _ hA5.out Try.underlying26 rfl HI2.out ?_); rfl; rfl; rfl)
      | ((with_reducible refine wpList_load_mid_g ?_ 26 (.tmp 7) ?_ w.heap.size 0 ?_ (u8s q) _ hA3'.out Try.underlying26 rfl HI3.out ?_); rfl; rfl; rfl))
    go_ret
    exact ⟨by rw [HG.out]; rfl, hM5.out⟩
  · obtain rfl := p2.bad (fun h => hg (regB_true.2 h))
    have HM2 := Lib.hid (HM.out.no p2.mods)
    have hg' : regB evs = false := by simpa using hg
    have HG := Lib.hid hg'
    clear p2 hg hg'
    go_wp2_with fail
    go_ret
    exact ⟨by rw [HG.out]; rfl, HM2.out⟩

set_option maxHeartbeats 2000000 in
set_option maxRecDepth 100000 in
theorem refVerify_gen (key nonce : ByteArray) (A : Option Addr) (n c : Nat) (evs : List Ev) (q : List Int) (hq : q.length = 32) (w : World) (D : List Int) (hD : D.length = 32)
    (hRep : ∀ w1, Mods No w w1 → Calls Try.prog 30 #[.slice A n c] w1 (RpPost evs w1))
    (hQu : ∀ w1 B, RegsAt w1 B 0 (replayL evs) → Calls Try.prog 33 #[.string key, .slice (some ⟨B, 0, none⟩) 8 8, .string nonce] w1 fun e w' => e = .returned (.tuple #[.agg (u8s D).toArray, .int .i64 0]) ∧ Mods No w1 w') :
    Calls Try.prog 35 #[.string key, .slice A n c, .string nonce, .agg (u8s q).toArray] w fun e w' => e = .returned (.bool (regB evs && (D == q))) ∧ Mods No w w' := by
  have HRep := Lib.hid hRep
  have HQu := Lib.hid hQu
  have Hq := Lib.hid hq
  have HD := Lib.hid hD
  clear hRep hQu hq hD
  have hP := Lib.hid (boxP_arr w (L := q))
  have hM : Mods No w (w.alloc (.cells (u8s q).toArray 26)) := (Mods.refl _ _).alloc _
  have HM := Lib.hid hM
  clear hM
  go_enter Try.func35, Try.ntmps35
  go_wp2_with fail
  refine (HRep.out _ HM.out).mono ?_
  rintro e w2 p2
  by_cases hg : regB evs = true
  · obtain ⟨B, hB, rfl, hA⟩ := p2.good (regB_true.1 hg)
    have HP2 := Lib.hid (hP.out.mods p2.mods id)
    have HM2 := Lib.hid (HM.out.no p2.mods)
    have HA2 := Lib.hid hA
    have HG := Lib.hid hg
    clear p2 hA hB hP HM hg
    go_wp2_with fail
    refine (HQu.out _ _ HA2.out).mono ?_
    rintro e w5 ⟨rfl, m5⟩
    have hT5 := Lib.hid (boxD_there w5 HD.out)
    have hA5 := Lib.hid (boxD_arr w5 HD.out).range
    have hA3' := Lib.hid ((HP2.out.mods m5 id).mods (boxD_mods w5 D) id).range
    have hM5 := Lib.hid (HM2.out.no (m5.no (boxD_mods w5 D)))
    have HI := Lib.hid (info32' HD.out)
    have HI2 := Lib.hid (info32 HD.out)
    have HI3 := Lib.hid (info32 Hq.out)
    have hE := fun w => digEq D q HD.out Hq.out w
    clear m5 HP2 HM2
    go_wp2_with (first
      | ((with_reducible refine wpList_store_mid ?_ 26 (.tmp 11) (.tmp 25) ?_ w5.heap.size 0 (u8s D).toArray ?_ ?_ hT5.out HI.out (u8s_one _) ?_); rfl; rfl; rfl; rfl)
      | ((with_reducible refine wpList_load_mid ?_ 26 (.tmp 11) ?_ w5.heap.size 0 ?_ (u8s D) _ hA5.out Try.underlying26 rfl HI2.out ?_); rfl; rfl; rfl)
      | ((with_reducible refine wpList_load_mid ?_ 26 (.tmp 7) ?_ w.heap.size 0 ?_ (u8s q) _ hA3'.out Try.underlying26 rfl HI3.out ?_); rfl; rfl; rfl))
    go_ret
    exact ⟨by rw [HG.out]; rfl, hM5.out⟩
  · obtain rfl := p2.bad (fun h => hg (regB_true.2 h))
    have HM2 := Lib.hid (HM.out.no p2.mods)
    have hg' : regB evs = false := by simpa using hg
    have HG := Lib.hid hg'
    clear p2 hg hg'
    go_wp2_with fail
    go_ret
    exact ⟨by rw [HG.out]; rfl, HM2.out⟩

theorem verify_any (key nonce : ByteArray) (A : Option Addr) (c : Nat) (evs : List Ev) (hok : ∀ e ∈ evs, Ev.Ok e) (hl : evs.length ≤ 1000) (q : List Int) (hq : q.length = 32) (hk : key.size ≤ 1000) (hn : nonce.size ≤ 1000) (w : World) (hR : EvSl w A evs) :
    Calls Try.prog 34 #[.string key, .slice A evs.length c, .string nonce, .agg (u8s q).toArray] w fun e w' => e = .returned (.bool (verB key evs nonce q)) ∧ Mods No w w' :=
  verify_gen key nonce A evs.length c evs q hq w _ (quoteL_length key (replayL evs) nonce) (fun w1 m => replay_sl A c evs hok hl w1 (hR.no m)) (fun w1 B hB => by
    have h := quote_any key nonce (some ⟨B, 0, none⟩) 8 (replayL evs) (replayL_ok evs).all (by rw [(replayL_ok evs).eight]; omega) hk hn w1 hB.regsSl
    have h2 : (quoteL key (replayL evs) nonce).2 = 0 := by unfold quoteL; rw [if_pos (replayL_ok evs).eight]
    rw [(replayL_ok evs).eight, h2] at h
    exact h)
theorem refVerify_any (key nonce : ByteArray) (A : Option Addr) (c : Nat) (evs : List Ev) (hok : ∀ e ∈ evs, Ev.Ok e) (hl : evs.length ≤ 1000) (q : List Int) (hq : q.length = 32) (hk : key.size ≤ 1000) (hn : nonce.size ≤ 1000) (w : World) (hR : EvSl w A evs) :
    Calls Try.prog 35 #[.string key, .slice A evs.length c, .string nonce, .agg (u8s q).toArray] w fun e w' => e = .returned (.bool (verB key evs nonce q)) ∧ Mods No w w' :=
  refVerify_gen key nonce A evs.length c evs q hq w _ (quoteL_length key (replayL evs) nonce) (fun w1 m => refReplay_sl A c evs hok hl w1 (hR.no m)) (fun w1 B hB => by
    have h := refQuote_any key nonce (some ⟨B, 0, none⟩) 8 (replayL evs) (replayL_ok evs).all (by rw [(replayL_ok evs).eight]; omega) hk hn w1 hB.regsSl
    have h2 : (quoteL key (replayL evs) nonce).2 = 0 := by unfold quoteL; rw [if_pos (replayL_ok evs).eight]
    rw [(replayL_ok evs).eight, h2] at h
    exact h)
end Go.Proofs.Ytamdanpkkcdhbaa
