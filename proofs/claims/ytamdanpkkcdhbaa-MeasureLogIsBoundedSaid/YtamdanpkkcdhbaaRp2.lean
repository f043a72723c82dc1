/- Replay: the walk. -/
import Derived.Test.YtamdanpkkcdhbaaRp1
set_option linter.unusedVariables false
set_option linter.unusedSimpArgs false
namespace Go.Proofs.Ytamdanpkkcdhbaa
open Go.RowKit Go.PF

theorem made_regs (w : World) : (Instr.makeSlice 48 (.int .i64 8) (.int .i64 8)).run Try.prog w = .ok (.slice (some ⟨w.heap.size, 0, none⟩) 8 8) (w.alloc (.cells (regV zeroRegs).toArray 26)) := by kernel_rfl
theorem made_regsAt (w : World) : RegsAt (w.alloc (.cells (regV zeroRegs).toArray 26)) w.heap.size 0 zeroRegs := RegsAt.of (cs := []) zeroRegs_ok (Arr.new w (regV zeroRegs) 26)

structure RpPost (evs : List Ev) (w : World) (e : Ending) (w' : World) : Prop where
  good : inRegs evs → ∃ B, w.heap.size ≤ B ∧ e = .returned (.tuple #[.slice (some ⟨B, 0, none⟩) 8 8, .int .i64 0]) ∧ RegsAt w' B 0 (replayL evs)
  bad : ¬ inRegs evs → e = .returned (.tuple #[.slice none 0 0, .int .i64 1])
  mods : Mods No w w'
theorem evZero : (evV ⟨0, z32, ByteArray.empty⟩).length = 34 := rfl

set_option maxHeartbeats 2000000 in
set_option maxRecDepth 100000 in
theorem replay_sl (A : Option Addr) (c : Nat) (evs : List Ev) (hok : ∀ e ∈ evs, Ev.Ok e) (hn : evs.length ≤ 1000) (w : World) (hR : EvSl w A evs) :
    Calls Try.prog 29 #[.slice A evs.length c] w (RpPost evs w) := by
  have HR := Lib.hid hR
  have HO := Lib.hid hok
  clear hR hok
  have hmk := made_regs
  go_enter Try.func29, Try.ntmps29
  go_wp2_with fail
  have hA := made_regsAt w
  have hM : Mods No w (w.alloc (.cells (regV zeroRegs).toArray 26)) := (Mods.refl _ _).alloc _
  generalize w.alloc (.cells (regV zeroRegs).toArray 26) = W1 at hA hM ⊢
  obtain ⟨B, hB⟩ : ∃ B, w.heap.size = B := ⟨_, rfl⟩
  rw [hB] at hA ⊢
  have bB : w.heap.size ≤ B := by omega
  clear hB hmk
  go_loopw [10] (fun q wr => ∃ k : Nat, k ≤ evs.length ∧ q = .int .i64 k ∧ RegsAt wr B 0 (replayL (evs.take k)) ∧ Mods No w wr ∧ inRegs (evs.take k)) (fun q _ => evs.length - (intOf q).toNat)
  case atStart => exact ⟨0, Nat.zero_le _, rfl, hA, hM, fun e he => (by cases he)⟩
  case round =>
    obtain ⟨k, hk, rfl, gA, gM, gI⟩ := hrel
    clear hA hM
    by_cases hlt : k < evs.length
    · obtain ⟨e, he⟩ := some_at (l := evs) (i := k) hlt
      have hoke := HO.out e (List.mem_of_getElem? he)
      obtain ⟨g1, o1, hu, r1⟩ := (HR.out.no gM) k e he
      cases hu
      have hkl : (k : Int) < evs.length := by omega
      have G1 := Lib.hid r1
      have HI : Hid ((Try.prog.info? 45).map (fun x => x.size) = some (evV e).length) := by rw [evV_length hoke.dig]; exact infoEv
      have HA := Lib.hid gA
      have HM := Lib.hid gM
      have Hh := Lib.hid gI
      have He := Lib.hid he
      have Hoke := Lib.hid hoke
      clear r1 gA gM gI he hoke
      have hN : Arr (wr.alloc (.cells #[Value.int .i64 0, Value.int .u8 0, Value.int .u8 0, Value.int .u8 0, Value.int .u8 0, Value.int .u8 0, Value.int .u8 0, Value.int .u8 0, Value.int .u8 0, Value.int .u8 0, Value.int .u8 0, Value.int .u8 0, Value.int .u8 0, Value.int .u8 0, Value.int .u8 0, Value.int .u8 0, Value.int .u8 0, Value.int .u8 0, Value.int .u8 0, Value.int .u8 0, Value.int .u8 0, Value.int .u8 0, Value.int .u8 0, Value.int .u8 0, Value.int .u8 0, Value.int .u8 0, Value.int .u8 0, Value.int .u8 0, Value.int .u8 0, Value.int .u8 0, Value.int .u8 0, Value.int .u8 0, Value.int .u8 0, Value.string { data := #[] }] 45)) wr.heap.size (evV ⟨0, z32, ⟨#[]⟩⟩) := Arr.new wr (evV ⟨0, z32, ⟨#[]⟩⟩) 45
      have HT := Lib.hid (hN.there' (vs := (evV e).toArray) (by rw [List.size_toArray, evV_length Hoke.out.dig]; rfl))
      have HI' : Hid ((Try.prog.info? 45).map (fun x => x.size) = some (evV e).toArray.size) := by rw [List.size_toArray]; exact HI.out
      have H1 : Hid ((evV e).toArray.all (·.oneCell') = true) := all_oneCell_toArray (evV_one e)
      have HE := Lib.hid (hN.stored (evV e) (by rw [evV_length Hoke.out.dig]; rfl))
      have ec : ((wr.alloc (.cells #[Value.int .i64 0, Value.int .u8 0, Value.int .u8 0, Value.int .u8 0, Value.int .u8 0, Value.int .u8 0, Value.int .u8 0, Value.int .u8 0, Value.int .u8 0, Value.int .u8 0, Value.int .u8 0, Value.int .u8 0, Value.int .u8 0, Value.int .u8 0, Value.int .u8 0, Value.int .u8 0, Value.int .u8 0, Value.int .u8 0, Value.int .u8 0, Value.int .u8 0, Value.int .u8 0, Value.int .u8 0, Value.int .u8 0, Value.int .u8 0, Value.int .u8 0, Value.int .u8 0, Value.int .u8 0, Value.int .u8 0, Value.int .u8 0, Value.int .u8 0, Value.int .u8 0, Value.int .u8 0, Value.int .u8 0, Value.string { data := #[] }] 45)).setCells wr.heap.size 0 (evV e)).cell? ⟨wr.heap.size, 0, none⟩ = some (.int .i64 e.reg) := (HE.out 0 _ rfl).1
      clear hN
      go_wp2_with (first | ((with_reducible refine wpList_load_mid ?_ 45 (.tmp 12) ?_ g1 (o1 + k * 34) ?_ (evV e) _ G1.out Try.underlying45 rfl HI.out ?_); rfl; rfl; rfl) | ((with_reducible refine wpList_store_mid ?_ 45 (.tmp 6) (.tmp 13) ?_ wr.heap.size 0 (evV e).toArray ?_ ?_ HT.out HI'.out H1.out ?_); rfl; rfl; rfl; rfl))
      have hM5 := mods_setCells (F := No) (a := wr) wr.heap.size (.inr (Nat.le_refl _)) (evV e) 0 _ ((Mods.refl No wr).alloc (.cells #[Value.int .i64 0, Value.int .u8 0, Value.int .u8 0, Value.int .u8 0, Value.int .u8 0, Value.int .u8 0, Value.int .u8 0, Value.int .u8 0, Value.int .u8 0, Value.int .u8 0, Value.int .u8 0, Value.int .u8 0, Value.int .u8 0, Value.int .u8 0, Value.int .u8 0, Value.int .u8 0, Value.int .u8 0, Value.int .u8 0, Value.int .u8 0, Value.int .u8 0, Value.int .u8 0, Value.int .u8 0, Value.int .u8 0, Value.int .u8 0, Value.int .u8 0, Value.int .u8 0, Value.int .u8 0, Value.int .u8 0, Value.int .u8 0, Value.int .u8 0, Value.int .u8 0, Value.int .u8 0, Value.int .u8 0, Value.string { data := #[] }] 45))
      have hA5 := HA.out.mods hM5 id
      have hE5 := HE.out
      have hB5 : wr.heap.size ≤ wr.heap.size := Nat.le_refl _
      clear HT HI' H1 HE HA G1
      generalize (wr.alloc (.cells #[Value.int .i64 0, Value.int .u8 0, Value.int .u8 0, Value.int .u8 0, Value.int .u8 0, Value.int .u8 0, Value.int .u8 0, Value.int .u8 0, Value.int .u8 0, Value.int .u8 0, Value.int .u8 0, Value.int .u8 0, Value.int .u8 0, Value.int .u8 0, Value.int .u8 0, Value.int .u8 0, Value.int .u8 0, Value.int .u8 0, Value.int .u8 0, Value.int .u8 0, Value.int .u8 0, Value.int .u8 0, Value.int .u8 0, Value.int .u8 0, Value.int .u8 0, Value.int .u8 0, Value.int .u8 0, Value.int .u8 0, Value.int .u8 0, Value.int .u8 0, Value.int .u8 0, Value.int .u8 0, Value.int .u8 0, Value.string { data := #[] }] 45)).setCells wr.heap.size 0 (evV e) = W5 at hM5 hA5 hE5 ec ⊢
      have hM6 := HM.out.no hM5
      have hBn := HM.out.size
      generalize wr.heap.size = Be at hE5 ec hBn ⊢
      refine (isRegister_any _ _).mono ?_
      rintro e' w' ⟨rfl, rfl⟩
      by_cases hr : 0 ≤ e.reg ∧ e.reg < 8
      · have hre : isReg e.reg = true := by unfold isReg; simp only [decide_eq_true_eq]; exact hr
        rw [hre]
        obtain ⟨n, hn'⟩ : ∃ n : Nat, e.reg = n := ⟨e.reg.toNat, by omega⟩
        have hn8 : n < 8 := by omega
        obtain ⟨r, hr1, hrl⟩ := (replayL_ok (evs.take k)).at (k := n) hn8
        have hst : replayL (evs.take (k + 1)) = (replayL (evs.take k)).set n (extL r e.dig) := by
          rw [take_succ_of He.out, replayL_push]
          unfold stepE
          rw [hn', Int.toNat_natCast, show (replayL (evs.take k)).getD n [] = r by simp [List.getD, hr1]]
        have hin : inRegs (evs.take (k + 1)) := by
          intro x hx
          rw [take_succ_of He.out, List.mem_append, List.mem_singleton] at hx
          rcases hx with h | h
          · exact Hh.out x h
          · rw [h]; exact hr
        have hX : (extL r e.dig).length = 32 := shaL_length _
        have hEx := fun w => extend_any r e.dig hrl Hoke.out.dig w
        obtain ⟨X, hXe⟩ : ∃ X, extL r e.dig = X := ⟨_, rfl⟩
        rw [hXe] at hst hX hEx
        have HX := Lib.hid hX
        have HEx := Lib.hid hEx
        have HRL := Lib.hid hrl
        have Hr1 := Lib.hid hr1
        have Hst := Lib.hid hst
        have Hin := Lib.hid hin
        have hrg2 : Hid (∀ x : Ext W5, x.w.rangeAt Be 1 (u8s e.dig)) := fun x j v hv => by
          have := ((hE5.ext x) (1 + j) v (by
            rw [Nat.add_comm]
            show ((u8s e.dig ++ [Value.string e.text]))[j]? = some v
            rw [List.getElem?_append_left (List.getElem?_eq_some_iff.1 hv).1]
            exact hv)).1
          exact this
        have hrg1 : Hid (∀ x : Ext W5, x.w.rangeAt B (n * 32) (u8s r)) := fun x => by
          have := (hA5.mods x.m id).range Hr1.out
          rwa [Nat.zero_add] at this
        have HD := Lib.hid Hoke.out.dig
        rw [hn'] at ec ⊢
        have hn81 : (n : Int) < 8 := by omega
        have cE : ∀ y : Ext W5, y.w.cell? ⟨Be, 0, none⟩ = some (.int .i64 n) := fun y => y.cell ec
        clear hXe hst hin hX hEx hrl hr1 hre hr hn'
        go_wp2_with fail
        refine wp_region_ext 12 (by kernel_rfl) (by kernel_rfl) ?_
        simp only [List.take_succ_cons, List.take_zero, List.drop_succ_cons, List.drop_zero]
        repeat (first | go_big_quiet_skip | (go_big_quiet_want; first
          | (refine quiet_load_row 26 (.tmp 24) rfl B (n * 32) (by rfl) (u8s r) _ (fun _ ⟨x, h⟩ => h ▸ hrg1.out x) Try.underlying26 rfl (info32 HRL.out) ?_; go_big_quiet_on; simp only [Act.put, List.setIfInBounds_toArray, List.set_cons_succ, List.set_cons_zero])
          | (refine quiet_load_row 26 (.tmp 26) rfl Be 1 (by rfl) (u8s e.dig) _ (fun _ ⟨x, h⟩ => h ▸ hrg2.out x) Try.underlying26 rfl (info32 HD.out) ?_; go_big_quiet_on; simp only [Act.put, List.setIfInBounds_toArray, List.set_cons_succ, List.set_cons_zero])
          | (go_big_quiet_op; first | go_big_quiet_on | go_big_quiet_call ((go_at_call 43; exact Ext.call _ (HEx.out _))))))
        refine wpQuiet_nil ?_
        intro x
        have hA7 := hA5.mods x.m id
        have hT7 := thereX (hA7.there Hr1.out) HRL.out HX.out
        have hS7 := hA7.store (replayL_ok _) Hr1.out HX.out
        rw [Nat.zero_add] at hT7 hS7
        have HT := Lib.hid hT7
        have HS := Lib.hid hS7
        have HI7 := Lib.hid (info32' HX.out)
        have HM7 := Lib.hid (mods_setCells (F := No) (a := w) B (.inr bB) (u8s X) (n * 32) _ (hM6.no x.m))
        clear hA7 hT7 hS7 hM6 hA5 hE5 hM5 ec cE hrg1 hrg2
        go_wp2_with ((with_reducible refine wpList_store_mid ?_ 26 (.tmp 29) (.tmp 28) ?_ B (n * 32) (u8s X).toArray ?_ ?_ HT.out HI7.out (u8s_one _) ?_); rfl; rfl; rfl; rfl)
        go_roundw
        case rel => exact ⟨k + 1, by omega, by go_num, by rw [Hst.out]; exact HS.out, HM7.out, Hin.out⟩
        case measure => simp [intOf]; omega
      · have hre : isReg e.reg = false := by unfold isReg; simp only [decide_eq_false_iff_not]; exact hr
        rw [hre]
        have H6 := Lib.hid hM6
        clear hM5 hA5 hE5 ec hM6
        go_wp2_with fail
        go_ret2
        exact ⟨fun h => absurd (h e (List.mem_of_getElem? He.out)) hr, fun _ => rfl, H6.out⟩
    · obtain rfl : k = evs.length := by omega
      rw [List.take_length] at gA gI
      have H1 := Lib.hid gA
      have H2 := Lib.hid gM
      have H3 := Lib.hid gI
      clear gA gM gI
      go_wp2_with fail
      go_ret2
      exact ⟨fun _ => ⟨B, bB, rfl, H1.out⟩, fun h => absurd H3.out h, H2.out⟩
theorem replay_any (v : Value) (evs : List Ev) (hok : ∀ e ∈ evs, Ev.Ok e) (hn : evs.length ≤ 1000) (w : World) (hR : Row w 34 v evs.length (evs.flatMap evV)) :
    Calls Try.prog 29 #[v] w (RpPost evs w) := by
  obtain ⟨A, c, rfl, -, -, -⟩ := hR.shape
  exact replay_sl A c evs hok hn w (Row.evSl hR hok)
end Go.Proofs.Ytamdanpkkcdhbaa
