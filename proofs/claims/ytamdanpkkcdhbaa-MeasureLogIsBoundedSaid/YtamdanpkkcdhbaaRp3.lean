/- The reference's Replay: the walk. -/
import Derived.Test.YtamdanpkkcdhbaaRp2
set_option linter.unusedVariables false
set_option linter.unusedSimpArgs false
namespace Go.Proofs.Ytamdanpkkcdhbaa
open Go.RowKit Go.PF

set_option maxHeartbeats 2000000 in
set_option maxRecDepth 100000 in
theorem refReplay_sl (A : Option Addr) (c : Nat) (evs : List Ev) (hok : ∀ e ∈ evs, Ev.Ok e) (hn : evs.length ≤ 1000) (w : World) (hR : EvSl w A evs) :
    Calls Try.prog 30 #[.slice A evs.length c] w (RpPost evs w) := by
  have HR := Lib.hid hR
  have HO := Lib.hid hok
  clear hR hok
  have hmk := made_regs
  go_enter Try.func30, Try.ntmps30
  go_wp2_with fail
  have hA := made_regsAt w
  have hM : Mods No w (w.alloc (.cells (regV zeroRegs).toArray 26)) := (Mods.refl _ _).alloc _
  generalize w.alloc (.cells (regV zeroRegs).toArray 26) = W1 at hA hM ⊢
  obtain ⟨B, hB⟩ : ∃ B, w.heap.size = B := ⟨_, rfl⟩
  rw [hB] at hA ⊢
  have bB : w.heap.size ≤ B := by omega
  clear hB hmk
  go_loopw [5] (fun q wr => ∃ k : Nat, k ≤ evs.length ∧ q = .int .i64 k ∧ RegsAt wr B 0 (replayL (evs.take k)) ∧ Mods No w wr ∧ inRegs (evs.take k)) (fun q _ => evs.length - (intOf q).toNat)
  case atStart => exact ⟨0, Nat.zero_le _, rfl, hA, hM, fun e he => (by cases he)⟩
  case round =>
    obtain ⟨k, hk, rfl, gA, gM, gI⟩ := hrel
    clear hA hM
    by_cases hlt : k < evs.length
    · obtain ⟨e, he⟩ := some_at (l := evs) (i := k) hlt
      have hoke := HO.out e (List.mem_of_getElem? he)
      obtain ⟨g1, o1, hu, r1⟩ := (HR.out.no gM) k e he
      cases hu
      have hkl : (k : Int) < evs.length := by omega
      have G1 := Lib.hid r1
      have HI : Hid ((Try.prog.info? 45).map (fun x => x.size) = some (evV e).length) := by rw [evV_length hoke.dig]; exact infoEv
      have HA := Lib.hid gA
      have HM := Lib.hid gM
      have Hh := Lib.hid gI
      have He := Lib.hid he
      have Hoke := Lib.hid hoke
      clear r1 gA gM gI he hoke
      have hN : Arr (wr.alloc (.cells #[Value.int .i64 0, Value.int .u8 0, Value.int .u8 0, Value.int .u8 0, Value.int .u8 0, Value.int .u8 0, Value.int .u8 0, Value.int .u8 0, Value.int .u8 0, Value.int .u8 0, Value.int .u8 0, Value.int .u8 0, Value.int .u8 0, Value.int .u8 0, Value.int .u8 0, Value.int .u8 0, Value.int .u8 0, Value.int .u8 0, Value.int .u8 0, Value.int .u8 0, Value.int .u8 0, Value.int .u8 0, Value.int .u8 0, Value.int .u8 0, Value.int .u8 0, Value.int .u8 0, Value.int .u8 0, Value.int .u8 0, Value.int .u8 0, Value.int .u8 0, Value.int .u8 0, Value.int .u8 0, Value.int .u8 0, Value.string { data := #[] }] 45)) wr.heap.size (evV ⟨0, z32, ⟨#[]⟩⟩) := Arr.new wr (evV ⟨0, z32, ⟨#[]⟩⟩) 45
      have HT := Lib.hid (hN.there' (vs := (evV e).toArray) (by rw [List.size_toArray, evV_length Hoke.out.dig]; rfl))
      have HI' : Hid ((Try.prog.info? 45).map (fun x => x.size) = some (evV e).toArray.size) := by rw [List.size_toArray]; exact HI.out
      have H1 : Hid ((evV e).toArray.all (·.oneCell') = true) := all_oneCell_toArray (evV_one e)
      have HE := Lib.hid (hN.stored (evV e) (by rw [evV_length Hoke.out.dig]; rfl))
      have ec : ((wr.alloc (.cells #[Value.int .i64 0, Value.int .u8 0, Value.int .u8 0, Value.int .u8 0, Value.int .u8 0, Value.int .u8 0, Value.int .u8 0, Value.int .u8 0, Value.int .u8 0, Value.int .u8 0, Value.int .u8 0, Value.int .u8 0, Value.int .u8 0, Value.int .u8 0, Value.int .u8 0, Value.int .u8 0, Value.int .u8 0, Value.int .u8 0, Value.int .u8 0, Value.int .u8 0, Value.int .u8 0, Value.int .u8 0, Value.int .u8 0, Value.int .u8 0, Value.int .u8 0, Value.int .u8 0, Value.int .u8 0, Value.int .u8 0, Value.int .u8 0, Value.int .u8 0, Value.int .u8 0, Value.int .u8 0, Value.int .u8 0, Value.string { data := #[] }] 45)).setCells wr.heap.size 0 (evV e)).cell? ⟨wr.heap.size, 0, none⟩ = some (.int .i64 e.reg) := (HE.out 0 _ rfl).1
      clear hN
      have hM5 := mods_setCells (F := No) (a := wr) wr.heap.size (.inr (Nat.le_refl _)) (evV e) 0 _ ((Mods.refl No wr).alloc (.cells #[Value.int .i64 0, Value.int .u8 0, Value.int .u8 0, Value.int .u8 0, Value.int .u8 0, Value.int .u8 0, Value.int .u8 0, Value.int .u8 0, Value.int .u8 0, Value.int .u8 0, Value.int .u8 0, Value.int .u8 0, Value.int .u8 0, Value.int .u8 0, Value.int .u8 0, Value.int .u8 0, Value.int .u8 0, Value.int .u8 0, Value.int .u8 0, Value.int .u8 0, Value.int .u8 0, Value.int .u8 0, Value.int .u8 0, Value.int .u8 0, Value.int .u8 0, Value.int .u8 0, Value.int .u8 0, Value.int .u8 0, Value.int .u8 0, Value.int .u8 0, Value.int .u8 0, Value.int .u8 0, Value.int .u8 0, Value.string { data := #[] }] 45))
      have HM5 := Lib.hid hM5
      have HM6 := Lib.hid (HM.out.no hM5)
      clear hM5
      by_cases hlo : e.reg < 0
      · go_wp2_with (first | ((with_reducible refine wpList_load_mid ?_ 45 (.tmp 17) ?_ g1 (o1 + k * 34) ?_ (evV e) _ G1.out Try.underlying45 rfl HI.out ?_); rfl; rfl; rfl) | ((with_reducible refine wpList_store_mid ?_ 45 (.tmp 6) (.tmp 18) ?_ wr.heap.size 0 (evV e).toArray ?_ ?_ HT.out HI'.out H1.out ?_); rfl; rfl; rfl; rfl))
        go_ret2
        exact ⟨fun h => absurd (h e (List.mem_of_getElem? He.out)).1 (by omega), fun _ => rfl, HM6.out⟩
      by_cases hhi : 8 ≤ e.reg
      · have hlo' : 0 ≤ e.reg := by omega
        go_wp2_with (first | ((with_reducible refine wpList_load_mid ?_ 45 (.tmp 17) ?_ g1 (o1 + k * 34) ?_ (evV e) _ G1.out Try.underlying45 rfl HI.out ?_); rfl; rfl; rfl) | ((with_reducible refine wpList_store_mid ?_ 45 (.tmp 6) (.tmp 18) ?_ wr.heap.size 0 (evV e).toArray ?_ ?_ HT.out HI'.out H1.out ?_); rfl; rfl; rfl; rfl))
        go_ret2
        exact ⟨fun h => absurd (h e (List.mem_of_getElem? He.out)).2 (by omega), fun _ => rfl, HM6.out⟩
      · obtain ⟨n, hn'⟩ : ∃ n : Nat, e.reg = n := ⟨e.reg.toNat, by omega⟩
        have hn8 : n < 8 := by omega
        have hr : 0 ≤ e.reg ∧ e.reg < 8 := by omega
        obtain ⟨r, hr1, hrl⟩ := (replayL_ok (evs.take k)).at (k := n) hn8
        have hg1 := (HA.out.mods HM5.out id).range hr1
        rw [Nat.zero_add] at hg1
        have HRL := Lib.hid hrl
        have HG := Lib.hid hg1
        have Hr1 := Lib.hid hr1
        have hlo' : 0 ≤ (n : Int) := by omega
        have hhi' : (n : Int) < 8 := by omega
        have Hn := Lib.hid hn'
        rw [hn'] at ec
        have hN2 : Arr (((wr.alloc (.cells #[Value.int .i64 0, Value.int .u8 0, Value.int .u8 0, Value.int .u8 0, Value.int .u8 0, Value.int .u8 0, Value.int .u8 0, Value.int .u8 0, Value.int .u8 0, Value.int .u8 0, Value.int .u8 0, Value.int .u8 0, Value.int .u8 0, Value.int .u8 0, Value.int .u8 0, Value.int .u8 0, Value.int .u8 0, Value.int .u8 0, Value.int .u8 0, Value.int .u8 0, Value.int .u8 0, Value.int .u8 0, Value.int .u8 0, Value.int .u8 0, Value.int .u8 0, Value.int .u8 0, Value.int .u8 0, Value.int .u8 0, Value.int .u8 0, Value.int .u8 0, Value.int .u8 0, Value.int .u8 0, Value.int .u8 0, Value.string { data := #[] }] 45)).setCells wr.heap.size 0 (evV e)).alloc (.cells #[Value.int .u8 0, Value.int .u8 0, Value.int .u8 0, Value.int .u8 0, Value.int .u8 0, Value.int .u8 0, Value.int .u8 0, Value.int .u8 0, Value.int .u8 0, Value.int .u8 0, Value.int .u8 0, Value.int .u8 0, Value.int .u8 0, Value.int .u8 0, Value.int .u8 0, Value.int .u8 0, Value.int .u8 0, Value.int .u8 0, Value.int .u8 0, Value.int .u8 0, Value.int .u8 0, Value.int .u8 0, Value.int .u8 0, Value.int .u8 0, Value.int .u8 0, Value.int .u8 0, Value.int .u8 0, Value.int .u8 0, Value.int .u8 0, Value.int .u8 0, Value.int .u8 0, Value.int .u8 0] 26)) ((wr.alloc (.cells #[Value.int .i64 0, Value.int .u8 0, Value.int .u8 0, Value.int .u8 0, Value.int .u8 0, Value.int .u8 0, Value.int .u8 0, Value.int .u8 0, Value.int .u8 0, Value.int .u8 0, Value.int .u8 0, Value.int .u8 0, Value.int .u8 0, Value.int .u8 0, Value.int .u8 0, Value.int .u8 0, Value.int .u8 0, Value.int .u8 0, Value.int .u8 0, Value.int .u8 0, Value.int .u8 0, Value.int .u8 0, Value.int .u8 0, Value.int .u8 0, Value.int .u8 0, Value.int .u8 0, Value.int .u8 0, Value.int .u8 0, Value.int .u8 0, Value.int .u8 0, Value.int .u8 0, Value.int .u8 0, Value.int .u8 0, Value.string { data := #[] }] 45)).setCells wr.heap.size 0 (evV e)).heap.size (u8s z32) := Arr.new ((wr.alloc (.cells #[Value.int .i64 0, Value.int .u8 0, Value.int .u8 0, Value.int .u8 0, Value.int .u8 0, Value.int .u8 0, Value.int .u8 0, Value.int .u8 0, Value.int .u8 0, Value.int .u8 0, Value.int .u8 0, Value.int .u8 0, Value.int .u8 0, Value.int .u8 0, Value.int .u8 0, Value.int .u8 0, Value.int .u8 0, Value.int .u8 0, Value.int .u8 0, Value.int .u8 0, Value.int .u8 0, Value.int .u8 0, Value.int .u8 0, Value.int .u8 0, Value.int .u8 0, Value.int .u8 0, Value.int .u8 0, Value.int .u8 0, Value.int .u8 0, Value.int .u8 0, Value.int .u8 0, Value.int .u8 0, Value.int .u8 0, Value.string { data := #[] }] 45)).setCells wr.heap.size 0 (evV e)) (u8s z32) 26
        have HT2 := Lib.hid (hN2.there' (vs := (u8s r).toArray) (by rw [List.size_toArray, u8s_length, u8s_length, HRL.out]; rfl))
        have HI2 := Lib.hid (info32' HRL.out)
        have HB2 := Lib.hid (hN2.stored (u8s r) (by rw [u8s_length, u8s_length, HRL.out]; rfl))
        have hM7 := mods_setCells (F := No) (a := ((wr.alloc (.cells #[Value.int .i64 0, Value.int .u8 0, Value.int .u8 0, Value.int .u8 0, Value.int .u8 0, Value.int .u8 0, Value.int .u8 0, Value.int .u8 0, Value.int .u8 0, Value.int .u8 0, Value.int .u8 0, Value.int .u8 0, Value.int .u8 0, Value.int .u8 0, Value.int .u8 0, Value.int .u8 0, Value.int .u8 0, Value.int .u8 0, Value.int .u8 0, Value.int .u8 0, Value.int .u8 0, Value.int .u8 0, Value.int .u8 0, Value.int .u8 0, Value.int .u8 0, Value.int .u8 0, Value.int .u8 0, Value.int .u8 0, Value.int .u8 0, Value.int .u8 0, Value.int .u8 0, Value.int .u8 0, Value.int .u8 0, Value.string { data := #[] }] 45)).setCells wr.heap.size 0 (evV e))) ((wr.alloc (.cells #[Value.int .i64 0, Value.int .u8 0, Value.int .u8 0, Value.int .u8 0, Value.int .u8 0, Value.int .u8 0, Value.int .u8 0, Value.int .u8 0, Value.int .u8 0, Value.int .u8 0, Value.int .u8 0, Value.int .u8 0, Value.int .u8 0, Value.int .u8 0, Value.int .u8 0, Value.int .u8 0, Value.int .u8 0, Value.int .u8 0, Value.int .u8 0, Value.int .u8 0, Value.int .u8 0, Value.int .u8 0, Value.int .u8 0, Value.int .u8 0, Value.int .u8 0, Value.int .u8 0, Value.int .u8 0, Value.int .u8 0, Value.int .u8 0, Value.int .u8 0, Value.int .u8 0, Value.int .u8 0, Value.int .u8 0, Value.string { data := #[] }] 45)).setCells wr.heap.size 0 (evV e)).heap.size (.inr (Nat.le_refl _)) (u8s r) 0 _ ((Mods.refl No ((wr.alloc (.cells #[Value.int .i64 0, Value.int .u8 0, Value.int .u8 0, Value.int .u8 0, Value.int .u8 0, Value.int .u8 0, Value.int .u8 0, Value.int .u8 0, Value.int .u8 0, Value.int .u8 0, Value.int .u8 0, Value.int .u8 0, Value.int .u8 0, Value.int .u8 0, Value.int .u8 0, Value.int .u8 0, Value.int .u8 0, Value.int .u8 0, Value.int .u8 0, Value.int .u8 0, Value.int .u8 0, Value.int .u8 0, Value.int .u8 0, Value.int .u8 0, Value.int .u8 0, Value.int .u8 0, Value.int .u8 0, Value.int .u8 0, Value.int .u8 0, Value.int .u8 0, Value.int .u8 0, Value.int .u8 0, Value.int .u8 0, Value.string { data := #[] }] 45)).setCells wr.heap.size 0 (evV e))).alloc (.cells #[Value.int .u8 0, Value.int .u8 0, Value.int .u8 0, Value.int .u8 0, Value.int .u8 0, Value.int .u8 0, Value.int .u8 0, Value.int .u8 0, Value.int .u8 0, Value.int .u8 0, Value.int .u8 0, Value.int .u8 0, Value.int .u8 0, Value.int .u8 0, Value.int .u8 0, Value.int .u8 0, Value.int .u8 0, Value.int .u8 0, Value.int .u8 0, Value.int .u8 0, Value.int .u8 0, Value.int .u8 0, Value.int .u8 0, Value.int .u8 0, Value.int .u8 0, Value.int .u8 0, Value.int .u8 0, Value.int .u8 0, Value.int .u8 0, Value.int .u8 0, Value.int .u8 0, Value.int .u8 0] 26))
        have HA7 := Lib.hid ((HA.out.mods HM5.out id).mods hM7 id)
        have HE7 := Lib.hid (HE.out.mods hM7 id)
        have HM7 := Lib.hid (HM6.out.no hM7)
        clear hN2 hM7
        clear hlo hhi hr1 hrl hg1 hr hn'
        go_wp2_with (first | ((with_reducible refine wpList_load_mid ?_ 45 (.tmp 17) ?_ g1 (o1 + k * 34) ?_ (evV e) _ G1.out Try.underlying45 rfl HI.out ?_); rfl; rfl; rfl) | ((with_reducible refine wpList_load_mid ?_ 26 (.tmp 30) ?_ B (n * 32) ?_ (u8s r) _ HG.out Try.underlying26 rfl (info32 HRL.out) ?_); rfl; rfl; rfl) | ((with_reducible refine wpList_store_mid ?_ 45 (.tmp 6) (.tmp 18) ?_ wr.heap.size 0 (evV e).toArray ?_ ?_ HT.out HI'.out H1.out ?_); rfl; rfl; rfl; rfl) | ((with_reducible refine wpList_store_mid ?_ 26 (.tmp 7) (.tmp 31) ?_ ((wr.alloc (.cells #[Value.int .i64 0, Value.int .u8 0, Value.int .u8 0, Value.int .u8 0, Value.int .u8 0, Value.int .u8 0, Value.int .u8 0, Value.int .u8 0, Value.int .u8 0, Value.int .u8 0, Value.int .u8 0, Value.int .u8 0, Value.int .u8 0, Value.int .u8 0, Value.int .u8 0, Value.int .u8 0, Value.int .u8 0, Value.int .u8 0, Value.int .u8 0, Value.int .u8 0, Value.int .u8 0, Value.int .u8 0, Value.int .u8 0, Value.int .u8 0, Value.int .u8 0, Value.int .u8 0, Value.int .u8 0, Value.int .u8 0, Value.int .u8 0, Value.int .u8 0, Value.int .u8 0, Value.int .u8 0, Value.int .u8 0, Value.string { data := #[] }] 45)).setCells wr.heap.size 0 (evV e)).heap.size 0 (u8s r).toArray ?_ ?_ HT2.out HI2.out (u8s_one _) ?_); rfl; rfl; rfl; rfl))
        have hA7 := HA7.out
        have hE7 := HE7.out
        have hB7 := HB2.out
        have hM7 := HM7.out
        have hBn := HM.out.size
        clear HA7 HE7 HB2 HM7 HT HI' H1 HE HT2 HI2 HG HA G1 HM5 HM6 ec
        generalize (((wr.alloc (.cells #[Value.int .i64 0, Value.int .u8 0, Value.int .u8 0, Value.int .u8 0, Value.int .u8 0, Value.int .u8 0, Value.int .u8 0, Value.int .u8 0, Value.int .u8 0, Value.int .u8 0, Value.int .u8 0, Value.int .u8 0, Value.int .u8 0, Value.int .u8 0, Value.int .u8 0, Value.int .u8 0, Value.int .u8 0, Value.int .u8 0, Value.int .u8 0, Value.int .u8 0, Value.int .u8 0, Value.int .u8 0, Value.int .u8 0, Value.int .u8 0, Value.int .u8 0, Value.int .u8 0, Value.int .u8 0, Value.int .u8 0, Value.int .u8 0, Value.int .u8 0, Value.int .u8 0, Value.int .u8 0, Value.int .u8 0, Value.string { data := #[] }] 45)).setCells wr.heap.size 0 (evV e)).alloc (.cells #[Value.int .u8 0, Value.int .u8 0, Value.int .u8 0, Value.int .u8 0, Value.int .u8 0, Value.int .u8 0, Value.int .u8 0, Value.int .u8 0, Value.int .u8 0, Value.int .u8 0, Value.int .u8 0, Value.int .u8 0, Value.int .u8 0, Value.int .u8 0, Value.int .u8 0, Value.int .u8 0, Value.int .u8 0, Value.int .u8 0, Value.int .u8 0, Value.int .u8 0, Value.int .u8 0, Value.int .u8 0, Value.int .u8 0, Value.int .u8 0, Value.int .u8 0, Value.int .u8 0, Value.int .u8 0, Value.int .u8 0, Value.int .u8 0, Value.int .u8 0, Value.int .u8 0, Value.int .u8 0] 26)).setCells ((wr.alloc (.cells #[Value.int .i64 0, Value.int .u8 0, Value.int .u8 0, Value.int .u8 0, Value.int .u8 0, Value.int .u8 0, Value.int .u8 0, Value.int .u8 0, Value.int .u8 0, Value.int .u8 0, Value.int .u8 0, Value.int .u8 0, Value.int .u8 0, Value.int .u8 0, Value.int .u8 0, Value.int .u8 0, Value.int .u8 0, Value.int .u8 0, Value.int .u8 0, Value.int .u8 0, Value.int .u8 0, Value.int .u8 0, Value.int .u8 0, Value.int .u8 0, Value.int .u8 0, Value.int .u8 0, Value.int .u8 0, Value.int .u8 0, Value.int .u8 0, Value.int .u8 0, Value.int .u8 0, Value.int .u8 0, Value.int .u8 0, Value.string { data := #[] }] 45)).setCells wr.heap.size 0 (evV e)).heap.size 0 (u8s r) = W8 at hA7 hE7 hB7 hM7 ⊢
        generalize ((wr.alloc (.cells #[Value.int .i64 0, Value.int .u8 0, Value.int .u8 0, Value.int .u8 0, Value.int .u8 0, Value.int .u8 0, Value.int .u8 0, Value.int .u8 0, Value.int .u8 0, Value.int .u8 0, Value.int .u8 0, Value.int .u8 0, Value.int .u8 0, Value.int .u8 0, Value.int .u8 0, Value.int .u8 0, Value.int .u8 0, Value.int .u8 0, Value.int .u8 0, Value.int .u8 0, Value.int .u8 0, Value.int .u8 0, Value.int .u8 0, Value.int .u8 0, Value.int .u8 0, Value.int .u8 0, Value.int .u8 0, Value.int .u8 0, Value.int .u8 0, Value.int .u8 0, Value.int .u8 0, Value.int .u8 0, Value.int .u8 0, Value.string { data := #[] }] 45)).setCells wr.heap.size 0 (evV e)).heap.size = Bd at hB7 ⊢
        generalize wr.heap.size = Be at hE7 hBn ⊢
        have hst : replayL (evs.take (k + 1)) = (replayL (evs.take k)).set n (extL r e.dig) := by
          rw [take_succ_of He.out, replayL_push]
          unfold stepE
          rw [Hn.out, Int.toNat_natCast, show (replayL (evs.take k)).getD n [] = r by simp [List.getD, Hr1.out]]
        have hin : inRegs (evs.take (k + 1)) := by
          intro x hx
          rw [take_succ_of He.out, List.mem_append, List.mem_singleton] at hx
          rcases hx with h | h
          · exact Hh.out x h
          · rw [h, Hn.out]; exact ⟨hlo', hhi'⟩
        have hX : (extL r e.dig).length = 32 := shaL_length _
        have hsz : (strOfNums r ++ strOfNums e.dig).size ≤ 1000000 := by rw [ByteArray.size_append, str_size HRL.out, str_size Hoke.out.dig]; omega
        have hEx : ∀ w, Calls Try.prog 16 #[.string (strOfNums r ++ strOfNums e.dig)] w fun e' w' => e' = .returned (.agg (u8s (extL r e.dig)).toArray) ∧ Mods No w w' := fun w => refSum_any _ hsz w
        have s1 : (strOfNums r).size ≤ 100 := by rw [str_size HRL.out]; omega
        have s2 : (strOfNums e.dig).size ≤ 100 := by rw [str_size Hoke.out.dig]; omega
        obtain ⟨X, hXe⟩ : ∃ X, extL r e.dig = X := ⟨_, rfl⟩
        rw [hXe] at hst hX hEx
        have HX := Lib.hid hX
        have HEx := Lib.hid hEx
        have Hst := Lib.hid hst
        have Hin := Lib.hid hin
        have cE : ∀ y : Ext W8, y.w.cell? ⟨Be, 0, none⟩ = some (.int .i64 n) := fun y => by
          have := ((hE7.ext y) 0 _ rfl).1
          rw [Hn.out] at this
          exact this
        have hcv1 : ∀ x : Ext W8, (convert 23 9 (.slice (some ⟨Bd, 0, none⟩) 32 32)).run Try.prog x.w = .ok (.string (strOfNums r)) x.w := fun x => Arr.str (hB7.ext x) 32 HRL.out 32
        have hcv2 : ∀ x : Ext W8, (convert 23 9 (.slice (some ⟨Be, 1, none⟩) 32 32)).run Try.prog x.w = .ok (.string (strOfNums e.dig)) x.w := fun x => by
          refine run_convert_bytes_arg (P := Try.prog) x.w 23 5 Try.underlying23 Try.underlying5 Be 1 32 32 e.dig Hoke.out.dig (fun i hi => ?_) 9 Try.underlying9
          refine ((hE7.ext x) (1 + i) _ ?_).1
          rw [Nat.add_comm]
          show ((u8s e.dig ++ [Value.string e.text]))[i]? = some _
          rw [List.getElem?_append_left (by rw [u8s_length, Hoke.out.dig]; exact hi)]
          exact u8_at (by rw [Hoke.out.dig]; exact hi)
        clear hXe hst hin hX hEx hsz
        refine wp_region_ext 11 (by kernel_rfl) (by kernel_rfl) ?_
        simp only [List.take_succ_cons, List.take_zero, List.drop_succ_cons, List.drop_zero]
        repeat (first | go_big_quiet_skip | (go_big_quiet_want; first
          | (refine quiet_of_run (.string (strOfNums r)) (fun w ⟨x, h⟩ => h ▸ op_value (convert 23 9 (.slice (some ⟨Bd, 0, none⟩) 32 32)) (by rfl) (hcv1 x)) ?_; go_big_quiet_on; simp only [Act.put, List.setIfInBounds_toArray, List.set_cons_succ, List.set_cons_zero])
          | (refine quiet_of_run (.string (strOfNums e.dig)) (fun w ⟨x, h⟩ => h ▸ op_value (convert 23 9 (.slice (some ⟨Be, 1, none⟩) 32 32)) (by rfl) (hcv2 x)) ?_; go_big_quiet_on; simp only [Act.put, List.setIfInBounds_toArray, List.set_cons_succ, List.set_cons_zero])
          | (go_big_quiet_op; first | go_big_quiet_on | go_big_quiet_call ((go_at_call 16; exact Ext.call _ (HEx.out _))))))
        refine wpQuiet_nil ?_
        intro x
        have hA9 := hA7.mods x.m id
        have hT9 := thereX (hA9.there Hr1.out) HRL.out HX.out
        have hS9 := hA9.store (replayL_ok _) Hr1.out HX.out
        rw [Nat.zero_add] at hT9 hS9
        have HT := Lib.hid hT9
        have HS := Lib.hid hS9
        have HI9 := Lib.hid (info32' HX.out)
        have HM9 := Lib.hid (mods_setCells (F := No) (a := w) B (.inr bB) (u8s X) (n * 32) _ (hM7.no x.m))
        clear hA9 hT9 hS9 hM7 hA7 hE7 hB7 cE hcv1 hcv2 s1 s2
        go_wp2_with ((with_reducible refine wpList_store_mid ?_ 26 (.tmp 42) (.tmp 41) ?_ B (n * 32) (u8s X).toArray ?_ ?_ HT.out HI9.out (u8s_one _) ?_); rfl; rfl; rfl; rfl)
        go_roundw
        case rel => exact ⟨k + 1, by omega, by go_num, by rw [Hst.out]; exact HS.out, HM9.out, Hin.out⟩
        case measure => simp [intOf]; omega
    · obtain rfl : k = evs.length := by omega
      rw [List.take_length] at gA gI
      have H1 := Lib.hid gA
      have H2 := Lib.hid gM
      have H3 := Lib.hid gI
      clear gA gM gI
      go_wp2_with fail
      go_ret2
      exact ⟨fun _ => ⟨B, bB, rfl, H1.out⟩, fun h => absurd H3.out h, H2.out⟩
theorem refReplay_any (v : Value) (evs : List Ev) (hok : ∀ e ∈ evs, Ev.Ok e) (hn : evs.length ≤ 1000) (w : World) (hR : Row w 34 v evs.length (evs.flatMap evV)) :
    Calls Try.prog 30 #[v] w (RpPost evs w) := by
  obtain ⟨A, c, rfl, -, -, -⟩ := hR.shape
  exact refReplay_sl A c evs hok hn w (Row.evSl hR hok)
end Go.Proofs.Ytamdanpkkcdhbaa
