/- The reference's Register. -/
import Derived.Test.YtamdanpkkcdhbaaRp3
set_option linter.unusedVariables false
set_option linter.unusedSimpArgs false
namespace Go.Proofs.Ytamdanpkkcdhbaa
open Go.RowKit Go.PF

set_option maxHeartbeats 2000000 in
set_option maxRecDepth 100000 in
theorem refRegister_any (b : Nat) (v : Value) (evs : List Ev) (hin : inRegs evs) (hn : evs.length ≤ 1000) (k : Int) (w : World) (hL : RefAt w b v evs) :
    Calls Try.prog 23 #[.pointer (some ⟨b, 0, none⟩), .int .i64 k] w fun e w' => e = .returned (.tuple #[.agg (u8s (regRes (replayL evs) k).1).toArray, .int .i64 (regRes (replayL evs) k).2]) ∧ Mods No w w' := by
  by_cases hk : 0 ≤ k ∧ k < 8
  · obtain ⟨n, rfl⟩ : ∃ n : Nat, k = n := ⟨k.toNat, by omega⟩
    obtain ⟨r, hr, hrl⟩ := (replayL_ok evs).at (k := n) (by omega)
    have hres : regRes (replayL evs) n = (r, 0) := by unfold regRes; rw [if_pos hk]; simp [List.getD, hr]
    rw [hres]
    have hk0 : 0 ≤ (n : Int) := hk.1
    have hk8 : (n : Int) < 8 := hk.2
    have HL := Lib.hid hL
    have HR := Lib.hid hr
    have HRL := Lib.hid hrl
    have Hin := Lib.hid hin
    have hN : Arr (w.alloc (.cells #[Value.int .u8 0, Value.int .u8 0, Value.int .u8 0, Value.int .u8 0, Value.int .u8 0, Value.int .u8 0, Value.int .u8 0, Value.int .u8 0, Value.int .u8 0, Value.int .u8 0, Value.int .u8 0, Value.int .u8 0, Value.int .u8 0, Value.int .u8 0, Value.int .u8 0, Value.int .u8 0, Value.int .u8 0, Value.int .u8 0, Value.int .u8 0, Value.int .u8 0, Value.int .u8 0, Value.int .u8 0, Value.int .u8 0, Value.int .u8 0, Value.int .u8 0, Value.int .u8 0, Value.int .u8 0, Value.int .u8 0, Value.int .u8 0, Value.int .u8 0, Value.int .u8 0, Value.int .u8 0] 26)) w.heap.size (u8s z32) := Arr.new w (u8s z32) 26
    have hL2 := hL.no ((Mods.refl No w).alloc (.cells #[Value.int .u8 0, Value.int .u8 0, Value.int .u8 0, Value.int .u8 0, Value.int .u8 0, Value.int .u8 0, Value.int .u8 0, Value.int .u8 0, Value.int .u8 0, Value.int .u8 0, Value.int .u8 0, Value.int .u8 0, Value.int .u8 0, Value.int .u8 0, Value.int .u8 0, Value.int .u8 0, Value.int .u8 0, Value.int .u8 0, Value.int .u8 0, Value.int .u8 0, Value.int .u8 0, Value.int .u8 0, Value.int .u8 0, Value.int .u8 0, Value.int .u8 0, Value.int .u8 0, Value.int .u8 0, Value.int .u8 0, Value.int .u8 0, Value.int .u8 0, Value.int .u8 0, Value.int .u8 0] 26))
    have hM2 : Mods No w (w.alloc (.cells #[Value.int .u8 0, Value.int .u8 0, Value.int .u8 0, Value.int .u8 0, Value.int .u8 0, Value.int .u8 0, Value.int .u8 0, Value.int .u8 0, Value.int .u8 0, Value.int .u8 0, Value.int .u8 0, Value.int .u8 0, Value.int .u8 0, Value.int .u8 0, Value.int .u8 0, Value.int .u8 0, Value.int .u8 0, Value.int .u8 0, Value.int .u8 0, Value.int .u8 0, Value.int .u8 0, Value.int .u8 0, Value.int .u8 0, Value.int .u8 0, Value.int .u8 0, Value.int .u8 0, Value.int .u8 0, Value.int .u8 0, Value.int .u8 0, Value.int .u8 0, Value.int .u8 0, Value.int .u8 0] 26)) := (Mods.refl No w).alloc _
    have hc := hL2.cell
    obtain ⟨A, c, hv, -, -, -⟩ := hL.row.shape
    subst hv
    clear hres hk hL hr hrl hin
    go_enter Try.func23, Try.ntmps23
    go_wp2_with fail
    refine (refReplay_any _ evs hL2.good hn _ hL2.row).mono ?_
    rintro e w1 ⟨h1, -, m1⟩
    obtain ⟨B, hB, rfl, hA⟩ := h1 Hin.out
    have hN1 := hN.mods m1 id
    have hg := hA.range HR.out
    rw [Nat.zero_add] at hg
    have HG := Lib.hid hg
    have HI := Lib.hid (info32 HRL.out)
    have HI' := Lib.hid (info32' HRL.out)
    have HT := Lib.hid (hN1.there' (vs := (u8s r).toArray) (by rw [List.size_toArray, u8s_length, u8s_length, HRL.out]; rfl))
    have HN := Lib.hid hN1
    have HM := Lib.hid (mods_setCells (F := No) (a := w) w.heap.size (.inr (Nat.le_refl _)) (u8s r) 0 _ (hM2.no m1))
    clear hN hN1 hL2 hM2 hc hg hA m1 h1
    go_wp2_with (first | ((with_reducible refine wpList_load_mid ?_ 26 (.tmp 25) ?_ B (n * 32) ?_ (u8s r) _ HG.out Try.underlying26 rfl HI.out ?_); rfl; rfl; rfl) | ((with_reducible refine wpList_store_mid ?_ 26 (.tmp 4) (.tmp 26) ?_ w.heap.size 0 (u8s r).toArray ?_ ?_ HT.out HI'.out (u8s_one _) ?_); rfl; rfl; rfl; rfl))
    exact bodyPost_ret (ret_digest2 HN.out rfl HRL.out Try.results23 rfl rfl) rfl ⟨rfl, HM.out⟩
  · have hres : regRes (replayL evs) k = (z32, 1) := by unfold regRes; rw [if_neg hk]
    rw [hres]
    have hN : Arr (w.alloc (.cells #[Value.int .u8 0, Value.int .u8 0, Value.int .u8 0, Value.int .u8 0, Value.int .u8 0, Value.int .u8 0, Value.int .u8 0, Value.int .u8 0, Value.int .u8 0, Value.int .u8 0, Value.int .u8 0, Value.int .u8 0, Value.int .u8 0, Value.int .u8 0, Value.int .u8 0, Value.int .u8 0, Value.int .u8 0, Value.int .u8 0, Value.int .u8 0, Value.int .u8 0, Value.int .u8 0, Value.int .u8 0, Value.int .u8 0, Value.int .u8 0, Value.int .u8 0, Value.int .u8 0, Value.int .u8 0, Value.int .u8 0, Value.int .u8 0, Value.int .u8 0, Value.int .u8 0, Value.int .u8 0] 26)) w.heap.size (u8s z32) := Arr.new w (u8s z32) 26
    have HT := Lib.hid (hN.there' (vs := (u8s z32).toArray) (by rw [List.size_toArray]))
    have HI' := Lib.hid (info32' z32_length)
    have HN := Lib.hid hN
    clear hN hres hL hin
    by_cases h0 : k < 0
    · clear hk
      go_enter Try.func23, Try.ntmps23
      go_wp2_with ((with_reducible refine wpList_store_mid ?_ 26 (.tmp 4) (.tmp 14) ?_ w.heap.size 0 (u8s z32).toArray ?_ ?_ HT.out HI'.out (u8s_one _) ?_); rfl; rfl; rfl; rfl)
      exact bodyPost_ret (ret_digest2 HN.out rfl z32_length Try.results23 rfl rfl) rfl ⟨rfl, mods_setCells (F := No) (a := w) w.heap.size (.inr (Nat.le_refl _)) _ 0 _ ((Mods.refl _ _).alloc _)⟩
    · have h8 : 8 ≤ k := by omega
      have h0' : 0 ≤ k := by omega
      clear hk h0
      go_enter Try.func23, Try.ntmps23
      go_wp2_with ((with_reducible refine wpList_store_mid ?_ 26 (.tmp 4) (.tmp 14) ?_ w.heap.size 0 (u8s z32).toArray ?_ ?_ HT.out HI'.out (u8s_one _) ?_); rfl; rfl; rfl; rfl)
      exact bodyPost_ret (ret_digest2 HN.out rfl z32_length Try.results23 rfl rfl) rfl ⟨rfl, mods_setCells (F := No) (a := w) w.heap.size (.inr (Nat.le_refl _)) _ 0 _ ((Mods.refl _ _).alloc _)⟩
end Go.Proofs.Ytamdanpkkcdhbaa
