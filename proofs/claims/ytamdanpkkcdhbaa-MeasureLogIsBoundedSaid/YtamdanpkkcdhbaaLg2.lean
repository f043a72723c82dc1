/- The measurement log: New, Register. -/
import Derived.Test.YtamdanpkkcdhbaaLg1
set_option linter.unusedVariables false
set_option linter.unusedSimpArgs false
namespace Go.Proofs.Ytamdanpkkcdhbaa
open Go.RowKit Go.PF

theorem results_cell_tmp {P : Program} {fn : Func} {t u : Nat} {T : TypeId} {a : Array Value} {w : World} {p : Addr} {v x : Value} (h : fn.results = #[.cell t T, .tmp u]) (hp : a.getD t undef = .pointer (some p)) (hx : a.getD u undef = x) (hl : (loadVar T p).run P w = .ok v w) : (results fn a).run P w = .ok (.tuple #[v, x]) w := by
  have e : results fn a = (do let y ← (do loadVar T (← asAddr (a.getD t undef))); pure (.tuple #[y, a.getD u undef])) := by
    unfold results
    rw [h]
    simp
  rw [e, hp, hx]
  have e2 : (do loadVar T (← asAddr (.pointer (some p)))) = loadVar T p := rfl
  rw [e2, Sem.run_bind, hl]
  rfl
/-- a digest and an int are handed back -/
theorem ret_digest2 {fn : Func} {t u : Nat} {a : Array Value} {w : World} {B : Nat} {x : Value} {L L0 : List Int} (h0 : Arr w B (u8s L0)) (hl0 : L0.length = 32) (hl : L.length = 32) (hf : fn.results = #[.cell t 26, .tmp u]) (ha : a.getD t undef = .pointer (some ⟨B, 0, none⟩)) (hx : a.getD u undef = x) :
    (results fn a).run Try.prog (w.setCells B 0 (u8s L)) = .ok (.tuple #[.agg (u8s L).toArray, x]) (w.setCells B 0 (u8s L)) := by
  have hst := h0.stored (u8s L) (by rw [u8s_length, u8s_length, hl, hl0])
  exact results_cell_tmp hf ha hx (run_loadVar_mid (P := Try.prog) (w.setCells B 0 (u8s L)) B 0 26 (u8s L) _ hst.range Try.underlying26 rfl (info32 hl))

def isReg (k : Int) : Bool := decide (0 ≤ k ∧ k < 8)
theorem isRegister_any (k : Int) (w : World) : Calls Try.prog 42 #[.int .i64 k] w fun e w' => e = .returned (.bool (isReg k)) ∧ w = w' := by
  by_cases h0 : 0 ≤ k
  · by_cases h8 : k < 8
    · have e : isReg k = true := by unfold isReg; simp; omega
      rw [e]
      clear e
      go_enter Try.func42, Try.ntmps42
      go_wp2
      go_ret
      exact ⟨rfl, rfl⟩
    · have e : isReg k = false := by unfold isReg; simp; omega
      rw [e]
      clear e
      go_enter Try.func42, Try.ntmps42
      go_wp2
      go_ret
      exact ⟨rfl, rfl⟩
  · have e : isReg k = false := by unfold isReg; simp; omega
    rw [e]
    clear e
    go_enter Try.func42, Try.ntmps42
    go_wp2
    go_ret
    exact ⟨rfl, rfl⟩

set_option maxRecDepth 100000 in
theorem new_any (w : World) : Calls Try.prog 20 #[] w fun e w' => e = .returned (.pointer (some ⟨w.heap.size, 0, none⟩)) ∧ LogAt w' w.heap.size (.slice none 0 0) zeroRegs [] ∧ Mods No w w' := by
  go_enter Try.func20, Try.ntmps20
  go_wp2
  go_ret
  refine ⟨rfl, ?_, (Mods.refl _ _).alloc _⟩
  have h : Arr (w.alloc (.cells ((Value.slice none 0 0) :: regV zeroRegs).toArray 71)) w.heap.size (Value.slice none 0 0 :: regV zeroRegs) := Arr.new _ _ _
  have h0 := h 0 _ rfl
  exact ⟨zeroRegs_ok, fun e he => (by cases he), h0.1, h0.2, RegsAt.of (cs := [Value.slice none 0 0]) zeroRegs_ok h, Row.nil _ _, by simp [Value.ownBlock], fun q hq => by simp [Value.ownBlock] at hq⟩

def regRes (regs : List (List Int)) (k : Int) : List Int × Int := if 0 ≤ k ∧ k < 8 then (regs.getD k.toNat [], 0) else (z32, 1)

set_option maxHeartbeats 1000000 in
set_option maxRecDepth 100000 in
theorem register_any (b : Nat) (v : Value) (regs : List (List Int)) (evs : List Ev) (k : Int) (w : World) (hL : LogAt w b v regs evs) :
    Calls Try.prog 22 #[.pointer (some ⟨b, 0, none⟩), .int .i64 k] w fun e w' => e = .returned (.tuple #[.agg (u8s (regRes regs k).1).toArray, .int .i64 (regRes regs k).2]) ∧ Mods No w w' := by
  by_cases hk : 0 ≤ k ∧ k < 8
  · obtain ⟨n, rfl⟩ : ∃ n : Nat, k = n := ⟨k.toNat, by omega⟩
    obtain ⟨r, hr, hrl⟩ := hL.ok.at (k := n) (by omega)
    have hres : regRes regs n = (r, 0) := by unfold regRes; rw [if_pos hk]; simp [List.getD, hr]
    rw [hres]
    have hre : isReg n = true := by unfold isReg; simp; omega
    have hn8 : (n : Int) < 8 := hk.2
    have HL := Lib.hid hL
    have HR := Lib.hid hr
    have HRL := Lib.hid hrl
    clear hres hk hL hr hrl
    go_enter Try.func22, Try.ntmps22
    have hN : Arr (w.alloc (.cells #[Value.int .u8 0, Value.int .u8 0, Value.int .u8 0, Value.int .u8 0, Value.int .u8 0, Value.int .u8 0, Value.int .u8 0, Value.int .u8 0, Value.int .u8 0, Value.int .u8 0, Value.int .u8 0, Value.int .u8 0, Value.int .u8 0, Value.int .u8 0, Value.int .u8 0, Value.int .u8 0, Value.int .u8 0, Value.int .u8 0, Value.int .u8 0, Value.int .u8 0, Value.int .u8 0, Value.int .u8 0, Value.int .u8 0, Value.int .u8 0, Value.int .u8 0, Value.int .u8 0, Value.int .u8 0, Value.int .u8 0, Value.int .u8 0, Value.int .u8 0, Value.int .u8 0, Value.int .u8 0] 26)) w.heap.size (u8s z32) := Arr.new w (u8s z32) 26
    have HG := Lib.hid ((HL.out.no ((Mods.refl No w).alloc (.cells #[Value.int .u8 0, Value.int .u8 0, Value.int .u8 0, Value.int .u8 0, Value.int .u8 0, Value.int .u8 0, Value.int .u8 0, Value.int .u8 0, Value.int .u8 0, Value.int .u8 0, Value.int .u8 0, Value.int .u8 0, Value.int .u8 0, Value.int .u8 0, Value.int .u8 0, Value.int .u8 0, Value.int .u8 0, Value.int .u8 0, Value.int .u8 0, Value.int .u8 0, Value.int .u8 0, Value.int .u8 0, Value.int .u8 0, Value.int .u8 0, Value.int .u8 0, Value.int .u8 0, Value.int .u8 0, Value.int .u8 0, Value.int .u8 0, Value.int .u8 0, Value.int .u8 0, Value.int .u8 0] 26))).rg.range HR.out)
    have HI := Lib.hid (info32 HRL.out)
    have HI' := Lib.hid (info32' HRL.out)
    have HT := Lib.hid (hN.there' (vs := (u8s r).toArray) (by rw [List.size_toArray, u8s_length, u8s_length, HRL.out]; rfl))
    have HN := Lib.hid hN
    clear hN
    go_wp2_with (first | (go_at_call 42; refine (isRegister_any _ _).mono ?_; rintro e w' ⟨rfl, rfl⟩) | ((with_reducible refine wpList_load_mid ?_ 26 (.tmp 14) ?_ b (1 + n * 32) ?_ (u8s r) _ HG.out Try.underlying26 rfl HI.out ?_); rfl; rfl; rfl) | ((with_reducible refine wpList_store_mid ?_ 26 (.tmp 4) (.tmp 15) ?_ w.heap.size 0 (u8s r).toArray ?_ ?_ HT.out HI'.out (u8s_one _) ?_); rfl; rfl; rfl; rfl))
    exact bodyPost_ret (ret_digest2 HN.out rfl HRL.out Try.results22 rfl rfl) rfl ⟨rfl, mods_setCells (F := No) (a := w) w.heap.size (.inr (Nat.le_refl _)) _ 0 _ ((Mods.refl _ _).alloc _)⟩
  · have hres : regRes regs k = (z32, 1) := by unfold regRes; rw [if_neg hk]
    rw [hres]
    have hre : isReg k = false := by unfold isReg; simp only [decide_eq_false_iff_not]; exact hk
    clear hres hk hL
    have hN : Arr (w.alloc (.cells #[Value.int .u8 0, Value.int .u8 0, Value.int .u8 0, Value.int .u8 0, Value.int .u8 0, Value.int .u8 0, Value.int .u8 0, Value.int .u8 0, Value.int .u8 0, Value.int .u8 0, Value.int .u8 0, Value.int .u8 0, Value.int .u8 0, Value.int .u8 0, Value.int .u8 0, Value.int .u8 0, Value.int .u8 0, Value.int .u8 0, Value.int .u8 0, Value.int .u8 0, Value.int .u8 0, Value.int .u8 0, Value.int .u8 0, Value.int .u8 0, Value.int .u8 0, Value.int .u8 0, Value.int .u8 0, Value.int .u8 0, Value.int .u8 0, Value.int .u8 0, Value.int .u8 0, Value.int .u8 0] 26)) w.heap.size (u8s z32) := Arr.new w (u8s z32) 26
    have HT := Lib.hid (hN.there' (vs := (u8s z32).toArray) (by rw [List.size_toArray]))
    have HI' := Lib.hid (info32' z32_length)
    have HN := Lib.hid hN
    clear hN
    go_enter Try.func22, Try.ntmps22
    go_wp2_with (first | (go_at_call 42; refine (isRegister_any _ _).mono ?_; rintro e w' ⟨rfl, rfl⟩) | ((with_reducible refine wpList_store_mid ?_ 26 (.tmp 4) (.tmp 9) ?_ w.heap.size 0 (u8s z32).toArray ?_ ?_ HT.out HI'.out (u8s_one _) ?_); rfl; rfl; rfl; rfl))
    exact bodyPost_ret (ret_digest2 HN.out rfl z32_length Try.results22 rfl rfl) rfl ⟨rfl, mods_setCells (F := No) (a := w) w.heap.size (.inr (Nat.le_refl _)) _ 0 _ ((Mods.refl _ _).alloc _)⟩
end Go.Proofs.Ytamdanpkkcdhbaa
