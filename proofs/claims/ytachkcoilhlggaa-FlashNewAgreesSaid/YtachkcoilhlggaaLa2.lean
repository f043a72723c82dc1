/- The walks over the statements' helpers of chapter 40: shape, at, data, within. -/
import Derived.Test.YtachkcoilhlggaaLa1
import Derived.Deep.RegionWith
import Derived.StillTailTactics
set_option linter.unusedVariables false
set_option linter.unusedSimpArgs false
namespace Go.Proofs.Ytachkcoilhlggaa
open Go.RowKit Go.PF

structure CallD where
  kind : Int
  block : Int
  page : Int
  data : Int
  torn : Int
  and : Bool
  raw : Bool
structure CallD.WF (c : CallD) : Prop where
  d : 0 ≤ c.data ∧ c.data < 18446744073709551616
  t : 0 ≤ c.torn ∧ c.torn < 18446744073709551616

def atB (c : CallD) (B : Nat) : Int := if c.raw then c.block else modU c.block B
def atP (c : CallD) (P : Nat) : Int := if c.raw then c.page else modU c.page P

theorem at_call (c : CallD) (B P : Nat) (en : Int) (w : World) (hB : 0 < B ∧ B < 1000) (hP : 0 < P ∧ P < 1000) :
    Calls Try.prog 14 #[.agg #[.int .i64 c.kind, .int .i64 c.block, .int .i64 c.page, .int .u64 c.data, .int .u64 c.torn, .bool c.and, .bool c.raw], .agg #[.int .i64 B, .int .i64 P, .int .i64 en]] w fun e w' => e = .returned (.tuple #[.int .i64 (atB c B), .int .i64 (atP c P)]) ∧ Mods No w w' := by
  obtain ⟨k, x, y, d, t, an, r⟩ := c
  cases r
  · show Calls _ _ _ _ fun e w' => e = .returned (.tuple #[.int .i64 (modU x B), .int .i64 (modU y P)]) ∧ Mods No w w'
    go_enter Try.func14, Try.ntmps14
    go_wp2_with fail
    go_quiet ((go_at_call 15; exact Calls.quiet_of_same (mod_any _ _ _ (by omega) (by omega))))
    go_wp2
    go_ret2
    exact ⟨rfl, (((Mods.refl _ _).alloc _).alloc _).drewN _⟩
  · go_enter Try.func14, Try.ntmps14
    go_wp2_with fail
    go_quiet (fail)
    go_wp2
    go_ret2
    exact ⟨rfl, (((Mods.refl _ _).alloc _).alloc _).drewN _⟩

theorem shape_any (a b c : Int) (w : World) :
    Calls Try.prog 10 #[.agg #[.int .i64 a, .int .i64 b, .int .i64 c]] w fun e w' => e = .returned (.agg #[.int .i64 (1 + modU a 3), .int .i64 (1 + modU b 3), .int .i64 (modU c 6)]) ∧ Mods No w w' := by
  have h1 := modU_range a (n := 3) (by omega)
  have h2 := modU_range b (n := 3) (by omega)
  have h3 := modU_range c (n := 6) (by omega)
  obtain ⟨h10, h11⟩ := h1
  obtain ⟨h20, h21⟩ := h2
  clear h3
  go_enter Try.func10, Try.ntmps10
  go_wp2_with fail
  generalize hW : (w.alloc (Obj.cells #[Value.int IntKind.i64 a, Value.int IntKind.i64 b, Value.int IntKind.i64 c] 23)).alloc (Obj.cells #[Value.int IntKind.i64 0, Value.int IntKind.i64 0, Value.int IntKind.i64 0] 23) = W
  have hM : Mods No w W := by rw [← hW]; exact ((Mods.refl _ _).alloc _).alloc _
  have hS : W.heap[w.heap.size]? = some (Obj.cells #[Value.int IntKind.i64 a, Value.int IntKind.i64 b, Value.int IntKind.i64 c] 23 (0, 0)) := by
    rw [← hW]; exact heap_old (heap_alloc_new w _) _
  have hR : W.heap[w.heap.size + 1]? = some (Obj.cells #[Value.int IntKind.i64 0, Value.int IntKind.i64 0, Value.int IntKind.i64 0] 23 (0, 0)) := by
    rw [← hW]
    have := heap_alloc_new (w.alloc (Obj.cells #[Value.int IntKind.i64 a, Value.int IntKind.i64 b, Value.int IntKind.i64 c] 23)) (Obj.cells #[Value.int IntKind.i64 0, Value.int IntKind.i64 0, Value.int IntKind.i64 0] 23)
    simpa using this
  clear hW
  have s0 : W.cell? ⟨w.heap.size, 0, none⟩ = some (.int .i64 a) := heap_cell hS 0
  have s1 : W.cell? ⟨w.heap.size, 1, none⟩ = some (.int .i64 b) := heap_cell hS 1
  have s2 : W.cell? ⟨w.heap.size, 2, none⟩ = some (.int .i64 c) := heap_cell hS 2
  have r0 : W.cell? ⟨w.heap.size + 1, 0, none⟩ = some (.int .i64 0) := heap_cell hR 0
  have r1 : W.cell? ⟨w.heap.size + 1, 1, none⟩ = some (.int .i64 0) := heap_cell hR 1
  have r2 : W.cell? ⟨w.heap.size + 1, 2, none⟩ = some (.int .i64 0) := heap_cell hR 2
  have rf : ∀ i, W.frozen? ⟨w.heap.size + 1, i, none⟩ = false := fun i => heap_free hR i
  clear hS hR
  refine wp_region_still_tail 12 (by kernel_rfl) (by kernel_rfl) ?_
  change wpStill _ _ W.drew _ _ _
  simp only [List.take_succ_cons, List.take_zero, List.drop_succ_cons, List.drop_zero]
  repeat still_step
  still_call (mod_any _ _ _ (by decide) (by decide))
  repeat still_step
  still_call (mod_any _ _ _ (by decide) (by decide))
  repeat still_step
  still_call (mod_any _ _ _ (by decide) (by decide))
  repeat still_step
  refine wpStill_nil ?_
  go_wp2
  refine bodyPost_ret (v := .agg #[.int .i64 (1 + modU a 3), .int .i64 (1 + modU b 3), .int .i64 (modU c 6)]) (by simp [results, Try.results10, go_sem, r0, r1, r2]) rfl ⟨rfl, ?_⟩
  exact (((hM.drew.setCell (.inr (Nat.le_succ _)) _).setCell (.inr (Nat.le_succ _)) _).setCell (.inr (Nat.le_succ _)) _)

def upTo (f : Nat → Int) (k j : Nat) : Int := if j < k then f j else 0
theorem upTo_self (f : Nat → Int) (k : Nat) : upTo f k k = 0 := if_neg (Nat.lt_irrefl _)
theorem upTo_zero (f : Nat → Int) (j : Nat) : (0 : Int) = upTo f 0 j := (if_neg (Nat.not_lt_zero _)).symm
theorem upTo_lt (f : Nat → Int) {k j : Nat} (h : j < k) : upTo f k j = f j := if_pos h
theorem upTo_step (f : Nat → Int) (k j : Nat) : (if j = k then f k else upTo f k j) = upTo f (k + 1) j := by
  unfold upTo
  by_cases e : j = k
  · rw [if_pos e, if_pos (by omega), e]
  · rw [if_neg e]
    by_cases g : j < k
    · rw [if_pos g, if_pos (by omega)]
    · rw [if_neg g, if_neg (by omega)]
theorem Bytes.step {w : World} {B n k : Nat} {f : Nat → Int} (h : Bytes w B n (upTo f k)) (hk : k < n) {v : Int} (hv : v = f k) : Bytes (w.setCell ⟨B, k, none⟩ (.int .u8 v)) B n (upTo f (k + 1)) := by
  subst hv
  exact (h.set hk (f k)).congr (fun j _ => upTo_step f k j)

def dByte (c : CallD) (was : ByteArray) (i : Nat) : Int :=
  if c.and = true ∧ i < was.size then Go.bits .and .u8 (c.data / 2 ^ (8 * ((i + i / 8) % 8)) % 256) ((was.data.toList.getD i 0).toNat : Int) else c.data / 2 ^ (8 * ((i + i / 8) % 8)) % 256
def dataS (c : CallD) (was : ByteArray) : ByteArray := strOfNums ((List.range 64).map (dByte c was))

theorem Bytes.step2 {w : World} {B n k : Nat} {f : Nat → Int} (h : Bytes w B n (upTo f k)) (hk : k < n) (u : Int) {v : Int} (hv : v = f k) : Bytes ((w.setCell ⟨B, k, none⟩ (.int .u8 u)).setCell ⟨B, k, none⟩ (.int .u8 v)) B n (upTo f (k + 1)) := by
  subst hv
  refine ((h.set hk u).set hk (f k)).congr (fun j _ => ?_)
  rw [← upTo_step]
  by_cases e : j = k
  · rw [if_pos e, if_pos e]
  · rw [if_neg e, if_neg e, if_neg e]

theorem data_any (c : CallD) (was : ByteArray) (w : World) (hc : c.WF) (hs : was.size ≤ 1048576) :
    Calls Try.prog 18 #[.agg #[.int .i64 c.kind, .int .i64 c.block, .int .i64 c.page, .int .u64 c.data, .int .u64 c.torn, .bool c.and, .bool c.raw], .string was] w fun e w' => e = .returned (.string (dataS c was)) ∧ Mods No w w' := by
  have hmk := run_make_row' (P := Try.prog) 71 5 (.int .u8 0) 1 Try.underlying71 infoByte rfl .i64 .i64 64 (by omega) (by omega)
  have hmk2 : ∀ W : World, (Instr.makeSlice 71 (.int .i64 64) (.int .i64 64)).run Try.prog W = .ok (.slice (some ⟨W.heap.size, 0, none⟩) 64 64) (W.alloc (.cells (madeCells #[.int .u8 0] 64) 5)) := hmk
  clear hmk
  obtain ⟨hd0, hd1⟩ := hc.d
  clear hc
  obtain ⟨ki, x, y, d, t, an, r⟩ := c
  simp only at hd0 hd1
  obtain ⟨f, hf⟩ : ∃ f, dByte ⟨ki, x, y, d, t, an, r⟩ was = f := ⟨_, rfl⟩
  have hds : dataS ⟨ki, x, y, d, t, an, r⟩ was = strOfNums ((List.range 64).map f) := by rw [dataS, hf]
  rw [hds]
  have HF : Hid (dByte ⟨ki, x, y, d, t, an, r⟩ was = f) := hf
  clear hf hds
  go_enter Try.func18, Try.ntmps18
  go_wp2
  have hb0 := Bytes.made (w.alloc (.cells #[.int .i64 ki, .int .i64 x, .int .i64 y, .int .u64 d, .int .u64 t, .bool an, .bool r] 39)) 5 64
  have hst := heap_alloc_new w (.cells #[.int .i64 ki, .int .i64 x, .int .i64 y, .int .u64 d, .int .u64 t, .bool an, .bool r] 39)
  rw [World.size_alloc] at hb0
  go_loopw [6] (fun q wr => ∃ k : Nat, k ≤ 64 ∧ q = .int .i64 k ∧ Bytes wr (w.heap.size + 1) 64 (upTo f k) ∧ wr.heap[w.heap.size]? = some (.cells #[.int .i64 ki, .int .i64 x, .int .i64 y, .int .u64 d, .int .u64 t, .bool an, .bool r] 39 (0, 0)) ∧ Mods No w wr) (fun q _ => 64 - (intOf q).toNat)
  case atStart => exact ⟨0, by omega, rfl, hb0.congr (fun j _ => upTo_zero _ j), heap_old hst _, ((Mods.refl _ _).alloc _).alloc _⟩
  case round =>
    obtain ⟨k, hk, rfl, hB, hS, hM⟩ := hrel
    clear hb0 hst
    by_cases hlt : k < 64
    · obtain ⟨c0, f0⟩ := hB k hlt
      rw [upTo_self] at c0
      have s3 : wr.cell? ⟨w.heap.size, 3, none⟩ = some (.int .u64 d) := heap_cell hS 3
      have s5 : wr.cell? ⟨w.heap.size, 5, none⟩ = some (.bool an) := heap_cell hS 5
      have hne : w.heap.size ≠ w.heap.size + 1 := by omega
      cases an
      · have HV : Hid (d / 2 ^ (8 * ((k + k / 8) % 8)) % 256 = f k) := by show _ = _; rw [← HF.out, dByte, if_neg (fun h => by cases h.1)]
        go_wp2
        go_roundw
        case rel => exact ⟨k + 1, by omega, by go_num, Bytes.step hB hlt HV.out, heap_far hS hne _, hM.setCell (.inr (Nat.le_succ _)) _⟩
        case measure => simp [intOf]; omega
      · by_cases hw : k < was.size
        · have hw2 : (k : Int) < was.size := by omega
          have HV : Hid (∀ h, Go.bits .and .u8 (d / 2 ^ (8 * ((k + k / 8) % 8)) % 256) (((was[k]'h).toNat : Nat) : Int) = f k) := fun h => by
            rw [← HF.out, dByte, if_pos ⟨rfl, hw⟩]
            have h' : k < was.data.toList.length := by simpa using h
            simp only [List.getD, List.getElem?_eq_getElem h', Option.getD_some]
            rfl
          go_wp2
          go_region
          go_wp2
          go_roundw
          case rel => exact ⟨k + 1, by omega, by go_num, Bytes.step2 hB hlt _ (HV.out hw), heap_far (heap_far hS hne _) hne _, ((hM.setCell (.inr (Nat.le_succ _)) _).setCell (.inr (Nat.le_succ _)) _).drew⟩
          case measure => simp [intOf]; omega
        · have hw2 : ¬ (k : Int) < was.size := by omega
          have HV : Hid (d / 2 ^ (8 * ((k + k / 8) % 8)) % 256 = f k) := by show _ = _; rw [← HF.out, dByte, if_neg (fun h => hw h.2)]
          go_wp2
          go_roundw
          case rel => exact ⟨k + 1, by omega, by go_num, Bytes.step hB hlt HV.out, heap_far hS hne _, hM.setCell (.inr (Nat.le_succ _)) _⟩
          case measure => simp [intOf]; omega
    · obtain rfl : k = 64 := by omega
      have hcv := (hB.congr (g := f) (fun j hj => upTo_lt f hj)).str (P := Try.prog) 64 71 5 9 Try.underlying71 Try.underlying5 Try.underlying9
      clear hB hS
      go_wp2
      go_ret
      exact ⟨rfl, hM⟩
end Go.Proofs.Ytachkcoilhlggaa
