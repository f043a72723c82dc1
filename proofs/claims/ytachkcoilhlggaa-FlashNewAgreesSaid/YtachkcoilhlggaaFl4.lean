/- The walk over flash.New. -/
import Derived.Test.YtachkcoilhlggaaFl3
import Derived.Test.YtachkcoilhlggaaRep
set_option linter.unusedVariables false
set_option linter.unusedSimpArgs false
namespace Go.Proofs.Ytachkcoilhlggaa
open Go.RowKit Go.PF

theorem infoInt : (Try.prog.info? 3).map (fun i => (i.zero, i.size, i.bytes)) = some (some (.int .i64 0), 1, 8) := by kernel_rfl

def okShape (nb np en : Int) : Prop := 1 ≤ nb ∧ nb ≤ 32 ∧ 1 ≤ np ∧ np ≤ 32 ∧ 0 ≤ en ∧ en ≤ 1048576

def newFlash (nb np en : Int) : FlashS := ⟨nb, np, en, List.replicate (nb * np).toNat ff64, List.replicate nb.toNat 0, false, false, 0, 0⟩

theorem newFlash_wf {nb np en : Int} (h : okShape nb np en) : (newFlash nb np en).WF := by
  obtain ⟨h1, h2, h3, h4, h5, h6⟩ := h
  have hp : 0 ≤ nb * np := Int.mul_nonneg (by omega) (by omega)
  refine ⟨h1, h2, h3, h4, h5, h6, by simp [newFlash]; omega, by simp [newFlash]; omega, ?_, ?_, ⟨Int.le_refl _, by show (0 : Int) < _; decide⟩, ⟨Int.le_refl _, by show (0 : Int) < _; decide⟩⟩
  · intro x hx
    rw [(List.mem_replicate.1 hx).2]
    exact ff64_size
  · intro x hx
    rw [(List.mem_replicate.1 hx).2]
    exact ⟨Int.le_refl _, h5⟩

theorem new_bad (nb np en : Int) (w : World) (h : ¬ okShape nb np en) :
    Calls Try.prog 8 #[.agg #[.int .i64 nb, .int .i64 np, .int .i64 en]] w fun e w' => e = .returned (.tuple #[.pointer none, .int .i64 1]) ∧ Mods No w w' := by
  unfold okShape at h
  go_enter Try.func8, Try.ntmps8
  go_wp2_with fail
  all_goals first
    | (go_ret2; exact ⟨rfl, (Mods.refl _ _).alloc _⟩)
    | (exfalso; omega)

set_option maxHeartbeats 2000000 in
theorem new_ok (B P : Nat) (en : Int) (w : World) (h : okShape B P en) :
    Calls Try.prog 8 #[.agg #[.int .i64 B, .int .i64 P, .int .i64 en]] w fun e w' => ∃ b gp cp ge ce, e = .returned (.tuple #[.pointer (some ⟨b, 0, none⟩), .int .i64 0]) ∧ FlashAt w' b gp cp ge ce (newFlash B P en) ∧ Mods No w w' ∧ w.heap.size ≤ b ∧ w.heap.size ≤ gp ∧ w.heap.size ≤ ge := by
  obtain ⟨h1, h2, h3, h4, h5, h6⟩ := h
  have hmk := run_make_row' (P := Try.prog) 56 3 (.int .i64 0) 8 Try.underlying56 infoInt rfl .i64 .i64 B (by omega) (by omega)
  go_enter Try.func8, Try.ntmps8
  go_wp2_with fail
  go_region
  go_wp2
  have hz0 : (0 : Int) ≤ (B : Int) * P := Int.mul_nonneg (by omega) (by omega)
  have hz1 : (B : Int) * P ≤ 32 * P := Int.mul_le_mul_of_nonneg_right (by omega) (by omega)
  have hmul : IntKind.i64.wrap ((B : Int) * P) = ((B * P : Nat) : Int) := by rw [w64 (by omega) (by omega)]; simp
  have hbp : 1 ≤ B * P ∧ B * P ≤ 4096 := by
    have h1' : 1 * 1 ≤ B * P := Nat.mul_le_mul (by omega) (by omega)
    have e : ((B * P : Nat) : Int) = (B : Int) * P := by simp
    omega
  generalize hW : (((w.alloc (Obj.cells #[Value.int IntKind.i64 B, Value.int IntKind.i64 P, Value.int IntKind.i64 en] 23)).alloc (Obj.cells (madeCells #[Value.int IntKind.i64 0] B) 3)).alloc
    (Obj.cells #[Value.int IntKind.i64 B, Value.int IntKind.i64 P, Value.int IntKind.i64 en, Value.slice none 0 0, Value.slice (some { block := w.heap.size + 1, off := 0 }) B B, Value.bool false, Value.bool false, Value.int IntKind.i64 0, Value.int IntKind.u64 0] 60)).drew = W
  have hM : Mods No w W := by rw [← hW]; exact ((((Mods.refl _ _).alloc _).alloc _).alloc _).drew
  have hS : W.heap[w.heap.size]? = some (Obj.cells #[Value.int IntKind.i64 B, Value.int IntKind.i64 P, Value.int IntKind.i64 en] 23 (0, 0)) := by
    rw [← hW]; exact heap_old (heap_old (heap_alloc_new w _) _) _
  have hE1 : W.heap[w.heap.size + 1]? = some (Obj.cells (madeCells #[Value.int IntKind.i64 0] B) 3 (0, 0)) := by
    rw [← hW]; refine heap_old (o := Obj.cells (madeCells #[Value.int IntKind.i64 0] B) 3 (0, 0)) ?_ _
    have := heap_alloc_new (w.alloc (Obj.cells #[Value.int IntKind.i64 B, Value.int IntKind.i64 P, Value.int IntKind.i64 en] 23)) (Obj.cells (madeCells #[Value.int IntKind.i64 0] B) 3)
    simpa using this
  have hB : W.heap[w.heap.size + 1 + 1]? = some (Obj.cells #[Value.int IntKind.i64 B, Value.int IntKind.i64 P, Value.int IntKind.i64 en, Value.slice none 0 0, Value.slice (some { block := w.heap.size + 1, off := 0 }) B B, Value.bool false, Value.bool false, Value.int IntKind.i64 0, Value.int IntKind.u64 0] 60 (0, 0)) := by
    rw [← hW]
    have := heap_alloc_new ((w.alloc (Obj.cells #[Value.int IntKind.i64 B, Value.int IntKind.i64 P, Value.int IntKind.i64 en] 23)).alloc (Obj.cells (madeCells #[Value.int IntKind.i64 0] B) 3)) (Obj.cells #[Value.int IntKind.i64 B, Value.int IntKind.i64 P, Value.int IntKind.i64 en, Value.slice none 0 0, Value.slice (some { block := w.heap.size + 1, off := 0 }) B B, Value.bool false, Value.bool false, Value.int IntKind.i64 0, Value.int IntKind.u64 0] 60)
    rw [show ((w.alloc (Obj.cells #[Value.int IntKind.i64 B, Value.int IntKind.i64 P, Value.int IntKind.i64 en] 23)).alloc (Obj.cells (madeCells #[Value.int IntKind.i64 0] B) 3)).heap.size = w.heap.size + 1 + 1 by simp] at this
    exact this
  have hE : Own W 3 1 (.slice (some ⟨w.heap.size + 1, 0, none⟩) B B) B (ints (List.replicate B 0)) := ⟨by simp [ints], .inr ⟨_, B, _, rfl, Nat.zero_le _, hE1, Nat.le_refl _, by unfold maxLen; omega, by simp [madeCells], by rw [madeCells1]; simp [ints]⟩⟩
  have s0 : W.cell? ⟨w.heap.size, 0, none⟩ = some (.int .i64 B) := heap_cell hS 0
  have s1 : W.cell? ⟨w.heap.size, 1, none⟩ = some (.int .i64 P) := heap_cell hS 1
  have b3 : W.cell? ⟨w.heap.size + 1 + 1, 3, none⟩ = some (.slice none 0 0) := heap_cell hB 3
  have bf : W.frozen? ⟨w.heap.size + 1 + 1, 3, none⟩ = false := heap_free hB 3
  have HS : Hid (W.heap[w.heap.size + 1 + 1]? = _) := hB
  have L0 : w.heap.size + 1 + 1 < W.heap.size := heap_lt hB
  clear hW hE1 hS hB hmk hz0 hz1
  go_region_with (first
    | (go_at_call 27; refine (repeat_ff _).mono ?_; rintro e w1 ⟨rfl, m1⟩; go_must (have L1 : w.heap.size + 1 + 1 < w1.heap.size := Nat.lt_of_lt_of_le L0 m1.size; have L2 : w.heap.size < w1.heap.size := Nat.lt_of_succ_lt (Nat.lt_of_succ_lt L1); have s0' := m1.cell (p := ⟨w.heap.size, 0, none⟩) s0 id; have s1' := m1.cell (p := ⟨w.heap.size, 1, none⟩) s1 id; have b3' := m1.cell (p := ⟨w.heap.size + 1 + 1, 3, none⟩) b3 id; have bf' := m1.free (p := ⟨w.heap.size + 1 + 1, 3, none⟩) b3 bf id))
    | (go_at_call 26; refine (rep_any _ 1 (B * P) ff64 _ (by simp) hbp.1 hbp.2).mono ?_; rintro e w2 ⟨g, rfl, hO, hg, m2⟩; have b3'' := m2.cell (p := ⟨w.heap.size + 1 + 1, 3, none⟩) (((Mods.refl No _).alloc _).cell b3' id) id; have bf'' := m2.free (p := ⟨w.heap.size + 1 + 1, 3, none⟩) (((Mods.refl No _).alloc _).cell b3' id) (((Mods.refl No _).alloc _).free b3' bf' id) id))
  all_goals go_wp2
  all_goals (
    go_ret2
    have hb2 := m2.heap (heap_old (m1.heap HS.out id) _) id
    have hE2 := ((hE.mods m1.undrew (fun _ _ => id)).alloc (Obj.cells #[.string ff64] 9)).mods m2 (fun _ _ => id)
    have hgb : g ≠ w.heap.size + 1 + 1 := hO.ne hb2 (by decide) g rfl
    have hm3 := mods1 w2 (w.heap.size + 1 + 1) 3 (.slice (some ⟨g, 0, none⟩) (B * P) (B * P))
    refine ⟨w.heap.size + 1 + 1, g, B * P, w.heap.size + 1, B, rfl, ?_, (((hM.no m1.undrew).alloc _).no m2).trans hm3 (fun i hi => .inr (by have hi2 : i = w.heap.size + 1 + 1 := hi; omega)), by omega, Nat.le_trans (Nat.le_trans hM.size m1.size) (Nat.le_trans (Nat.le_succ _) (by simpa using hg)), by omega⟩
    have hN : newFlash B P en = ⟨B, P, en, List.replicate (B * P) ff64, List.replicate B 0, false, false, 0, 0⟩ := by
      unfold newFlash
      rw [show ((B : Int) * P).toNat = B * P by rw [← Int.natCast_mul]; rfl, Int.toNat_natCast]
    rw [hN]
    refine ⟨?_, ?_, ?_⟩
    · have := heap_set (i := 3) hb2 (.slice (some ⟨g, 0, none⟩) (B * P) (B * P))
      simpa using this
    · have := hO.mods hm3 (fun k hk => by cases hk; exact hgb)
      simpa [strs] using this
    · have := hE2.mods hm3 (fun k hk => by cases hk; exact fun e : w.heap.size + 1 = w.heap.size + 1 + 1 => by omega)
      simpa using this)
end Go.Proofs.Ytachkcoilhlggaa
