/- The walk over the statements' helper do of chapter 40. -/
import Derived.Test.YtachkcoilhlggaaLa2
import Derived.Test.YtachkcoilhlggaaFl4
set_option linter.unusedVariables false
set_option linter.unusedSimpArgs false
namespace Go.Proofs.Ytachkcoilhlggaa
open Go.RowKit Go.PF

/-- what a call returns, and the flash behind it; B, P: the shape handed over -/
def FlashS.doM (s : FlashS) (c : CallD) (B P : Nat) (was : ByteArray) : (ByteArray × Int) × FlashS :=
  if modU c.kind 10 < 4 then ((ByteArray.empty, (s.prog (atB c B) (atP c P) (dataS c was)).1), (s.prog (atB c B) (atP c P) (dataS c was)).2)
  else if modU c.kind 10 = 4 then (s.read (atB c B) (atP c P), s)
  else if modU c.kind 10 < 7 then ((ByteArray.empty, (s.erase (atB c B)).1), (s.erase (atB c B)).2)
  else if modU c.kind 10 = 7 then ((ByteArray.empty, 0), { s with planned := decide (0 ≤ c.data % 6 - 1), left := max (c.data % 6 - 1) 0, torn := c.torn })
  else if modU c.kind 10 = 8 then ((ByteArray.empty, if s.off then 9 else 0), if s.off then s else s.lose)
  else ((ByteArray.empty, if s.off then 0 else 9), { s with off := false })

structure FlRet2 (w : World) (b gp cp ge ce : Nat) (x : (ByteArray × Int) × FlashS) (e : Ending) (w' : World) : Prop where
  ret : e = .returned (.tuple #[.string x.1.1, .int .i64 x.1.2])
  at_ : FlashAt w' b gp cp ge ce x.2
  mods : Mods (FlF b gp ge) w w'

variable {b gp cp ge ce : Nat} {s : FlashS}

set_option maxHeartbeats 1000000 in
theorem do_any (c : CallD) (B P : Nat) (en : Int) (was : ByteArray) (w : World) (hF : FlashAt w b gp cp ge ce s) (hw : s.WF) (hc : c.WF) (hB : 0 < B ∧ B < 1000) (hP : 0 < P ∧ P < 1000) (hs : was.size ≤ 1048576) :
    Calls Try.prog 17 #[.pointer (some ⟨b, 0, none⟩), .agg #[.int .i64 c.kind, .int .i64 c.block, .int .i64 c.page, .int .u64 c.data, .int .u64 c.torn, .bool c.and, .bool c.raw], .agg #[.int .i64 B, .int .i64 P, .int .i64 en], .string was] w (FlRet2 w b gp cp ge ce (s.doM c B P was)) := by
  have hr := modU_range c.kind (n := 10) (by omega)
  have hm := fun W => mod_any c.kind 10 W (by decide) (by decide)
  have AT := fun W => at_call c B P en W hB hP
  have HD := fun W => data_any c was W hc hs
  obtain ⟨K, hK⟩ : ∃ K, modU c.kind 10 = K := ⟨_, rfl⟩
  have hdo : s.doM c B P was = (if K < 4 then ((ByteArray.empty, (s.prog (atB c B) (atP c P) (dataS c was)).1), (s.prog (atB c B) (atP c P) (dataS c was)).2)
    else if K = 4 then (s.read (atB c B) (atP c P), s)
    else if K < 7 then ((ByteArray.empty, (s.erase (atB c B)).1), (s.erase (atB c B)).2)
    else if K = 7 then ((ByteArray.empty, 0), { s with planned := decide (0 ≤ c.data % 6 - 1), left := max (c.data % 6 - 1) 0, torn := c.torn })
    else if K = 8 then ((ByteArray.empty, if s.off then 9 else 0), if s.off then s else s.lose)
    else ((ByteArray.empty, if s.off then 0 else 9), { s with off := false })) := by rw [FlashS.doM, hK]
  rw [hK] at hr hm
  obtain ⟨hr0, hr1⟩ := hr
  obtain ⟨X, hX⟩ : ∃ X, s.doM c B P was = X := ⟨_, rfl⟩
  rw [hX] at hdo ⊢
  have HDO : Hid (X = _) := hdo
  clear hdo hX
  obtain ⟨hd0, hd1⟩ := hc.d
  clear hK
  have hcases : K = 0 ∨ K = 1 ∨ K = 2 ∨ K = 3 ∨ K = 4 ∨ K = 5 ∨ K = 6 ∨ K = 7 ∨ K = 8 ∨ K = 9 := by omega
  clear hr0 hr1
  obtain ⟨x1, hx1⟩ : ∃ x, atB c B = x := ⟨_, rfl⟩
  obtain ⟨x2, hx2⟩ : ∃ x, atP c P = x := ⟨_, rfl⟩
  obtain ⟨x3, hx3⟩ : ∃ x, dataS c was = x := ⟨_, rfl⟩
  rw [hx1, hx2, hx3] at HDO
  simp only [hx1, hx2] at AT
  simp only [hx3] at HD
  clear hx1 hx2 hx3
  obtain ⟨W, hW⟩ : ∃ W, (w.alloc (Obj.cells #[Value.int IntKind.i64 c.kind, Value.int IntKind.i64 c.block, Value.int IntKind.i64 c.page, Value.int IntKind.u64 c.data, Value.int IntKind.u64 c.torn, Value.bool c.and, Value.bool c.raw] 39)).alloc (Obj.cells #[Value.int IntKind.i64 B, Value.int IntKind.i64 P, Value.int IntKind.i64 en] 23) = W := ⟨_, rfl⟩
  have hM : Mods No w W := by rw [← hW]; exact ((Mods.refl _ _).alloc _).alloc _
  have hC : W.heap[w.heap.size]? = some (Obj.cells #[Value.int IntKind.i64 c.kind, Value.int IntKind.i64 c.block, Value.int IntKind.i64 c.page, Value.int IntKind.u64 c.data, Value.int IntKind.u64 c.torn, Value.bool c.and, Value.bool c.raw] 39 (0, 0)) := by
    rw [← hW]; exact heap_old (heap_alloc_new w _) _
  have hS : W.heap[w.heap.size + 1]? = some (Obj.cells #[Value.int IntKind.i64 B, Value.int IntKind.i64 P, Value.int IntKind.i64 en] 23 (0, 0)) := by
    rw [← hW]
    have := heap_alloc_new (w.alloc (Obj.cells #[Value.int IntKind.i64 c.kind, Value.int IntKind.i64 c.block, Value.int IntKind.i64 c.page, Value.int IntKind.u64 c.data, Value.int IntKind.u64 c.torn, Value.bool c.and, Value.bool c.raw] 39)) (Obj.cells #[Value.int IntKind.i64 B, Value.int IntKind.i64 P, Value.int IntKind.i64 en] 23)
    simpa using this
  have hFW : FlashAt W b gp cp ge ce s := hF.mods hM id id id
  have HCE : Hid (W.heap[w.heap.size]? = some _) := hC
  have HSE : Hid (W.heap[w.heap.size + 1]? = some _) := hS
  have q0 : W.cell? ⟨w.heap.size, 0, none⟩ = some (.int .i64 c.kind) := heap_cell hC 0
  have q1 : W.cell? ⟨w.heap.size, 1, none⟩ = some (.int .i64 c.block) := heap_cell hC 1
  have q2 : W.cell? ⟨w.heap.size, 2, none⟩ = some (.int .i64 c.page) := heap_cell hC 2
  have q3 : W.cell? ⟨w.heap.size, 3, none⟩ = some (.int .u64 c.data) := heap_cell hC 3
  have q4 : W.cell? ⟨w.heap.size, 4, none⟩ = some (.int .u64 c.torn) := heap_cell hC 4
  have q5 : W.cell? ⟨w.heap.size, 5, none⟩ = some (.bool c.and) := heap_cell hC 5
  have q6 : W.cell? ⟨w.heap.size, 6, none⟩ = some (.bool c.raw) := heap_cell hC 6
  have t0 : W.cell? ⟨w.heap.size + 1, 0, none⟩ = some (.int .i64 B) := heap_cell hS 0
  have t1 : W.cell? ⟨w.heap.size + 1, 1, none⟩ = some (.int .i64 P) := heap_cell hS 1
  have t2 : W.cell? ⟨w.heap.size + 1, 2, none⟩ = some (.int .i64 en) := heap_cell hS 2
  have HW : Hid (_ = W) := hW
  clear hC hS hW hF
  rcases hcases with rfl | rfl | rfl | rfl | rfl | rfl | rfl | rfl | rfl | rfl
  · have hx : X = ((ByteArray.empty, (s.prog x1 x2 x3).1), (s.prog x1 x2 x3).2) := HDO.out.trans (by simp)
    have HX : Hid (X = _) := hx
    clear hx HDO
    go_enter Try.func17, Try.ntmps17
    go_wp2_with (fail)
    rw [HW.out]
    go_wp2_with (first
      | (go_at_call 14; refine (AT _).mono ?_; rintro e w1 ⟨rfl, m1⟩; have hF1 := hFW.mods m1 id id id; have p0 := m1.cell q0 id; have p1 := m1.cell q1 id; have p2 := m1.cell q2 id; have p3 := m1.cell q3 id; have p4 := m1.cell q4 id; have p5 := m1.cell q5 id; have p6 := m1.cell q6 id)
      | (go_at_call 15; refine (hm _).mono ?_; rintro e w2 ⟨rfl, rfl⟩)
      | (go_at_call 18; refine (HD _).mono ?_; rintro e w3 ⟨rfl, m3⟩; have hF3 := hF1.mods m3 id id id)
      | (go_at_call 12; refine (prog_any _ _ _ _ hF3 hw).mono ?_; rintro e w4 ⟨rfl, hF4, m4⟩))
    go_ret2
    exact ⟨by rw [HX.out]; rfl, by rw [HX.out]; exact hF4, (((hM.no m1).no m3).mono (fun _ h => h.elim)).trans m4 (fun i h => .inl h)⟩
  · have hx : X = ((ByteArray.empty, (s.prog x1 x2 x3).1), (s.prog x1 x2 x3).2) := HDO.out.trans (by simp)
    have HX : Hid (X = _) := hx
    clear hx HDO
    go_enter Try.func17, Try.ntmps17
    go_wp2_with (fail)
    rw [HW.out]
    go_wp2_with (first
      | (go_at_call 14; refine (AT _).mono ?_; rintro e w1 ⟨rfl, m1⟩; have hF1 := hFW.mods m1 id id id; have p0 := m1.cell q0 id; have p1 := m1.cell q1 id; have p2 := m1.cell q2 id; have p3 := m1.cell q3 id; have p4 := m1.cell q4 id; have p5 := m1.cell q5 id; have p6 := m1.cell q6 id)
      | (go_at_call 15; refine (hm _).mono ?_; rintro e w2 ⟨rfl, rfl⟩)
      | (go_at_call 18; refine (HD _).mono ?_; rintro e w3 ⟨rfl, m3⟩; have hF3 := hF1.mods m3 id id id)
      | (go_at_call 12; refine (prog_any _ _ _ _ hF3 hw).mono ?_; rintro e w4 ⟨rfl, hF4, m4⟩))
    go_ret2
    exact ⟨by rw [HX.out]; rfl, by rw [HX.out]; exact hF4, (((hM.no m1).no m3).mono (fun _ h => h.elim)).trans m4 (fun i h => .inl h)⟩
  · have hx : X = ((ByteArray.empty, (s.prog x1 x2 x3).1), (s.prog x1 x2 x3).2) := HDO.out.trans (by simp)
    have HX : Hid (X = _) := hx
    clear hx HDO
    go_enter Try.func17, Try.ntmps17
    go_wp2_with (fail)
    rw [HW.out]
    go_wp2_with (first
      | (go_at_call 14; refine (AT _).mono ?_; rintro e w1 ⟨rfl, m1⟩; have hF1 := hFW.mods m1 id id id; have p0 := m1.cell q0 id; have p1 := m1.cell q1 id; have p2 := m1.cell q2 id; have p3 := m1.cell q3 id; have p4 := m1.cell q4 id; have p5 := m1.cell q5 id; have p6 := m1.cell q6 id)
      | (go_at_call 15; refine (hm _).mono ?_; rintro e w2 ⟨rfl, rfl⟩)
      | (go_at_call 18; refine (HD _).mono ?_; rintro e w3 ⟨rfl, m3⟩; have hF3 := hF1.mods m3 id id id)
      | (go_at_call 12; refine (prog_any _ _ _ _ hF3 hw).mono ?_; rintro e w4 ⟨rfl, hF4, m4⟩))
    go_ret2
    exact ⟨by rw [HX.out]; rfl, by rw [HX.out]; exact hF4, (((hM.no m1).no m3).mono (fun _ h => h.elim)).trans m4 (fun i h => .inl h)⟩
  · have hx : X = ((ByteArray.empty, (s.prog x1 x2 x3).1), (s.prog x1 x2 x3).2) := HDO.out.trans (by simp)
    have HX : Hid (X = _) := hx
    clear hx HDO
    go_enter Try.func17, Try.ntmps17
    go_wp2_with (fail)
    rw [HW.out]
    go_wp2_with (first
      | (go_at_call 14; refine (AT _).mono ?_; rintro e w1 ⟨rfl, m1⟩; have hF1 := hFW.mods m1 id id id; have p0 := m1.cell q0 id; have p1 := m1.cell q1 id; have p2 := m1.cell q2 id; have p3 := m1.cell q3 id; have p4 := m1.cell q4 id; have p5 := m1.cell q5 id; have p6 := m1.cell q6 id)
      | (go_at_call 15; refine (hm _).mono ?_; rintro e w2 ⟨rfl, rfl⟩)
      | (go_at_call 18; refine (HD _).mono ?_; rintro e w3 ⟨rfl, m3⟩; have hF3 := hF1.mods m3 id id id)
      | (go_at_call 12; refine (prog_any _ _ _ _ hF3 hw).mono ?_; rintro e w4 ⟨rfl, hF4, m4⟩))
    go_ret2
    exact ⟨by rw [HX.out]; rfl, by rw [HX.out]; exact hF4, (((hM.no m1).no m3).mono (fun _ h => h.elim)).trans m4 (fun i h => .inl h)⟩
  · have hx : X = (s.read x1 x2, s) := HDO.out.trans (by simp)
    have HX : Hid (X = _) := hx
    clear hx HDO
    go_enter Try.func17, Try.ntmps17
    go_wp2_with (fail)
    rw [HW.out]
    go_wp2_with (first
      | (go_at_call 14; refine (AT _).mono ?_; rintro e w1 ⟨rfl, m1⟩; have hF1 := hFW.mods m1 id id id; have p0 := m1.cell q0 id; have p1 := m1.cell q1 id; have p2 := m1.cell q2 id; have p3 := m1.cell q3 id; have p4 := m1.cell q4 id; have p5 := m1.cell q5 id; have p6 := m1.cell q6 id)
      | (go_at_call 15; refine (hm _).mono ?_; rintro e w2 ⟨rfl, rfl⟩)
      | (go_at_call 16; refine (read_any _ _ _ hF1 hw).mono ?_; rintro e w4 ⟨rfl, n4, rfl⟩))
    go_ret2
    exact ⟨by rw [HX.out]; rfl, by rw [HX.out]; exact hF1.drewN _, ((hM.no m1).mono (fun _ h => h.elim)).drewN _⟩
  · have hx : X = ((ByteArray.empty, (s.erase x1).1), (s.erase x1).2) := HDO.out.trans (by simp)
    have HX : Hid (X = _) := hx
    clear hx HDO
    go_enter Try.func17, Try.ntmps17
    go_wp2_with (fail)
    rw [HW.out]
    go_wp2_with (first
      | (go_at_call 14; refine (AT _).mono ?_; rintro e w1 ⟨rfl, m1⟩; have hF1 := hFW.mods m1 id id id; have p0 := m1.cell q0 id; have p1 := m1.cell q1 id; have p2 := m1.cell q2 id; have p3 := m1.cell q3 id; have p4 := m1.cell q4 id; have p5 := m1.cell q5 id; have p6 := m1.cell q6 id)
      | (go_at_call 15; refine (hm _).mono ?_; rintro e w2 ⟨rfl, rfl⟩)
      | (go_at_call 22; refine (erase_any _ _ hF1 hw).mono ?_; rintro e w4 ⟨rfl, hF4, m4⟩))
    go_ret2
    exact ⟨by rw [HX.out]; rfl, by rw [HX.out]; exact hF4, (((hM.no m1)).mono (fun _ h => h.elim)).trans m4 (fun i h => .inl h)⟩
  · have hx : X = ((ByteArray.empty, (s.erase x1).1), (s.erase x1).2) := HDO.out.trans (by simp)
    have HX : Hid (X = _) := hx
    clear hx HDO
    go_enter Try.func17, Try.ntmps17
    go_wp2_with (fail)
    rw [HW.out]
    go_wp2_with (first
      | (go_at_call 14; refine (AT _).mono ?_; rintro e w1 ⟨rfl, m1⟩; have hF1 := hFW.mods m1 id id id; have p0 := m1.cell q0 id; have p1 := m1.cell q1 id; have p2 := m1.cell q2 id; have p3 := m1.cell q3 id; have p4 := m1.cell q4 id; have p5 := m1.cell q5 id; have p6 := m1.cell q6 id)
      | (go_at_call 15; refine (hm _).mono ?_; rintro e w2 ⟨rfl, rfl⟩)
      | (go_at_call 22; refine (erase_any _ _ hF1 hw).mono ?_; rintro e w4 ⟨rfl, hF4, m4⟩))
    go_ret2
    exact ⟨by rw [HX.out]; rfl, by rw [HX.out]; exact hF4, (((hM.no m1)).mono (fun _ h => h.elim)).trans m4 (fun i h => .inl h)⟩
  · have hx : X = ((ByteArray.empty, 0), { s with planned := decide (0 ≤ c.data % 6 - 1), left := max (c.data % 6 - 1) 0, torn := c.torn }) := HDO.out.trans (by simp)
    have HX : Hid (X = _) := hx
    clear hx HDO
    have hd6 : 0 ≤ c.data % 6 ∧ c.data % 6 < 6 := ⟨Int.emod_nonneg _ (by omega), Int.emod_lt_of_pos _ (by omega)⟩
    obtain ⟨hd60, hd61⟩ := hd6
    go_enter Try.func17, Try.ntmps17
    go_wp2_with (fail)
    rw [HW.out]
    go_wp2_with (first
      | (go_at_call 14; refine (AT _).mono ?_; rintro e w1 ⟨rfl, m1⟩; have hF1 := hFW.mods m1 id id id; have p0 := m1.cell q0 id; have p1 := m1.cell q1 id; have p2 := m1.cell q2 id; have p3 := m1.cell q3 id; have p4 := m1.cell q4 id; have p5 := m1.cell q5 id; have p6 := m1.cell q6 id)
      | (go_at_call 15; refine (hm _).mono ?_; rintro e w2 ⟨rfl, rfl⟩)
      | (go_at_call 21; refine (cutAfter_any _ _ _ hF1).mono ?_; rintro e w4 ⟨rfl, hF4, m4⟩))
    go_ret2
    exact ⟨by rw [HX.out]; rfl, by rw [HX.out]; exact hF4, (((hM.no m1)).mono (fun _ h => h.elim)).trans m4 (fun i h => .inl (.inl h))⟩
  · have hx : X = ((ByteArray.empty, if s.off then 9 else 0), if s.off then s else s.lose) := HDO.out.trans (by simp)
    have HX : Hid (X = _) := hx
    clear hx HDO
    cases hso : s.off
    all_goals (
      go_enter Try.func17, Try.ntmps17
      go_wp2_with (fail)
      rw [HW.out]
      go_wp2_with (first
        | (go_at_call 14; refine (AT _).mono ?_; rintro e w1 ⟨rfl, m1⟩; have hF1 := hFW.mods m1 id id id; have p0 := m1.cell q0 id; have p1 := m1.cell q1 id; have p2 := m1.cell q2 id; have p3 := m1.cell q3 id; have p4 := m1.cell q4 id; have p5 := m1.cell q5 id; have p6 := m1.cell q6 id)
        | (go_at_call 15; refine (hm _).mono ?_; rintro e w2 ⟨rfl, rfl⟩)
        | (go_at_call 23; refine (powerOff_any _ hF1).mono ?_; rintro e w4 ⟨rfl, hF4, m4⟩))
      go_ret2
      exact ⟨by rw [HX.out]; simp [hso]; rfl, by rw [HX.out]; exact hF4, (((hM.no m1)).mono (fun _ h => h.elim)).trans m4 (fun i h => .inl (.inl h))⟩)
  · have hx : X = ((ByteArray.empty, if s.off then 0 else 9), { s with off := false }) := HDO.out.trans (by simp)
    have HX : Hid (X = _) := hx
    clear hx HDO
    cases hso : s.off
    all_goals (
      go_enter Try.func17, Try.ntmps17
      go_wp2_with (fail)
      rw [HW.out]
      go_wp2_with (first
        | (go_at_call 14; refine (AT _).mono ?_; rintro e w1 ⟨rfl, m1⟩; have hF1 := hFW.mods m1 id id id; have p0 := m1.cell q0 id; have p1 := m1.cell q1 id; have p2 := m1.cell q2 id; have p3 := m1.cell q3 id; have p4 := m1.cell q4 id; have p5 := m1.cell q5 id; have p6 := m1.cell q6 id)
        | (go_at_call 15; refine (hm _).mono ?_; rintro e w2 ⟨rfl, rfl⟩)
        | (go_at_call 24; refine (powerOn_any _ hF1).mono ?_; rintro e w4 ⟨rfl, hF4, m4⟩))
      go_ret2
      exact ⟨by rw [HX.out]; simp [hso]; rfl, by rw [HX.out]; exact hF4, (((hM.no m1)).mono (fun _ h => h.elim)).trans m4 (fun i h => .inl (.inl h))⟩)
end Go.Proofs.Ytachkcoilhlggaa
