/- The walk over the statement FlashNewAgrees. -/
import Derived.Test.YtachkcoilhlggaaRefN
import Derived.Test.YtachkcoilhlggaaPl4
import Derived.Deep.RegionHeld
set_option linter.unusedVariables false
set_option linter.unusedSimpArgs false
namespace Go.Proofs.Ytachkcoilhlggaa
open Go.RowKit Go.PF

theorem shape_get {b gp cp ge ce : Nat} {s : FlashS} (w : World) (hF : FlashAt w b gp cp ge ce s) :
    Calls Try.prog 11 #[.pointer (some ⟨b, 0, none⟩)] w fun e w' => e = .returned (.agg #[.int .i64 s.nb, .int .i64 s.np, .int .i64 s.en]) ∧ Mods No w w' := by
  have c0 := hF.c0
  have c1 := hF.c1
  have c2 := hF.c2
  have hb := hF.lt b (.inl rfl)
  go_enter Try.func11, Try.ntmps11
  go_wp2
  have hn := heap_alloc_new w (.cells #[.int .i64 s.nb, .int .i64 s.np, .int .i64 s.en] 23)
  have n0 := heap_cell hn 0
  have n1 := heap_cell hn 1
  have n2 := heap_cell hn 2
  refine bodyPost_ret (v := .agg #[.int .i64 s.nb, .int .i64 s.np, .int .i64 s.en]) ?_ rfl ⟨rfl, (Mods.refl _ _).alloc _⟩
  simp [results, Try.results11, go_sem, n0, n1, n2]

theorem prog00 (B P : Nat) (en : Int) (hok : okShape B P en) (d : ByteArray) : ((newFlash B P en).prog 0 0 d).1 = if d.size = 64 then 0 else 1 := by
  unfold okShape at hok
  unfold FlashS.prog
  by_cases h : d.size = 64
  · have hw := newFlash_wf hok
    have hc : (newFlash B P en).chk 0 0 = 0 := by
      unfold FlashS.chk
      rw [if_neg (by show ¬ ((0 : Int) < 0 ∨ (B : Int) ≤ 0 ∨ (0 : Int) < 0 ∨ (P : Int) ≤ 0); omega)]
      rfl
    have hp : (newFlash B P en).page 0 0 = ff64 := by
      have q := (page_of hw (i := 0) (k := 0) ⟨Int.le_refl _, by show (0 : Int) < B; omega⟩ ⟨Int.le_refl _, by show (0 : Int) < P; omega⟩).2.1
      exact (List.mem_replicate.1 (List.mem_of_getElem? q)).2
    have hcl : clearsB ff64 d = true := by
      refine List.all_eq_true.2 fun i hi => ?_
      rw [h, List.mem_range] at hi
      have hr := byt_range d i
      rw [byt_ff hi]
      have := nat_all 256 (fun n => Go.bits .andNot .u8 (n : Int) 255 == 0) (by decide +kernel) hr.1 hr.2
      rw [Int.toNat_of_nonneg hr.1] at this
      exact this
    rw [if_neg (by simpa using h), hc, if_neg (by simp), hp, hcl, if_neg (by simp), if_pos h]
    rfl
  · rw [if_pos h, if_neg h]

theorem new_any (nb np en : Int) (w : World) :
    Calls Try.prog 8 #[.agg #[.int .i64 nb, .int .i64 np, .int .i64 en]] w fun e w' => ∃ A c, e = .returned (.tuple #[.pointer A, .int .i64 c]) ∧ ((okShape nb np en ∧ c = 0 ∧ ∃ a, A = some a) ∨ (¬ okShape nb np en ∧ c = 1 ∧ A = none)) ∧ Mods No w w' := by
  by_cases h : okShape nb np en
  · have hh := h
    unfold okShape at hh
    obtain ⟨B, rfl⟩ := Int.eq_ofNat_of_zero_le (a := nb) (by omega)
    obtain ⟨P, rfl⟩ := Int.eq_ofNat_of_zero_le (a := np) (by omega)
    refine (new_ok B P en w h).mono ?_
    rintro e w' ⟨b, gp, cp, ge, ce, rfl, _, hm, _⟩
    exact ⟨_, _, rfl, .inl ⟨h, rfl, _, rfl⟩, hm⟩
  · refine (new_bad nb np en w h).mono ?_
    rintro e w' ⟨rfl, hm⟩
    exact ⟨_, _, rfl, .inr ⟨h, rfl, rfl⟩, hm⟩
theorem refNew_any (nb np en : Int) (w : World) :
    Calls Try.prog 9 #[.agg #[.int .i64 nb, .int .i64 np, .int .i64 en]] w fun e w' => ∃ p c, e = .returned (.tuple #[p, .int .i64 c]) ∧ ((okShape nb np en ∧ c = 0) ∨ (¬ okShape nb np en ∧ c = 1)) ∧ Mods No w w' := by
  by_cases h : okShape nb np en
  · have hh := h
    unfold okShape at hh
    obtain ⟨B, rfl⟩ := Int.eq_ofNat_of_zero_le (a := nb) (by omega)
    obtain ⟨P, rfl⟩ := Int.eq_ofNat_of_zero_le (a := np) (by omega)
    refine (refNew_ok B P en w h).mono ?_
    rintro e w' ⟨⟨p, rfl⟩, hm⟩
    exact ⟨_, _, rfl, .inl ⟨h, rfl⟩, hm⟩
  · refine (refNew_bad nb np en w h).mono ?_
    rintro e w' ⟨⟨p, rfl⟩, hm⟩
    exact ⟨_, _, rfl, .inr ⟨h, rfl⟩, hm⟩

set_option maxHeartbeats 1000000 in
set_option maxRecDepth 100000 in
theorem new_walk (x0 y0 z0 : Int) (data : ByteArray) (hd : data.size ≤ 140737488351232) (W : World) :
    Calls Try.prog 3 #[.agg #[.int .i64 x0, .int .i64 y0, .int .i64 z0], .string data] W fun e w' => e = .returned (.bool true) ∧ Below W.heap.size W w' := by
  have h1 := modU_range x0 (n := 3) (by omega)
  have h2 := modU_range y0 (n := 3) (by omega)
  have h3 := modU_range z0 (n := 6) (by omega)
  obtain ⟨B, hB⟩ : ∃ B : Nat, (B : Int) = 1 + modU x0 3 := ⟨(1 + modU x0 3).toNat, by omega⟩
  obtain ⟨P, hP⟩ : ∃ P : Nat, (P : Int) = 1 + modU y0 3 := ⟨(1 + modU y0 3).toNat, by omega⟩
  obtain ⟨E, hE⟩ : ∃ E : Int, E = modU z0 6 := ⟨_, rfl⟩
  have hsh := fun w => shape_any x0 y0 z0 w
  rw [← hB, ← hP, ← hE] at hsh
  have hok : okShape B P E := by unfold okShape; omega
  have hpr := prog00 B P E hok data
  clear h1 h2 h3 hB hP hE
  go_enter Try.func3, Try.ntmps3
  go_wp2_with fail
  refine (new_any x0 y0 z0 _).mono ?_
  rintro e w1 ⟨A, c, rfl, hA, m1⟩
  have hb1 : w1.heap[W.heap.size]? = some (.cells #[.int .i64 x0, .int .i64 y0, .int .i64 z0] 23 (0, 0)) := m1.heap (heap_alloc_new W _) id
  have hM1 : Mods No W w1 := ((Mods.refl _ _).alloc _).no m1
  have s0 : w1.cell? ⟨W.heap.size, 0, none⟩ = some (.int .i64 x0) := heap_cell hb1 0
  have s1 : w1.cell? ⟨W.heap.size, 1, none⟩ = some (.int .i64 y0) := heap_cell hb1 1
  have s2 : w1.cell? ⟨W.heap.size, 2, none⟩ = some (.int .i64 z0) := heap_cell hb1 2
  go_wp2_with fail
  refine (refNew_any x0 y0 z0 _).mono ?_
  rintro e w2 ⟨p, c', rfl, hA', m2⟩
  have hcc : c' = c := by
    rcases hA with ⟨q, rfl, _⟩ | ⟨q, rfl, _⟩ <;> rcases hA' with ⟨q', rfl⟩ | ⟨q', rfl⟩ <;> first | rfl | exact absurd q q' | exact absurd q' q
  subst hcc
  have hb2 := m2.heap hb1 id
  have hM2 := hM1.no m2
  clear hb1 hM1 m1 m2 s0 s1 s2 hA'
  have s0 : w2.cell? ⟨W.heap.size, 0, none⟩ = some (.int .i64 x0) := heap_cell hb2 0
  have s1 : w2.cell? ⟨W.heap.size, 1, none⟩ = some (.int .i64 y0) := heap_cell hb2 1
  have s2 : w2.cell? ⟨W.heap.size, 2, none⟩ = some (.int .i64 z0) := heap_cell hb2 2
  go_wp2_with fail
  refine (hsh _).mono ?_
  rintro e w3 ⟨rfl, m3⟩
  have hM3 := hM2.no m3
  clear hb2 hM2 s0 s1 s2 m3
  go_wp2_with fail
  have hsA := heap_alloc_new w3 (.cells #[.int .i64 B, .int .i64 P, .int .i64 E] 23)
  have hMA := hM3.alloc (.cells #[.int .i64 B, .int .i64 P, .int .i64 E] 23)
  have hWB : W.heap.size ≤ w3.heap.size := hM3.size
  generalize w3.heap.size = bs at hsA hWB ⊢
  generalize w3.alloc (.cells #[.int .i64 B, .int .i64 P, .int .i64 E] 23) = w4 at hsA hMA ⊢
  have lbs : bs < w4.heap.size := heap_lt hsA
  clear hM3
  refine (new_ok B P E _ hok).mono ?_
  rintro e w5 ⟨b, gp, cp, ge, ce, rfl, hF, m5, g1, g2, g3⟩
  have hs5 := m5.heap hsA id
  have hM5 := hMA.no m5
  clear hsA hMA m5
  have t0 : w5.cell? ⟨bs, 0, none⟩ = some (.int .i64 B) := heap_cell hs5 0
  have t1 : w5.cell? ⟨bs, 1, none⟩ = some (.int .i64 P) := heap_cell hs5 1
  have t2 : w5.cell? ⟨bs, 2, none⟩ = some (.int .i64 E) := heap_cell hs5 2
  have hcE : (c' == 0) = A.isSome := by rcases hA with ⟨_, rfl, a, rfl⟩ | ⟨_, rfl, rfl⟩ <;> rfl
  rcases hA with ⟨_, rfl, a, rfl⟩ | ⟨_, rfl, rfl⟩
  all_goals
    go_wp2_with fail
    go_region_held (fun w' => w'.cell? ⟨bs, 0, none⟩ = some (.int .i64 B) ∧ w'.cell? ⟨bs, 1, none⟩ = some (.int .i64 P) ∧ w'.cell? ⟨bs, 2, none⟩ = some (.int .i64 E)) (first | exact ⟨t0, t1, t2⟩ | exact ⟨m6.cell (p := ⟨bs, 0, none⟩) t0 id, m6.cell (p := ⟨bs, 1, none⟩) t1 id, m6.cell (p := ⟨bs, 2, none⟩) t2 id⟩) (first | (go_at_call 11; refine (shape_get _ hF.drew).mono ?_; rintro e w6 ⟨rfl, m6⟩))
    all_goals go_wp2_with fail
    have hF6 := hF.drew.mods m6 id id id
    have hM6 := hM5.drew.no m6
    refine (prog_any 0 0 data _ hF6 (newFlash_wf hok)).mono ?_
    generalize (newFlash B P E).prog 0 0 data = X at hpr ⊢
    rintro e w7 ⟨rfl, hF7, m7⟩
    rw [hpr]
    have hM7 : Mods No W w7 := hM6.trans m7 (fun i h => .inr (by rcases h with h | h | h <;> omega))
    clear hF hF6 hF7 m6 m7 hM6 hM5 hpr t0 t1 t2 hs5
    by_cases h64 : data.size = 64
    · have e1 : ((data.size : Int) == 64) = true := by simp [h64]
      rw [if_pos h64]
      clear h64
      go_wp2_with fail
      refine (awake_any _).mono ?_
      rintro e w9 ⟨rfl, hb⟩
      go_wp2
      go_ret
      exact ⟨rfl, (hM7.toBelow (fun _ h => h.elim) (Nat.le_refl _)).trans (hb.mono hM7.size)⟩
    · have e1 : ((data.size : Int) == 64) = false := by simp; omega
      rw [if_neg h64]
      clear h64
      go_wp2_with fail
      refine (awake_any _).mono ?_
      rintro e w9 ⟨rfl, hb⟩
      go_wp2
      go_ret
      exact ⟨rfl, (hM7.toBelow (fun _ h => h.elim) (Nat.le_refl _)).trans (hb.mono hM7.size)⟩

theorem new_row (x0 : Int) (_ : -9223372036854775808 ≤ x0 ∧ x0 < 9223372036854775808) (y0 : Int) (_ : -9223372036854775808 ≤ y0 ∧ y0 < 9223372036854775808) (z0 : Int) (_ : -9223372036854775808 ≤ z0 ∧ z0 < 9223372036854775808)
    (data : ByteArray) (hd : data.size ≤ 140737488351232) {W : World} :
    Calls Try.prog 3 #[.agg #[.int .i64 x0, .int .i64 y0, .int .i64 z0], .string data] W fun e w' => e = .returned (.bool true) ∧ Below W.heap.size W w' := new_walk x0 y0 z0 data hd W
end Go.Proofs.Ytachkcoilhlggaa
