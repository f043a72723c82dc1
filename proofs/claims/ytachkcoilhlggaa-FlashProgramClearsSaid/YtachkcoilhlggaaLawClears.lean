/- The walk over the statement FlashProgramClears. -/
import Derived.Test.YtachkcoilhlggaaPl3
set_option linter.unusedVariables false
set_option linter.unusedSimpArgs false
namespace Go.Proofs.Ytachkcoilhlggaa
open Go.RowKit Go.PF

set_option maxHeartbeats 1000000 in
set_option maxRecDepth 100000 in
theorem clears_walk (x0 y0 z0 : Int) (A : Option Addr) (len cap : Nat) (l : List CallD) (a : CallD) (ha : a.WF) (W : World) (hl : l.length = len) (hg : ∀ c ∈ l, c.WF) (hlc : len ≤ cap) (hcap : cap ≤ 9223372036854775807) (hS : Sl W 7 A len (l.flatMap cCells)) :
    Calls Try.prog 4 #[.agg #[.int .i64 x0, .int .i64 y0, .int .i64 z0], .slice A len cap, .agg #[.int .i64 a.kind, .int .i64 a.block, .int .i64 a.page, .int .u64 a.data, .int .u64 a.torn, .bool a.and, .bool a.raw]] W fun e w' => e = .returned (.bool true) ∧ Below W.heap.size W w' := by
  by_cases h60 : (20 : Int) < len
  · go_enter Try.func4, Try.ntmps4
    go_wp2_with fail
    refine (awake_any _).mono ?_
    rintro e w1 ⟨rfl, hb⟩
    go_wp2
    go_ret
    refine ⟨rfl, ?_⟩
    exact (((Below.refl _ _).alloc (Nat.le_refl _) _).alloc (by simp) _).trans (hb.mono (by simp; omega))
  · have h1 := modU_range x0 (n := 3) (by omega)
    have h2 := modU_range y0 (n := 3) (by omega)
    have h3 := modU_range z0 (n := 6) (by omega)
    obtain ⟨B, hB⟩ : ∃ B : Nat, (B : Int) = 1 + modU x0 3 := ⟨(1 + modU x0 3).toNat, by omega⟩
    obtain ⟨P, hP⟩ : ∃ P : Nat, (P : Int) = 1 + modU y0 3 := ⟨(1 + modU y0 3).toNat, by omega⟩
    obtain ⟨E, hE⟩ : ∃ E : Int, E = modU z0 6 := ⟨_, rfl⟩
    have hsh := fun w => shape_any x0 y0 z0 w
    rw [← hB, ← hP, ← hE] at hsh
    have hB1 : 1 ≤ B ∧ B ≤ 3 := by omega
    have hP1 : 1 ≤ P ∧ P ≤ 3 := by omega
    have hE1 : 0 ≤ E ∧ E ≤ 5 := by omega
    have hok : okShape B P E := by unfold okShape; omega
    clear h1 h2 h3 hB hP hE
    obtain ⟨ar, har⟩ : ∃ ar : CallD, ar = ⟨a.kind, a.block, a.page, a.data, a.torn, a.and, false⟩ := ⟨_, rfl⟩
    have hAT0 := fun V => at_call ar B P E V (by omega) (by omega)
    have harw : ar.WF := by rw [har]; exact ⟨ha.d, ha.t⟩
    have hDT0 := fun was V (hs : was.size ≤ 1048576) => data_any ar was V harw hs
    have hab0 : atB ar B = modU a.block B := by rw [har]; rfl
    have hap0 : atP ar P = modU a.page P := by rw [har]; rfl
    rw [hab0, hap0] at hAT0
    rw [har] at hAT0 hDT0
    have hbi := modU_range a.block (n := (B : Int)) (by omega)
    have hpi := modU_range a.page (n := (P : Int)) (by omega)
    obtain ⟨bi, hbie⟩ : ∃ x, modU a.block B = x := ⟨_, rfl⟩
    obtain ⟨pi, hpie⟩ : ∃ x, modU a.page P = x := ⟨_, rfl⟩
    rw [hbie] at hAT0 hbi
    rw [hpie] at hAT0 hpi
    clear hab0 hap0 hbie hpie
    go_enter Try.func4, Try.ntmps4
    go_wp2_with fail
    obtain ⟨bc, hbc⟩ : ∃ bc, W.heap.size + 1 = bc := ⟨_, rfl⟩
    have hc0 : ((W.alloc (.cells #[.int .i64 x0, .int .i64 y0, .int .i64 z0] 23)).alloc (.cells #[.int .i64 a.kind, .int .i64 a.block, .int .i64 a.page, .int .u64 a.data, .int .u64 a.torn, .bool a.and, .bool a.raw] 39)).heap[bc]? = some (.cells #[.int .i64 a.kind, .int .i64 a.block, .int .i64 a.page, .int .u64 a.data, .int .u64 a.torn, .bool a.and, .bool a.raw] 39 (0, 0)) := by
      have := heap_alloc_new (W.alloc (.cells #[.int .i64 x0, .int .i64 y0, .int .i64 z0] 23)) (.cells #[.int .i64 a.kind, .int .i64 a.block, .int .i64 a.page, .int .u64 a.data, .int .u64 a.torn, .bool a.and, .bool a.raw] 39)
      rwa [show (W.alloc (.cells #[.int .i64 x0, .int .i64 y0, .int .i64 z0] 23)).heap.size = bc by rw [World.size_alloc]; exact hbc] at this
    have hm0 : Mods No W ((W.alloc (.cells #[.int .i64 x0, .int .i64 y0, .int .i64 z0] 23)).alloc (.cells #[.int .i64 a.kind, .int .i64 a.block, .int .i64 a.page, .int .u64 a.data, .int .u64 a.torn, .bool a.and, .bool a.raw] 39)) := ((Mods.refl No W).alloc _).alloc _
    generalize ((W.alloc (.cells #[.int .i64 x0, .int .i64 y0, .int .i64 z0] 23)).alloc (.cells #[.int .i64 a.kind, .int .i64 a.block, .int .i64 a.page, .int .u64 a.data, .int .u64 a.torn, .bool a.and, .bool a.raw] 39)) = W2 at hc0 hm0 ⊢
    rw [hbc]
    refine (hsh _).mono ?_
    rintro e w1 ⟨rfl, m1⟩
    have hc1 := m1.heap hc0 id
    have hm1 := hm0.no m1
    go_wp2_with fail
    have hcA := heap_old hc1 (.cells #[.int .i64 B, .int .i64 P, .int .i64 E] 23)
    have hsA := heap_alloc_new w1 (.cells #[.int .i64 B, .int .i64 P, .int .i64 E] 23)
    have hmA := hm1.alloc (.cells #[.int .i64 B, .int .i64 P, .int .i64 E] 23)
    have lbc : bc < w1.heap.size := heap_lt hc1
    have hWB : W.heap.size ≤ w1.heap.size := hm1.size
    generalize w1.heap.size = bs at hsA lbc hWB ⊢
    generalize w1.alloc (.cells #[.int .i64 B, .int .i64 P, .int .i64 E] 23) = w1' at hcA hsA hmA ⊢
    have lbs : bs < w1'.heap.size := heap_lt hsA
    refine (new_ok B P E _ hok).mono ?_
    rintro e w2 ⟨b, gp, cp, ge, ce, rfl, hF, m2, g1, g2, g3⟩
    have hs2 := m2.heap hsA id
    have hc2 := m2.heap hcA id
    have hm2 := hmA.no m2
    have a0 : w2.cell? ⟨bc, 0, none⟩ = some (.int .i64 a.kind) := heap_cell hc2 0
    have a1 : w2.cell? ⟨bc, 1, none⟩ = some (.int .i64 a.block) := heap_cell hc2 1
    have a2 : w2.cell? ⟨bc, 2, none⟩ = some (.int .i64 a.page) := heap_cell hc2 2
    have a3 : w2.cell? ⟨bc, 3, none⟩ = some (.int .u64 a.data) := heap_cell hc2 3
    have a4 : w2.cell? ⟨bc, 4, none⟩ = some (.int .u64 a.torn) := heap_cell hc2 4
    have a5 : w2.cell? ⟨bc, 5, none⟩ = some (.bool a.and) := heap_cell hc2 5
    have t0 : w2.cell? ⟨bs, 0, none⟩ = some (.int .i64 B) := heap_cell hs2 0
    have t1 : w2.cell? ⟨bs, 1, none⟩ = some (.int .i64 P) := heap_cell hs2 1
    have t2 : w2.cell? ⟨bs, 2, none⟩ = some (.int .i64 E) := heap_cell hs2 2
    have u0 : w2.cell? ⟨bc, 6, none⟩ = some (.bool a.raw) := heap_cell hc2 6
    have u1 : w2.frozen? ⟨bc, 6, none⟩ = false := heap_free hc2 6
    go_wp2_with fail
    have nb1 : ¬ FlF b gp ge bc := by rintro (h | h | h) <;> omega
    have nb2 : ¬ FlF b gp ge bs := by rintro (h | h | h) <;> omega
    have ms : Mods (One bc) w2 (w2.setCell ⟨bc, 6, none⟩ (.bool false)) := mods1 _ _ _ _
    have hF3 := hF.mods ms (by rintro rfl; exact nb1 (.inl rfl)) (by rintro rfl; exact nb1 (.inr (.inl rfl))) (by rintro rfl; exact nb1 (.inr (.inr rfl)))
    have hs3 := ms.heap hs2 (by show ¬ _ = _; omega)
    have hc3 : (w2.setCell ⟨bc, 6, none⟩ (.bool false)).heap[bc]? = _ := heap_set hc2 (.bool false)
    have hm3 := hm2.trans ms (fun i h => .inr (by cases h; omega))
    generalize w2.setCell ⟨bc, 6, none⟩ (.bool false) = w3 at hF3 hs3 hc3 hm3 ⊢
    clear ms a0 a1 a2 a3 a4 a5 t0 t1 t2 hF hs2 hc2 hm2 u0 u1 m2 hcA hsA hmA m1 hc1 hm1 hc0 hm0
    have hc3' : w3.heap[bc]? = some (.cells #[.int .i64 a.kind, .int .i64 a.block, .int .i64 a.page, .int .u64 a.data, .int .u64 a.torn, .bool a.and, .bool false] 39 (0, 0)) := by rw [hc3]; simp
    refine (hAT0 _).mono ?_
    rintro e w4 ⟨rfl, m4⟩
    have hF4 := hF3.mods m4 id id id
    have hs4 := m4.heap hs3 id
    have hc4 := m4.heap hc3' id
    have hm4 := hm3.no m4
    clear hc3 hc3' hF3 hs3 hm3 m4
    have hwear0 : Wear (newFlash B P E) B P E := ⟨newFlash_wf hok, rfl, rfl, rfl, rfl, rfl⟩
    go_wp2_with fail
    go_loopw [12] (fun q wr => ∃ k : Nat, k ≤ len ∧ q = .int .i64 k ∧ ∃ s : FlashS, Wear s B P E ∧ FlashAt wr b gp cp ge ce s ∧ wr.heap[bc]? = some (.cells #[.int .i64 a.kind, .int .i64 a.block, .int .i64 a.page, .int .u64 a.data, .int .u64 a.torn, .bool a.and, .bool false] 39 (0, 0)) ∧ wr.heap[bs]? = some (.cells #[.int .i64 B, .int .i64 P, .int .i64 E] 23 (0, 0)) ∧ Mods No W wr) (fun q _ => len - (intOf q).toNat)
    case atStart => exact ⟨0, Nat.zero_le _, rfl, _, hwear0, hF4, hc4, hs4, hm4⟩
    case round =>
      obtain ⟨k, hk, rfl, s, hwe, hF, hca, hsb, hM⟩ := hrel
      clear hF4 hc4 hs4 hm4 hwear0
      by_cases hlt : k < len
      · obtain ⟨g, o, rfl, hcc⟩ := hS.2.2 (by omega)
        obtain ⟨c, hc⟩ := some_at (l := l) (i := k) (by omega)
        have hcw := hg c (List.mem_of_getElem? hc)
        have ec : ∀ j, j < 7 → ∀ u, (cCells c)[j]? = some u → wr.cell? ⟨g, o + (k * 7 + j), none⟩ = some u := fun j hj u hu => hM.cell (hcc _ _ (by rw [flat_get cCells 7 (fun _ => rfl) l k j hj, hc]; exact hu)) id
        have e0 : wr.cell? ⟨g, o + k * 7, none⟩ = some (.int .i64 c.kind) := ec 0 (by omega) _ rfl
        have e1 : wr.cell? ⟨g, o + k * 7 + 1, none⟩ = some (.int .i64 c.block) := ec 1 (by omega) _ rfl
        have e2 : wr.cell? ⟨g, o + k * 7 + 2, none⟩ = some (.int .i64 c.page) := ec 2 (by omega) _ rfl
        have e3 : wr.cell? ⟨g, o + k * 7 + 3, none⟩ = some (.int .u64 c.data) := ec 3 (by omega) _ rfl
        have e4 : wr.cell? ⟨g, o + k * 7 + 4, none⟩ = some (.int .u64 c.torn) := ec 4 (by omega) _ rfl
        have e5 : wr.cell? ⟨g, o + k * 7 + 5, none⟩ = some (.bool c.and) := ec 5 (by omega) _ rfl
        have e6 : wr.cell? ⟨g, o + k * 7 + 6, none⟩ = some (.bool c.raw) := ec 6 (by omega) _ rfl
        clear ec hcc
        have hkl : (k : Int) < len := by omega
        have t0 : wr.cell? ⟨bs, 0, none⟩ = some (.int .i64 B) := heap_cell hsb 0
        have t1 : wr.cell? ⟨bs, 1, none⟩ = some (.int .i64 P) := heap_cell hsb 1
        have t2 : wr.cell? ⟨bs, 2, none⟩ = some (.int .i64 E) := heap_cell hsb 2
        have lbs : bs < wr.heap.size := heap_lt hsb
        have lbc : bc < wr.heap.size := heap_lt hca
        have lb0 : W.heap.size ≤ wr.heap.size := hM.size
        have l1 := hF.lt b (.inl rfl)
        have l2 := hF.lt gp (.inr (.inl rfl))
        have l3 := hF.lt ge (.inr (.inr rfl))
        go_wp2_with fail
        refine (mod_any _ _ _ (by decide) (by decide)).mono ?_
        rintro e w4 ⟨rfl, rfl⟩
        go_wp2_with fail
        obtain ⟨d, hd⟩ : ∃ d : CallD, d = ⟨modU c.kind 7, c.block, c.page, c.data, c.torn, c.and, false⟩ := ⟨_, rfl⟩
        have hdw : d.WF := by rw [hd]; exact ⟨hcw.d, hcw.t⟩
        have hAT := fun V => at_call d B P E V (by omega) (by omega)
        have hDO := fun (s : FlashS) (was : ByteArray) V (hF : FlashAt V b gp cp ge ce s) (hw : s.WF) (hs : was.size ≤ 1048576) => do_any d B P E was V hF hw hdw (by omega) (by omega) hs
        have hab : atB d B = modU c.block B := by rw [hd]; rfl
        have hap : atP d P = modU c.page P := by rw [hd]; rfl
        rw [hab, hap] at hAT
        have hi := modU_range c.block (n := (B : Int)) (by omega)
        have hk2 := modU_range c.page (n := (P : Int)) (by omega)
        have hkr := modU_range c.kind (n := 7) (by omega)
        have hWD := fun was => hwe.do (by omega) d (by rw [hd]; exact ⟨hkr.1, hkr.2⟩) (by rw [hab]; exact hi) was
        rw [hd] at hAT hDO hWD
        obtain ⟨bI, hbI⟩ : ∃ x, modU c.block B = x := ⟨_, rfl⟩
        obtain ⟨pI, hpI⟩ : ∃ x, modU c.page P = x := ⟨_, rfl⟩
        obtain ⟨K, hK⟩ : ∃ x, modU c.kind 7 = x := ⟨_, rfl⟩
        have hV := heap_alloc_new wr (.cells #[.int .i64 (modU c.kind 7), .int .i64 c.block, .int .i64 c.page, .int .u64 c.data, .int .u64 c.torn, .bool c.and, .bool false] 39)
        have hFV := hF.alloc (.cells #[.int .i64 (modU c.kind 7), .int .i64 c.block, .int .i64 c.page, .int .u64 c.data, .int .u64 c.torn, .bool c.and, .bool false] 39)
        have hcV := heap_old hca (.cells #[.int .i64 (modU c.kind 7), .int .i64 c.block, .int .i64 c.page, .int .u64 c.data, .int .u64 c.torn, .bool c.and, .bool false] 39)
        have hsV := heap_old hsb (.cells #[.int .i64 (modU c.kind 7), .int .i64 c.block, .int .i64 c.page, .int .u64 c.data, .int .u64 c.torn, .bool c.and, .bool false] 39)
        have hMV := hM.alloc (.cells #[.int .i64 (modU c.kind 7), .int .i64 c.block, .int .i64 c.page, .int .u64 c.data, .int .u64 c.torn, .bool c.and, .bool false] 39)
        rw [hbI, hpI] at hAT
        rw [hbI] at hi
        rw [hpI] at hk2
        rw [hK] at hAT hDO hWD hkr hV hFV hcV hsV hMV ⊢
        generalize wr.heap.size = bd at hV lbs lbc lb0 l1 l2 l3 ⊢
        generalize wr.alloc (.cells #[.int .i64 K, .int .i64 c.block, .int .i64 c.page, .int .u64 c.data, .int .u64 c.torn, .bool c.and, .bool false] 39) = V at hV hFV hcV hsV hMV ⊢
        clear e0 e1 e2 e3 e4 e5 e6 t0 t1 t2 hF hca hsb hM hd
        refine (hAT _).mono ?_
        rintro e v1 ⟨rfl, m1⟩
        have hF1 := hFV.mods m1 id id id
        have hc1 := m1.heap hcV id
        have hs1 := m1.heap hsV id
        have hd1 := m1.heap hV id
        have hM1 := hMV.no m1
        clear hFV hcV hsV hV hMV
        go_wp2_with fail
        refine (read_any bI pI _ hF1 hwe.wf).mono ?_
        rintro e v2 ⟨rfl, n2, rfl⟩
        have hF2 := hF1.drewN n2
        have d0 : v1.cell? ⟨bd, 0, none⟩ = some (.int .i64 K) := heap_cell hd1 0
        have d1 : v1.cell? ⟨bd, 1, none⟩ = some (.int .i64 c.block) := heap_cell hd1 1
        have d2 : v1.cell? ⟨bd, 2, none⟩ = some (.int .i64 c.page) := heap_cell hd1 2
        have d3 : v1.cell? ⟨bd, 3, none⟩ = some (.int .u64 c.data) := heap_cell hd1 3
        have d4 : v1.cell? ⟨bd, 4, none⟩ = some (.int .u64 c.torn) := heap_cell hd1 4
        have d5 : v1.cell? ⟨bd, 5, none⟩ = some (.bool c.and) := heap_cell hd1 5
        have d6 : v1.cell? ⟨bd, 6, none⟩ = some (.bool false) := heap_cell hd1 6
        have t0 : v1.cell? ⟨bs, 0, none⟩ = some (.int .i64 B) := heap_cell hs1 0
        have t1 : v1.cell? ⟨bs, 1, none⟩ = some (.int .i64 P) := heap_cell hs1 1
        have t2 : v1.cell? ⟨bs, 2, none⟩ = some (.int .i64 E) := heap_cell hs1 2
        go_wp2_with fail
        have hwz : (s.read bI pI).1.size ≤ 1048576 := by
          unfold FlashS.read
          rw [hwe.chk hi hk2, if_pos rfl]
          have := (page_of hwe.wf (i := bI) (k := pI) (by rw [hwe.nb]; exact hi) (by rw [hwe.np]; exact hk2)).2.2
          show (s.page bI pI).size ≤ _
          omega
        refine (hDO s (s.read bI pI).1 _ hF2 hwe.wf hwz).mono ?_
        have hwd := hWD (s.read bI pI).1
        generalize s.doM ⟨K, c.block, c.page, c.data, c.torn, c.and, false⟩ B P (s.read bI pI).1 = X at hwd ⊢
        rintro e v3 ⟨rfl, hF3, m3⟩
        have hm3 : Mods (FlF b gp ge) v1 v3 := ((Mods.refl (FlF b gp ge) v1).drewN n2).trans m3 (fun _ h => .inl h)
        have hs3 : v3.heap[bs]? = _ := hm3.heap hs1 nb2
        have hc3 : v3.heap[bc]? = _ := hm3.heap hc1 nb1
        have hM3 : Mods No W v3 := hM1.trans hm3 (fun i h => .inr (by rcases h with h | h | h <;> omega))
        go_wp2
        go_roundw
        case rel => exact ⟨k + 1, by omega, by go_num, X.2, hwd, hF3, hc3, hs3, hM3⟩
        case measure => simp [intOf]; omega
      · obtain rfl : k = len := by omega
        have hkl : ¬ (k : Int) < k := by omega
        go_wp2_with fail
        have hrd := hwe.read_page hbi hpi
        refine (read_any bi pi _ hF hwe.wf).mono ?_
        rw [hrd.1]
        rintro e v2 ⟨rfl, n2, rfl⟩
        have hpgs := hrd.2
        obtain ⟨dt, hdt⟩ : ∃ dt, dataS ⟨a.kind, a.block, a.page, a.data, a.torn, a.and, false⟩ (s.page bi pi) = dt := ⟨_, rfl⟩
        have hdts : dt.size = 64 := by rw [← hdt]; exact dataS_size _ _
        obtain ⟨hv, s', hpr, hwe', hoth, hcase⟩ := hwe.prog_case hbi hpi hdts
        have hDT := fun V => hDT0 (s.page bi pi) V (by omega)
        rw [hdt] at hDT
        have hPR := fun V (hF : FlashAt V b gp cp ge ce s) => prog_any bi pi dt V hF hwe.wf
        rw [hpr] at hPR
        have hRD2 := fun V (hF : FlashAt V b gp cp ge ce s') => read_any bi pi V hF hwe'.wf
        rw [(hwe'.read_page hbi hpi).1] at hRD2
        have hRO : ∀ p2 : Int, 0 ≤ p2 ∧ p2 < (P : Int) → ∀ V (hF : FlashAt V b gp cp ge ce s), Calls Try.prog 16 #[.pointer (some ⟨b, 0, none⟩), .int .i64 bi, .int .i64 p2] V fun e w' => e = .returned (.tuple #[.string (s.page bi p2), .int .i64 0]) ∧ ∃ n, V.drewN n = w' := fun p2 h2 V hF => by
          have := read_any bi p2 V hF hwe.wf
          rwa [(hwe.read_page hbi h2).1] at this
        have hRO2 : ∀ p2 : Int, 0 ≤ p2 ∧ p2 < (P : Int) → ∀ V (hF : FlashAt V b gp cp ge ce s'), Calls Try.prog 16 #[.pointer (some ⟨b, 0, none⟩), .int .i64 bi, .int .i64 p2] V fun e w' => e = .returned (.tuple #[.string (s'.page bi p2), .int .i64 0]) ∧ ∃ n, V.drewN n = w' := fun p2 h2 V hF => by
          have := read_any bi p2 V hF hwe'.wf
          rwa [(hwe'.read_page hbi h2).1] at this
        obtain ⟨now, hnow⟩ : ∃ now, s'.page bi pi = now := ⟨_, rfl⟩
        obtain ⟨pg, hpg⟩ : ∃ pg, s.page bi pi = pg := ⟨_, rfl⟩
        rw [hnow] at hRD2 hcase
        rw [hpg] at hcase hpgs hDT ⊢
        have HC : Hid ((clearsB pg dt = true ∧ hv = 0 ∧ now = dt) ∨ (clearsB pg dt = false ∧ hv = 9 ∧ now = pg)) := hcase
        have HO : Hid (∀ k' : Int, 0 ≤ k' ∧ k' < (P : Int) → k' ≠ pi → s'.page bi k' = s.page bi k') := hoth
        clear hcase hoth hnow hpg hrd hpr hdt
        have a0 : wr.cell? ⟨bc, 0, none⟩ = some (.int .i64 a.kind) := heap_cell hca 0
        have a1 : wr.cell? ⟨bc, 1, none⟩ = some (.int .i64 a.block) := heap_cell hca 1
        have a2 : wr.cell? ⟨bc, 2, none⟩ = some (.int .i64 a.page) := heap_cell hca 2
        have a3 : wr.cell? ⟨bc, 3, none⟩ = some (.int .u64 a.data) := heap_cell hca 3
        have a4 : wr.cell? ⟨bc, 4, none⟩ = some (.int .u64 a.torn) := heap_cell hca 4
        have a5 : wr.cell? ⟨bc, 5, none⟩ = some (.bool a.and) := heap_cell hca 5
        have a6 : wr.cell? ⟨bc, 6, none⟩ = some (.bool false) := heap_cell hca 6
        go_wp2_with fail
        refine (hDT _).mono ?_
        rintro e v3 ⟨rfl, m3⟩
        have hF3 := (hF.drewN n2).mods m3 id id id
        have hs3 : v3.heap[bs]? = _ := m3.heap (w := wr.drewN n2) hsb id
        have hM3 := (hM.drewN n2).no m3
        clear a0 a1 a2 a3 a4 a5 a6 hF hsb hca hM m3
        go_wp2_with fail
        refine (fill_any 1 _).mono ?_
        rintro e v4 ⟨rfl, m4⟩
        have hF4 := hF3.mods m4 id id id
        have hs4 := m4.heap hs3 id
        have hM4 := hM3.no m4
        clear hF3 hs3 hM3 m4
        have t1 : v4.cell? ⟨bs, 1, none⟩ = some (.int .i64 P) := heap_cell hs4 1
        by_cases hPm : (1 : Int) < P
        · have hp2 : (pi + 1).tmod P = (pi + 1) % P := Int.tmod_eq_emod_of_nonneg (by omega)
          have hp3 : 0 ≤ (pi + 1) % P ∧ (pi + 1) % P < P := ⟨Int.emod_nonneg _ (by omega), Int.emod_lt_of_pos _ (by omega)⟩
          have hp4 : (pi + 1) % P ≠ pi := by
            intro e
            by_cases q : pi + 1 < P
            · rw [Int.emod_eq_of_lt (by omega) q] at e; omega
            · have : pi + 1 = P := by omega
              rw [this, Int.emod_self] at e; omega
          obtain ⟨p2, hp2e⟩ : ∃ p2, (pi + 1) % P = p2 := ⟨_, rfl⟩
          rw [hp2e] at hp2 hp3 hp4
          have hpw : IntKind.i64.wrap (pi + 1) = pi + 1 := w64 (by omega) (by omega)
          have hpw2 : IntKind.i64.wrap p2 = p2 := w64 (by omega) (by omega)
          have hP0 : ((P : Int) == 0) = false := by simp; omega
          go_wp2_with fail
          refine (hRO p2 hp3 _ hF4).mono ?_
          rintro e v5 ⟨rfl, n5, rfl⟩
          have hF5 := hF4.drewN n5
          go_wp2_with fail
          refine (hPR _ hF5).mono ?_
          rintro e v6 ⟨rfl, hF6, m6⟩
          have hs6 : v6.heap[bs]? = _ := m6.heap (w := v4.drewN n5) hs4 nb2
          have hM6 : Mods No W v6 := (hM4.drewN n5).trans m6 (fun i h => .inr (by rcases h with h | h | h <;> omega))
          clear t1 hs4 hM4 hF4 m6
          go_wp2_with fail
          refine (hRD2 _ hF6).mono ?_
          rintro e v7 ⟨rfl, n7, rfl⟩
          have hF7 := hF6.drewN n7
          have hs7 : (v6.drewN n7).heap[bs]? = _ := hs6
          have hM7 := hM6.drewN n7
          clear hF6 hs6 hM6
          generalize v6.drewN n7 = v8 at hF7 hs7 hM7 ⊢
          have hz1 : ((pg.size : Int) != 64) = false := by simp [hpgs]
          go_wp2_with fail
          go_loopw [25, 26] (fun c q wr => ∃ k : Nat, k ≤ 64 ∧ q = .int .i64 k ∧ c = .bool ((List.range k).all fun i => Go.bits .andNot .u8 (byt dt i) (byt pg i) == 0) ∧ ∃ n, v8.drewN n = wr) (fun c q _ => 64 - (intOf q).toNat)
          case atStart => exact ⟨0, Nat.zero_le _, rfl, rfl, 0, rfl⟩
          case round =>
            obtain ⟨q, hq, rfl, rfl, n9, rfl⟩ := hrel
            have HS : Hid (((List.range (q + 1)).all fun i => Go.bits .andNot .u8 (byt dt i) (byt pg i) == 0) = (((List.range q).all fun i => Go.bits .andNot .u8 (byt dt i) (byt pg i) == 0) && (Go.bits .andNot .u8 (byt dt q) (byt pg q) == 0))) := by
              show _ = _
              rw [List.range_succ, List.all_append]
              simp
            by_cases hlt2 : q < 64
            · have hq1 : (q : Int) < pg.size := by omega
              obtain ⟨z, hz⟩ : ∃ z, (Go.bits .andNot .u8 (byt dt q) (byt pg q) == 0) = z := ⟨_, rfl⟩
              have hb' : ∀ h1 h2, (Go.bits .andNot .u8 (((dt[q]'h1).toNat : Nat) : Int) (((pg[q]'h2).toNat : Nat) : Int) == 0) = z := fun h1 h2 => by rw [byt_at, byt_at]; exact hz
              have HS2 : Hid (((List.range (q + 1)).all fun i => Go.bits .andNot .u8 (byt dt i) (byt pg i) == 0) = (((List.range q).all fun i => Go.bits .andNot .u8 (byt dt i) (byt pg i) == 0) && z)) := by show _ = _; rw [HS.out, hz]
              clear HS hz
              generalize ((List.range q).all fun i => Go.bits .andNot .u8 (byt dt i) (byt pg i) == 0) = cl at HS2 ⊢
              cases cl
              · go_wp2_with fail
                go_quiet (fail)
                go_wp2
                go_roundw
                case rel => exact ⟨q + 1, by omega, by go_num, by rw [HS2.out]; rfl, _, rfl⟩
                case measure => simp [intOf]; omega
              · go_wp2_with fail
                go_quiet (fail)
                go_wp2
                go_roundw
                case rel => exact ⟨q + 1, by omega, by go_num, by rw [HS2.out]; simp, _, rfl⟩
                case measure => simp [intOf]; omega
            · obtain rfl : q = 64 := by omega
              have hq1 : ¬ (((64 : Nat) : Int) < pg.size) := by omega
              have HCL : Hid (((List.range 64).all fun i => Go.bits .andNot .u8 (byt dt i) (byt pg i) == 0) = clearsB pg dt) := by show _ = _; unfold clearsB; rw [hdts]
              rw [HCL.out]
              have t3 : v8.cell? ⟨bs, 1, none⟩ = some (.int .i64 P) := heap_cell hs7 1
              obtain ⟨so, hso⟩ : ∃ so, s'.page bi p2 = so := ⟨_, rfl⟩
              have hsb : s.page bi p2 = so := by rw [← hso, HO.out p2 hp3 hp4]
              have hrR := hRO2 p2 hp3
              rw [hso] at hrR
              rw [hsb]
              have HPX : Hid (so = so) := rfl
              clear hso hsb
              go_wp2_with fail
              refine (hrR _ (hF7.drewN _)).mono ?_
              rintro e v10 ⟨rfl, n10, rfl⟩
              rcases HC.out with ⟨q1, rfl, rfl⟩ | ⟨q1, rfl, rfl⟩
              all_goals
                rw [q1]
                have hMf : Mods No W (v8.drewN (n9 + n10)) := hM7.drewN _
                clear q1 HC
                go_wp2_with fail
                refine (awake_any _).mono ?_
                rintro e w9 ⟨rfl, hb⟩
                go_wp2
                go_ret
                exact ⟨rfl, (hMf.toBelow (fun _ h => h.elim) (Nat.le_refl _)).trans (hb.mono hMf.size)⟩
        · go_wp2_with fail
          refine (hPR _ hF4).mono ?_
          rintro e v6 ⟨rfl, hF6, m6⟩
          have hs6 : v6.heap[bs]? = _ := m6.heap hs4 nb2
          have hM6 : Mods No W v6 := hM4.trans m6 (fun i h => .inr (by rcases h with h | h | h <;> omega))
          clear t1 hs4 hM4 hF4 m6
          go_wp2_with fail
          refine (hRD2 _ hF6).mono ?_
          rintro e v7 ⟨rfl, n7, rfl⟩
          have hF7 := hF6.drewN n7
          have hs7 : (v6.drewN n7).heap[bs]? = _ := hs6
          have hM7 := hM6.drewN n7
          clear hF6 hs6 hM6
          generalize v6.drewN n7 = v8 at hF7 hs7 hM7 ⊢
          have hz1 : ((pg.size : Int) != 64) = false := by simp [hpgs]
          go_wp2_with fail
          go_loopw [25, 26] (fun c q wr => ∃ k : Nat, k ≤ 64 ∧ q = .int .i64 k ∧ c = .bool ((List.range k).all fun i => Go.bits .andNot .u8 (byt dt i) (byt pg i) == 0) ∧ ∃ n, v8.drewN n = wr) (fun c q _ => 64 - (intOf q).toNat)
          case atStart => exact ⟨0, Nat.zero_le _, rfl, rfl, 0, rfl⟩
          case round =>
            obtain ⟨q, hq, rfl, rfl, n9, rfl⟩ := hrel
            have HS : Hid (((List.range (q + 1)).all fun i => Go.bits .andNot .u8 (byt dt i) (byt pg i) == 0) = (((List.range q).all fun i => Go.bits .andNot .u8 (byt dt i) (byt pg i) == 0) && (Go.bits .andNot .u8 (byt dt q) (byt pg q) == 0))) := by
              show _ = _
              rw [List.range_succ, List.all_append]
              simp
            by_cases hlt2 : q < 64
            · have hq1 : (q : Int) < pg.size := by omega
              obtain ⟨z, hz⟩ : ∃ z, (Go.bits .andNot .u8 (byt dt q) (byt pg q) == 0) = z := ⟨_, rfl⟩
              have hb' : ∀ h1 h2, (Go.bits .andNot .u8 (((dt[q]'h1).toNat : Nat) : Int) (((pg[q]'h2).toNat : Nat) : Int) == 0) = z := fun h1 h2 => by rw [byt_at, byt_at]; exact hz
              have HS2 : Hid (((List.range (q + 1)).all fun i => Go.bits .andNot .u8 (byt dt i) (byt pg i) == 0) = (((List.range q).all fun i => Go.bits .andNot .u8 (byt dt i) (byt pg i) == 0) && z)) := by show _ = _; rw [HS.out, hz]
              clear HS hz
              generalize ((List.range q).all fun i => Go.bits .andNot .u8 (byt dt i) (byt pg i) == 0) = cl at HS2 ⊢
              cases cl
              · go_wp2_with fail
                go_quiet (fail)
                go_wp2
                go_roundw
                case rel => exact ⟨q + 1, by omega, by go_num, by rw [HS2.out]; rfl, _, rfl⟩
                case measure => simp [intOf]; omega
              · go_wp2_with fail
                go_quiet (fail)
                go_wp2
                go_roundw
                case rel => exact ⟨q + 1, by omega, by go_num, by rw [HS2.out]; simp, _, rfl⟩
                case measure => simp [intOf]; omega
            · obtain rfl : q = 64 := by omega
              have hq1 : ¬ (((64 : Nat) : Int) < pg.size) := by omega
              have HCL : Hid (((List.range 64).all fun i => Go.bits .andNot .u8 (byt dt i) (byt pg i) == 0) = clearsB pg dt) := by show _ = _; unfold clearsB; rw [hdts]
              rw [HCL.out]
              have t3 : v8.cell? ⟨bs, 1, none⟩ = some (.int .i64 P) := heap_cell hs7 1
              rcases HC.out with ⟨q1, rfl, rfl⟩ | ⟨q1, rfl, rfl⟩
              all_goals
                rw [q1]
                have hMf : Mods No W (v8.drewN n9) := hM7.drewN n9
                clear q1 HC
                go_wp2_with fail
                refine (awake_any _).mono ?_
                rintro e w9 ⟨rfl, hb⟩
                go_wp2
                go_ret
                exact ⟨rfl, (hMf.toBelow (fun _ h => h.elim) (Nat.le_refl _)).trans (hb.mono hMf.size)⟩

theorem clears_row (x0 : Int) (_ : -9223372036854775808 ≤ x0 ∧ x0 < 9223372036854775808) (y0 : Int) (_ : -9223372036854775808 ≤ y0 ∧ y0 < 9223372036854775808) (z0 : Int) (_ : -9223372036854775808 ≤ z0 ∧ z0 < 9223372036854775808)
    (A : Option Addr) (len cap : Nat) (l : List CallD) (hl : l.length = len) (hg : ∀ c ∈ l, c.WF) (hlc : len ≤ cap) (hcap : cap ≤ 9223372036854775807) {W : World} (hS : Sl W 7 A len (l.flatMap cCells)) 
    (k : Int) (_ : -9223372036854775808 ≤ k ∧ k < 9223372036854775808) (b : Int) (_ : -9223372036854775808 ≤ b ∧ b < 9223372036854775808) (p : Int) (_ : -9223372036854775808 ≤ p ∧ p < 9223372036854775808) (d : Int) (hd : 0 ≤ d ∧ d < 18446744073709551616) (t : Int) (ht : 0 ≤ t ∧ t < 18446744073709551616) (an ra : Bool) :
    Calls Try.prog 4 #[.agg #[.int .i64 x0, .int .i64 y0, .int .i64 z0], .slice A len cap, .agg #[.int .i64 k, .int .i64 b, .int .i64 p, .int .u64 d, .int .u64 t, .bool an, .bool ra]] W fun e w' => e = .returned (.bool true) ∧ Below W.heap.size W w' := clears_walk x0 y0 z0 A len cap l ⟨k, b, p, d, t, an, ra⟩ ⟨hd, ht⟩ W hl hg hlc hcap hS
end Go.Proofs.Ytachkcoilhlggaa
