/- The walk over the statement FlashRetry. -/
import Derived.Test.YtachkcoilhlggaaPl5
set_option linter.unusedVariables false
set_option linter.unusedSimpArgs false
namespace Go.Proofs.Ytachkcoilhlggaa
open Go.RowKit Go.PF

set_option maxHeartbeats 1000000 in
set_option maxRecDepth 100000 in
theorem retry_walk (x0 y0 z0 : Int) (A : Option Addr) (len cap : Nat) (l : List CallD) (a : CallD) (ha : a.WF) (er : Bool) (W : World) (hl : l.length = len) (hg : ∀ c ∈ l, c.WF) (hlc : len ≤ cap) (hcap : cap ≤ 9223372036854775807) (hS : Sl W 7 A len (l.flatMap cCells)) :
    Calls Try.prog 7 #[.agg #[.int .i64 x0, .int .i64 y0, .int .i64 z0], .slice A len cap, .agg #[.int .i64 a.kind, .int .i64 a.block, .int .i64 a.page, .int .u64 a.data, .int .u64 a.torn, .bool a.and, .bool a.raw], .bool er] W fun e w' => e = .returned (.bool true) ∧ Below W.heap.size W w' := by
  by_cases h60 : (20 : Int) < len
  · go_enter Try.func7, Try.ntmps7
    go_wp2_with fail
    refine (awake_any _).mono ?_
    rintro e w1 ⟨rfl, hb⟩
    go_wp2
    go_ret
    refine ⟨rfl, ?_⟩
    exact (((Below.refl _ _).alloc (Nat.le_refl _) _).alloc (by simp) _).trans (hb.mono (by simp; omega))
  · have h1 := modU_range x0 (n := 3) (by omega)
    have h2 := modU_range y0 (n := 3) (by omega)
    have h3 := modU_range z0 (n := 6) (by omega)
    obtain ⟨B, hB⟩ : ∃ B : Nat, (B : Int) = 1 + modU x0 3 := ⟨(1 + modU x0 3).toNat, by omega⟩
    obtain ⟨P, hP⟩ : ∃ P : Nat, (P : Int) = 1 + modU y0 3 := ⟨(1 + modU y0 3).toNat, by omega⟩
    obtain ⟨E0, hE⟩ : ∃ E0 : Int, E0 = modU z0 6 := ⟨_, rfl⟩
    have hsh := fun w => shape_any x0 y0 z0 w
    rw [← hB, ← hP, ← hE] at hsh
    have hB1 : 1 ≤ B ∧ B ≤ 3 := by omega
    have hP1 : 1 ≤ P ∧ P ≤ 3 := by omega
    have hE1 : 0 ≤ E0 ∧ E0 ≤ 5 := by omega
    have hok : okShape B P 40 := by unfold okShape; omega
    clear h1 h2 h3 hB hP hE
    obtain ⟨ar, har⟩ : ∃ ar : CallD, ar = ⟨a.kind, a.block, a.page, a.data, a.torn, true, false⟩ := ⟨_, rfl⟩
    have hAT0 := fun V => at_call ar B P 40 V (by omega) (by omega)
    have harw : ar.WF := by rw [har]; exact ⟨ha.d, ha.t⟩
    have hDT0 := fun was V (hs : was.size ≤ 1048576) => data_any ar was V harw hs
    have hab0 : atB ar B = modU a.block B := by rw [har]; rfl
    have hap0 : atP ar P = modU a.page P := by rw [har]; rfl
    rw [hab0, hap0] at hAT0
    rw [har] at hAT0 hDT0
    have hbi := modU_range a.block (n := (B : Int)) (by omega)
    have hpi := modU_range a.page (n := (P : Int)) (by omega)
    obtain ⟨bi, hbie⟩ : ∃ x, modU a.block B = x := ⟨_, rfl⟩
    obtain ⟨pi, hpie⟩ : ∃ x, modU a.page P = x := ⟨_, rfl⟩
    rw [hbie] at hAT0 hbi
    rw [hpie] at hAT0 hpi
    clear hab0 hap0 hbie hpie
    go_enter Try.func7, Try.ntmps7
    go_wp2_with fail
    obtain ⟨bc, hbc⟩ : ∃ bc, W.heap.size + 1 = bc := ⟨_, rfl⟩
    have hc0 : ((W.alloc (.cells #[.int .i64 x0, .int .i64 y0, .int .i64 z0] 23)).alloc (.cells #[.int .i64 a.kind, .int .i64 a.block, .int .i64 a.page, .int .u64 a.data, .int .u64 a.torn, .bool a.and, .bool a.raw] 39)).heap[bc]? = some (.cells #[.int .i64 a.kind, .int .i64 a.block, .int .i64 a.page, .int .u64 a.data, .int .u64 a.torn, .bool a.and, .bool a.raw] 39 (0, 0)) := by
      have := heap_alloc_new (W.alloc (.cells #[.int .i64 x0, .int .i64 y0, .int .i64 z0] 23)) (.cells #[.int .i64 a.kind, .int .i64 a.block, .int .i64 a.page, .int .u64 a.data, .int .u64 a.torn, .bool a.and, .bool a.raw] 39)
      rwa [show (W.alloc (.cells #[.int .i64 x0, .int .i64 y0, .int .i64 z0] 23)).heap.size = bc by rw [World.size_alloc]; exact hbc] at this
    have hm0 : Mods No W ((W.alloc (.cells #[.int .i64 x0, .int .i64 y0, .int .i64 z0] 23)).alloc (.cells #[.int .i64 a.kind, .int .i64 a.block, .int .i64 a.page, .int .u64 a.data, .int .u64 a.torn, .bool a.and, .bool a.raw] 39)) := ((Mods.refl No W).alloc _).alloc _
    generalize ((W.alloc (.cells #[.int .i64 x0, .int .i64 y0, .int .i64 z0] 23)).alloc (.cells #[.int .i64 a.kind, .int .i64 a.block, .int .i64 a.page, .int .u64 a.data, .int .u64 a.torn, .bool a.and, .bool a.raw] 39)) = W2 at hc0 hm0 ⊢
    rw [hbc]
    refine (hsh _).mono ?_
    rintro e w1 ⟨rfl, m1⟩
    have hc1 := m1.heap hc0 id
    have hm1 := hm0.no m1
    go_wp2_with fail
    have hcA := heap_old hc1 (.cells #[.int .i64 B, .int .i64 P, .int .i64 40] 23)
    have hsA := heap_alloc_new w1 (.cells #[.int .i64 B, .int .i64 P, .int .i64 40] 23)
    have hmA := hm1.alloc (.cells #[.int .i64 B, .int .i64 P, .int .i64 40] 23)
    have lbc : bc < w1.heap.size := heap_lt hc1
    have hWB : W.heap.size ≤ w1.heap.size := hm1.size
    generalize w1.heap.size = bs at hsA lbc hWB ⊢
    generalize w1.alloc (.cells #[.int .i64 B, .int .i64 P, .int .i64 40] 23) = w1' at hcA hsA hmA ⊢
    have lbs : bs < w1'.heap.size := heap_lt hsA
    refine (new_ok B P 40 _ hok).mono ?_
    rintro e w2 ⟨b, gp, cp, ge, ce, rfl, hF, m2, g1, g2, g3⟩
    have hs2 := m2.heap hsA id
    have hc2 := m2.heap hcA id
    have hm2 := hmA.no m2
    have nb1 : ¬ FlF b gp ge bc := by rintro (h | h | h) <;> omega
    have nb2 : ¬ FlF b gp ge bs := by rintro (h | h | h) <;> omega
    clear m2 hcA hsA hmA m1 hc1 hm1 hc0 hm0
    have hera0 : (newFlash B P 40).era bi ≤ (0 : Nat) := by
      unfold FlashS.era newFlash
      rw [if_pos (by simpa using hbi), List.getD, List.getElem?_replicate]
      split <;> simp
    have hwear0 : Wear (newFlash B P 40) B P 40 := ⟨newFlash_wf hok, rfl, rfl, rfl, rfl, rfl⟩
    go_wp2_with fail
    go_loopw [12] (fun q wr => ∃ k : Nat, k ≤ len ∧ q = .int .i64 k ∧ ∃ s : FlashS, Wear s B P 40 ∧ s.era bi ≤ k ∧ FlashAt wr b gp cp ge ce s ∧ wr.heap[bc]? = some (.cells #[.int .i64 a.kind, .int .i64 a.block, .int .i64 a.page, .int .u64 a.data, .int .u64 a.torn, .bool a.and, .bool a.raw] 39 (0, 0)) ∧ wr.heap[bs]? = some (.cells #[.int .i64 B, .int .i64 P, .int .i64 40] 23 (0, 0)) ∧ Mods No W wr) (fun q _ => len - (intOf q).toNat)
    case atStart => exact ⟨0, Nat.zero_le _, rfl, _, hwear0, hera0, hF, hc2, hs2, hm2⟩
    case round =>
      obtain ⟨k, hk, rfl, s, hwe, hera, hF, hca, hsb, hM⟩ := hrel
      clear hc2 hs2 hm2 hwear0 hera0
      by_cases hlt : k < len
      · obtain ⟨g, o, rfl, hcc⟩ := hS.2.2 (by omega)
        obtain ⟨c, hc⟩ := some_at (l := l) (i := k) (by omega)
        have hcw := hg c (List.mem_of_getElem? hc)
        have ec : ∀ j, j < 7 → ∀ u, (cCells c)[j]? = some u → wr.cell? ⟨g, o + (k * 7 + j), none⟩ = some u := fun j hj u hu => hM.cell (hcc _ _ (by rw [flat_get cCells 7 (fun _ => rfl) l k j hj, hc]; exact hu)) id
        have e0 : wr.cell? ⟨g, o + k * 7, none⟩ = some (.int .i64 c.kind) := ec 0 (by omega) _ rfl
        have e1 : wr.cell? ⟨g, o + k * 7 + 1, none⟩ = some (.int .i64 c.block) := ec 1 (by omega) _ rfl
        have e2 : wr.cell? ⟨g, o + k * 7 + 2, none⟩ = some (.int .i64 c.page) := ec 2 (by omega) _ rfl
        have e3 : wr.cell? ⟨g, o + k * 7 + 3, none⟩ = some (.int .u64 c.data) := ec 3 (by omega) _ rfl
        have e4 : wr.cell? ⟨g, o + k * 7 + 4, none⟩ = some (.int .u64 c.torn) := ec 4 (by omega) _ rfl
        have e5 : wr.cell? ⟨g, o + k * 7 + 5, none⟩ = some (.bool c.and) := ec 5 (by omega) _ rfl
        have e6 : wr.cell? ⟨g, o + k * 7 + 6, none⟩ = some (.bool c.raw) := ec 6 (by omega) _ rfl
        clear ec hcc
        have hkl : (k : Int) < len := by omega
        have t0 : wr.cell? ⟨bs, 0, none⟩ = some (.int .i64 B) := heap_cell hsb 0
        have t1 : wr.cell? ⟨bs, 1, none⟩ = some (.int .i64 P) := heap_cell hsb 1
        have t2 : wr.cell? ⟨bs, 2, none⟩ = some (.int .i64 40) := heap_cell hsb 2
        have lbs : bs < wr.heap.size := heap_lt hsb
        have lbc : bc < wr.heap.size := heap_lt hca
        have lb0 : W.heap.size ≤ wr.heap.size := hM.size
        have l1 := hF.lt b (.inl rfl)
        have l2 := hF.lt gp (.inr (.inl rfl))
        have l3 := hF.lt ge (.inr (.inr rfl))
        go_wp2_with fail
        refine (mod_any _ _ _ (by decide) (by decide)).mono ?_
        rintro e w4 ⟨rfl, rfl⟩
        go_wp2_with fail
        obtain ⟨d, hd⟩ : ∃ d : CallD, d = ⟨modU c.kind 7, c.block, c.page, c.data, c.torn, c.and, false⟩ := ⟨_, rfl⟩
        have hdw : d.WF := by rw [hd]; exact ⟨hcw.d, hcw.t⟩
        have hAT := fun V => at_call d B P 40 V (by omega) (by omega)
        have hDO := fun (s : FlashS) (was : ByteArray) V (hF : FlashAt V b gp cp ge ce s) (hw : s.WF) (hs : was.size ≤ 1048576) => do_any d B P 40 was V hF hw hdw (by omega) (by omega) hs
        have hab : atB d B = modU c.block B := by rw [hd]; rfl
        have hap : atP d P = modU c.page P := by rw [hd]; rfl
        rw [hab, hap] at hAT
        have hi := modU_range c.block (n := (B : Int)) (by omega)
        have hk2 := modU_range c.page (n := (P : Int)) (by omega)
        have hkr := modU_range c.kind (n := 7) (by omega)
        have hWD := fun was => hwe.do (by omega) d (by rw [hd]; exact ⟨hkr.1, by show modU c.kind 7 < 7; omega⟩) (by rw [hab]; exact hi) was
        have hWE := fun was => hwe.do_era (by omega) d (by rw [hd]; exact ⟨hkr.1, by show modU c.kind 7 < 7; omega⟩) (by rw [hab]; exact hi) was hbi
        rw [hd] at hAT hDO hWD hWE
        obtain ⟨bI, hbI⟩ : ∃ x, modU c.block B = x := ⟨_, rfl⟩
        obtain ⟨pI, hpI⟩ : ∃ x, modU c.page P = x := ⟨_, rfl⟩
        obtain ⟨K, hK⟩ : ∃ x, modU c.kind 7 = x := ⟨_, rfl⟩
        have hV := heap_alloc_new wr (.cells #[.int .i64 (modU c.kind 7), .int .i64 c.block, .int .i64 c.page, .int .u64 c.data, .int .u64 c.torn, .bool c.and, .bool false] 39)
        have hFV := hF.alloc (.cells #[.int .i64 (modU c.kind 7), .int .i64 c.block, .int .i64 c.page, .int .u64 c.data, .int .u64 c.torn, .bool c.and, .bool false] 39)
        have hcV := heap_old hca (.cells #[.int .i64 (modU c.kind 7), .int .i64 c.block, .int .i64 c.page, .int .u64 c.data, .int .u64 c.torn, .bool c.and, .bool false] 39)
        have hsV := heap_old hsb (.cells #[.int .i64 (modU c.kind 7), .int .i64 c.block, .int .i64 c.page, .int .u64 c.data, .int .u64 c.torn, .bool c.and, .bool false] 39)
        have hMV := hM.alloc (.cells #[.int .i64 (modU c.kind 7), .int .i64 c.block, .int .i64 c.page, .int .u64 c.data, .int .u64 c.torn, .bool c.and, .bool false] 39)
        rw [hbI, hpI] at hAT
        rw [hbI] at hi
        rw [hpI] at hk2
        rw [hK] at hAT hDO hWD hWE hkr hV hFV hcV hsV hMV ⊢
        generalize wr.heap.size = bd at hV lbs lbc lb0 l1 l2 l3 ⊢
        generalize wr.alloc (.cells #[.int .i64 K, .int .i64 c.block, .int .i64 c.page, .int .u64 c.data, .int .u64 c.torn, .bool c.and, .bool false] 39) = V at hV hFV hcV hsV hMV ⊢
        clear e0 e1 e2 e3 e4 e5 e6 t0 t1 t2 hF hca hsb hM hd
        refine (hAT _).mono ?_
        rintro e v1 ⟨rfl, m1⟩
        have hF1 := hFV.mods m1 id id id
        have hc1 := m1.heap hcV id
        have hs1 := m1.heap hsV id
        have hd1 := m1.heap hV id
        have hM1 := hMV.no m1
        clear hFV hcV hsV hV hMV
        go_wp2_with fail
        refine (read_any bI pI _ hF1 hwe.wf).mono ?_
        rintro e v2 ⟨rfl, n2, rfl⟩
        have hF2 := hF1.drewN n2
        have d0 : v1.cell? ⟨bd, 0, none⟩ = some (.int .i64 K) := heap_cell hd1 0
        have d1 : v1.cell? ⟨bd, 1, none⟩ = some (.int .i64 c.block) := heap_cell hd1 1
        have d2 : v1.cell? ⟨bd, 2, none⟩ = some (.int .i64 c.page) := heap_cell hd1 2
        have d3 : v1.cell? ⟨bd, 3, none⟩ = some (.int .u64 c.data) := heap_cell hd1 3
        have d4 : v1.cell? ⟨bd, 4, none⟩ = some (.int .u64 c.torn) := heap_cell hd1 4
        have d5 : v1.cell? ⟨bd, 5, none⟩ = some (.bool c.and) := heap_cell hd1 5
        have d6 : v1.cell? ⟨bd, 6, none⟩ = some (.bool false) := heap_cell hd1 6
        have t0 : v1.cell? ⟨bs, 0, none⟩ = some (.int .i64 B) := heap_cell hs1 0
        have t1 : v1.cell? ⟨bs, 1, none⟩ = some (.int .i64 P) := heap_cell hs1 1
        have t2 : v1.cell? ⟨bs, 2, none⟩ = some (.int .i64 40) := heap_cell hs1 2
        go_wp2_with fail
        have hwz : (s.read bI pI).1.size ≤ 1048576 := by
          unfold FlashS.read
          rw [hwe.chk hi hk2, if_pos rfl]
          have := (page_of hwe.wf (i := bI) (k := pI) (by rw [hwe.nb]; exact hi) (by rw [hwe.np]; exact hk2)).2.2
          show (s.page bI pI).size ≤ _
          omega
        refine (hDO s (s.read bI pI).1 _ hF2 hwe.wf hwz).mono ?_
        have hwd := hWD (s.read bI pI).1
        have hed := hWE (s.read bI pI).1
        generalize s.doM ⟨K, c.block, c.page, c.data, c.torn, c.and, false⟩ B P (s.read bI pI).1 = X at hwd hed ⊢
        rintro e v3 ⟨rfl, hF3, m3⟩
        have hm3 : Mods (FlF b gp ge) v1 v3 := ((Mods.refl (FlF b gp ge) v1).drewN n2).trans m3 (fun _ h => .inl h)
        have hs3 : v3.heap[bs]? = _ := hm3.heap hs1 nb2
        have hc3 : v3.heap[bc]? = _ := hm3.heap hc1 nb1
        have hM3 : Mods No W v3 := hM1.trans hm3 (fun i h => .inr (by rcases h with h | h | h <;> omega))
        go_wp2
        go_roundw
        case rel => exact ⟨k + 1, by omega, by go_num, X.2, hwd, by omega, hF3, hc3, hs3, hM3⟩
        case measure => simp [intOf]; omega
      · obtain rfl : k = len := by omega
        have hkl : ¬ (k : Int) < k := by omega
        have a0 : wr.cell? ⟨bc, 0, none⟩ = some (.int .i64 a.kind) := heap_cell hca 0
        have a1 : wr.cell? ⟨bc, 1, none⟩ = some (.int .i64 a.block) := heap_cell hca 1
        have a2 : wr.cell? ⟨bc, 2, none⟩ = some (.int .i64 a.page) := heap_cell hca 2
        have a3 : wr.cell? ⟨bc, 3, none⟩ = some (.int .u64 a.data) := heap_cell hca 3
        have a4 : wr.cell? ⟨bc, 4, none⟩ = some (.int .u64 a.torn) := heap_cell hca 4
        have a5 : wr.cell? ⟨bc, 5, none⟩ = some (.bool a.and) := heap_cell hca 5
        have a6 : wr.cell? ⟨bc, 6, none⟩ = some (.bool a.raw) := heap_cell hca 6
        have b5 : wr.frozen? ⟨bc, 5, none⟩ = false := heap_free hca 5
        have b6 : wr.frozen? ⟨bc, 6, none⟩ = false := heap_free hca 6
        have t0 : wr.cell? ⟨bs, 0, none⟩ = some (.int .i64 B) := heap_cell hsb 0
        have t1 : wr.cell? ⟨bs, 1, none⟩ = some (.int .i64 P) := heap_cell hsb 1
        have t2 : wr.cell? ⟨bs, 2, none⟩ = some (.int .i64 40) := heap_cell hsb 2
        have hne : bs ≠ bc := by omega
        go_wp2_with fail
        have ms : Mods (One bc) wr ((wr.setCell ⟨bc, 6, none⟩ (.bool false)).setCell ⟨bc, 5, none⟩ (.bool true)) := (mods1 _ _ _ _).trans (mods1 _ _ _ _) (fun i h => .inl h)
        have hF1 := hF.mods ms (by rintro rfl; exact nb1 (.inl rfl)) (by rintro rfl; exact nb1 (.inr (.inl rfl))) (by rintro rfl; exact nb1 (.inr (.inr rfl)))
        have hs1 := ms.heap hsb (by show ¬ _ = _; omega)
        have hc1 : ((wr.setCell ⟨bc, 6, none⟩ (.bool false)).setCell ⟨bc, 5, none⟩ (.bool true)).heap[bc]? = _ := heap_set (heap_set hca (.bool false)) (.bool true)
        have hM1 := hM.trans ms (fun i h => .inr (by cases h; omega))
        clear ms hF hsb hca hM a0 a1 a2 a3 a4 a5 a6 b5 b6 t0 t1 t2
        generalize (wr.setCell ⟨bc, 6, none⟩ (.bool false)).setCell ⟨bc, 5, none⟩ (.bool true) = w1 at hF1 hs1 hc1 hM1 ⊢
        have hc1' : w1.heap[bc]? = some (.cells #[.int .i64 a.kind, .int .i64 a.block, .int .i64 a.page, .int .u64 a.data, .int .u64 a.torn, .bool true, .bool false] 39 (0, 0)) := by rw [hc1]; simp
        clear hc1
        refine (hAT0 _).mono ?_
        rintro e w2 ⟨rfl, m2⟩
        have hF2 := hF1.mods m2 id id id
        have hc2 := m2.heap hc1' id
        have hM2 := hM1.no m2
        clear hF1 hc1' hs1 hM1 m2
        go_wp2_with fail
        have hrd := hwe.read_page hbi hpi
        refine (read_any bi pi _ hF2 hwe.wf).mono ?_
        rw [hrd.1]
        rintro e w3 ⟨rfl, n3, rfl⟩
        have hpgs := hrd.2
        obtain ⟨dt, hdt⟩ : ∃ dt, dataS ⟨a.kind, a.block, a.page, a.data, a.torn, true, false⟩ (s.page bi pi) = dt := ⟨_, rfl⟩
        have hdts : dt.size = 64 := by rw [← hdt]; exact dataS_size _ _
        have hcl : clearsB (s.page bi pi) dt = true := by rw [← hdt]; exact clears_and rfl hpgs
        have hDT := fun V => hDT0 (s.page bi pi) V (by omega)
        rw [hdt] at hDT
        have hE1 : s.era bi + 1 < 40 := by omega
        have CP := hwe.retry_prog hbi hpi hdts hcl ha.t
        have CE := hwe.retry_erase hbi hpi hE1 ha.t
        have hwf1 : ({ s with planned := decide ((0 : Int) ≤ 0), left := max 0 0, torn := a.torn } : FlashS).WF := ⟨hwe.wf.nb0, hwe.wf.nb1, hwe.wf.np0, hwe.wf.np1, hwe.wf.en0, hwe.wf.en1, hwe.wf.pl, hwe.wf.el, hwe.wf.p64, hwe.wf.e0, ⟨Int.le_refl _, by show (0 : Int) < _; decide⟩, ha.t⟩
        have hCU := fun V (hF : FlashAt V b gp cp ge ce s) => cutAfter_any 0 a.torn V hF
        obtain ⟨s1, hs1⟩ : ∃ s1, ({ s with planned := decide ((0 : Int) ≤ 0), left := max 0 0, torn := a.torn } : FlashS) = s1 := ⟨_, rfl⟩
        obtain ⟨pg, hpg⟩ : ∃ pg, s.page bi pi = pg := ⟨_, rfl⟩
        rw [hs1] at CP CE hwf1 hCU
        rw [hpg] at hpgs hDT ⊢
        have t0 : 0 ≤ a.torn := ha.t.1
        have t1 : a.torn < 18446744073709551616 := ha.t.2
        clear hrd hdt hcl hs1 hpg hera
        have a0 : w2.cell? ⟨bc, 0, none⟩ = some (.int .i64 a.kind) := heap_cell hc2 0
        have a1 : w2.cell? ⟨bc, 1, none⟩ = some (.int .i64 a.block) := heap_cell hc2 1
        have a2 : w2.cell? ⟨bc, 2, none⟩ = some (.int .i64 a.page) := heap_cell hc2 2
        have a3 : w2.cell? ⟨bc, 3, none⟩ = some (.int .u64 a.data) := heap_cell hc2 3
        have a4 : w2.cell? ⟨bc, 4, none⟩ = some (.int .u64 a.torn) := heap_cell hc2 4
        have a5 : w2.cell? ⟨bc, 5, none⟩ = some (.bool true) := heap_cell hc2 5
        have a6 : w2.cell? ⟨bc, 6, none⟩ = some (.bool false) := heap_cell hc2 6
        go_wp2_with fail
        refine (hDT _).mono ?_
        rintro e w4 ⟨rfl, m4⟩
        have hF4 := (hF2.drewN n3).mods m4 id id id
        have hc4 : w4.heap[bc]? = _ := m4.heap (w := w2.drewN n3) hc2 id
        have hM4 := (hM2.drewN n3).no m4
        clear hF2 hc2 hM2 m4 a0 a1 a2 a3 a4 a5 a6
        have a4 : w4.cell? ⟨bc, 4, none⟩ = some (.int .u64 a.torn) := heap_cell hc4 4
        go_wp2_with fail
        refine (hCU _ hF4).mono ?_
        rintro e w6 ⟨rfl, hF6, m6⟩
        have hM6 : Mods No W w6 := hM4.trans m6 (fun i h => .inr (by cases h; omega))
        clear hF4 hc4 hM4 m6 a4
        cases er
        · obtain ⟨s2, s4, hp, hp2, hR⟩ := CP
          go_wp2_with fail
          have hPR := fun V (hF : FlashAt V b gp cp ge ce s1) => prog_any bi pi dt V hF hwf1
          rw [hp] at hPR
          have hP2 := fun V (hF : FlashAt V b gp cp ge ce ({ s2 with off := false } : FlashS)) => prog_any bi pi dt V hF hR.wf3
          rw [hp2] at hP2
          clear CE hp hp2
          refine (hPR _ hF6).mono ?_
          rintro e w7 ⟨rfl, hF7, m7⟩
          have hM7 : Mods No W w7 := hM6.trans m7 (fun i h => .inr (by rcases h with h | h | h <;> omega))
          clear hPR m7 hF6 hM6
          have hPN := fun V (hF : FlashAt V b gp cp ge ce s2) => powerOn_any V hF
          simp only [hR.off2, if_true] at hPN
          go_wp2_with fail
          refine (hPN _ hF7).mono ?_
          rintro e w9 ⟨rfl, hF9, m9⟩
          have hM9 : Mods No W w9 := hM7.trans m9 (fun i h => .inr (by cases h; omega))
          clear hF7 hM7 m9 hPN
          go_wp2_with fail
          refine (hP2 _ hF9).mono ?_
          rintro e w10 ⟨rfl, hF10, m10⟩
          have hM10 : Mods No W w10 := hM9.trans m10 (fun i h => .inr (by rcases h with h | h | h <;> omega))
          clear hP2 m10 hF9 hM9
          have hR2 := fun V (hF : FlashAt V b gp cp ge ce s4) => read_any bi pi V hF hR.wf4
          rw [hR.read] at hR2
          go_wp2_with fail
          refine (hR2 _ hF10).mono ?_
          rintro e w12 ⟨rfl, n12, rfl⟩
          have hMf := hM10.drewN n12
          clear hR2 hR hF10 hM10
          go_wp2_with fail
          refine (awake_any _).mono ?_
          rintro e w9 ⟨rfl, hb⟩
          go_wp2
          go_ret
          exact ⟨rfl, (hMf.toBelow (fun _ h => h.elim) (Nat.le_refl _)).trans (hb.mono hMf.size)⟩
        · obtain ⟨s2, s4, hp, hp2, hR⟩ := CE
          go_wp2_with fail
          have hPR := fun V (hF : FlashAt V b gp cp ge ce s1) => erase_any bi V hF hwf1
          rw [hp] at hPR
          have hP2 := fun V (hF : FlashAt V b gp cp ge ce ({ s2 with off := false } : FlashS)) => erase_any bi V hF hR.wf3
          rw [hp2] at hP2
          clear CP hp hp2
          refine (hPR _ hF6).mono ?_
          rintro e w7 ⟨rfl, hF7, m7⟩
          have hM7 : Mods No W w7 := hM6.trans m7 (fun i h => .inr (by rcases h with h | h | h <;> omega))
          clear hPR m7 hF6 hM6
          have hPN := fun V (hF : FlashAt V b gp cp ge ce s2) => powerOn_any V hF
          simp only [hR.off2, if_true] at hPN
          go_wp2_with fail
          refine (hPN _ hF7).mono ?_
          rintro e w9 ⟨rfl, hF9, m9⟩
          have hM9 : Mods No W w9 := hM7.trans m9 (fun i h => .inr (by cases h; omega))
          clear hF7 hM7 m9 hPN
          go_wp2_with fail
          refine (fill_any 255 _).mono ?_
          rintro e w9' ⟨rfl, m9'⟩
          have hF9' := hF9.mods m9' id id id
          have hM9' := hM9.no m9'
          clear hF9 hM9 m9'
          obtain ⟨dt, hdt⟩ : ∃ dt, fillS 255 = dt := ⟨_, rfl⟩
          rw [hdt] at hR ⊢
          clear hdt hdts
          go_wp2_with fail
          refine (hP2 _ hF9').mono ?_
          rintro e w10 ⟨rfl, hF10, m10⟩
          have hM10 : Mods No W w10 := hM9'.trans m10 (fun i h => .inr (by rcases h with h | h | h <;> omega))
          clear hP2 m10 hF9' hM9'
          have hR2 := fun V (hF : FlashAt V b gp cp ge ce s4) => read_any bi pi V hF hR.wf4
          rw [hR.read] at hR2
          go_wp2_with fail
          refine (hR2 _ hF10).mono ?_
          rintro e w12 ⟨rfl, n12, rfl⟩
          have hMf := hM10.drewN n12
          clear hR2 hR hF10 hM10
          go_wp2_with fail
          refine (awake_any _).mono ?_
          rintro e w9 ⟨rfl, hb⟩
          go_wp2
          go_ret
          exact ⟨rfl, (hMf.toBelow (fun _ h => h.elim) (Nat.le_refl _)).trans (hb.mono hMf.size)⟩

theorem retry_row (x0 : Int) (_ : -9223372036854775808 ≤ x0 ∧ x0 < 9223372036854775808) (y0 : Int) (_ : -9223372036854775808 ≤ y0 ∧ y0 < 9223372036854775808) (z0 : Int) (_ : -9223372036854775808 ≤ z0 ∧ z0 < 9223372036854775808)
    (A : Option Addr) (len cap : Nat) (l : List CallD) (hl : l.length = len) (hg : ∀ c ∈ l, c.WF) (hlc : len ≤ cap) (hcap : cap ≤ 9223372036854775807) {W : World} (hS : Sl W 7 A len (l.flatMap cCells)) 
    (k : Int) (_ : -9223372036854775808 ≤ k ∧ k < 9223372036854775808) (b : Int) (_ : -9223372036854775808 ≤ b ∧ b < 9223372036854775808) (p : Int) (_ : -9223372036854775808 ≤ p ∧ p < 9223372036854775808) (d : Int) (hd : 0 ≤ d ∧ d < 18446744073709551616) (t : Int) (ht : 0 ≤ t ∧ t < 18446744073709551616) (an ra er : Bool) :
    Calls Try.prog 7 #[.agg #[.int .i64 x0, .int .i64 y0, .int .i64 z0], .slice A len cap, .agg #[.int .i64 k, .int .i64 b, .int .i64 p, .int .u64 d, .int .u64 t, .bool an, .bool ra], .bool er] W fun e w' => e = .returned (.bool true) ∧ Below W.heap.size W w' := retry_walk x0 y0 z0 A len cap l ⟨k, b, p, d, t, an, ra⟩ ⟨hd, ht⟩ er W hl hg hlc hcap hS
end Go.Proofs.Ytachkcoilhlggaa
