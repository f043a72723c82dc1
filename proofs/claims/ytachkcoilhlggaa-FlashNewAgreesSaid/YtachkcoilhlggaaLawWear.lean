/- The walk over the statement FlashWear. -/
import Derived.Test.YtachkcoilhlggaaAw2
import Derived.Test.YtachkcoilhlggaaPl2
set_option linter.unusedVariables false
set_option linter.unusedSimpArgs false
namespace Go.Proofs.Ytachkcoilhlggaa
open Go.RowKit Go.PF

def cCells (c : CallD) : List Value := [.int .i64 c.kind, .int .i64 c.block, .int .i64 c.page, .int .u64 c.data, .int .u64 c.torn, .bool c.and, .bool c.raw]

theorem noplan {s : FlashS} (h : s.planned = false) : s.intr = false ∧ s.count = s := by
  unfold FlashS.intr FlashS.count
  rw [h]
  exact ⟨rfl, rfl⟩
theorem modU7 (v : Int) : modU (modU v 7) 10 = modU v 7 := by
  have := modU_range v (n := 7) (by omega)
  have h : modU (modU v 7) 10 = (modU v 7 % 18446744073709551616) % 10 := rfl
  rw [h, Int.emod_eq_of_lt (by omega) (by omega), Int.emod_eq_of_lt (by omega) (by omega)]

/-- what stays at each call of FlashWear -/
structure Wear (s : FlashS) (B P : Nat) (E : Int) : Prop where
  wf : s.WF
  nb : s.nb = B
  np : s.np = P
  en : s.en = E
  off : s.off = false
  pl : s.planned = false

theorem Wear.chk {s : FlashS} {B P : Nat} {E : Int} (h : Wear s B P E) {i k : Int} (hi : 0 ≤ i ∧ i < B) (hk : 0 ≤ k ∧ k < P) : s.chk i k = 0 := by
  have h1 := h.nb
  have h2 := h.np
  unfold FlashS.chk
  rw [if_neg (by omega), if_neg (by rw [h.off]; decide)]
theorem Wear.prog {s : FlashS} {B P : Nat} {E : Int} (h : Wear s B P E) (i k : Int) (d : ByteArray) : Wear (s.prog i k d).2 B P E ∧ (s.prog i k d).2.erases = s.erases := by
  obtain ⟨h1, h2⟩ := noplan h.pl
  obtain ⟨a1, a2, a3⟩ := prog_shape s i k d
  have hw := prog_wf h.wf i k d
  have key : (s.prog i k d).2.off = false ∧ (s.prog i k d).2.planned = false ∧ (s.prog i k d).2.erases = s.erases := by
    unfold FlashS.prog
    rw [h1, h2]
    split
    · exact ⟨h.off, h.pl, rfl⟩
    split
    · exact ⟨h.off, h.pl, rfl⟩
    split
    · exact ⟨h.off, h.pl, rfl⟩
    · exact ⟨h.off, h.pl, rfl⟩
  exact ⟨⟨hw, a1.trans h.nb, a2.trans h.np, a3.trans h.en, key.1, key.2.1⟩, key.2.2⟩
theorem Wear.erase_no {s : FlashS} {B P : Nat} {E : Int} (h : Wear s B P E) {i : Int} (hi : 0 ≤ i ∧ i < B) (hP : 0 < P) (he : E ≤ s.era i) : s.erase i = (15, s) := by
  unfold FlashS.erase
  rw [h.chk hi ⟨Int.le_refl _, by omega⟩, if_neg (by simp), if_pos (by rw [h.en]; exact he)]
theorem Wear.erase_yes {s : FlashS} {B P : Nat} {E : Int} (h : Wear s B P E) {i k : Int} (hi : 0 ≤ i ∧ i < B) (hk : 0 ≤ k ∧ k < P) (he : s.era i < E) :
    (s.erase i).1 = 0 ∧ Wear (s.erase i).2 B P E ∧ (s.erase i).2.erases = s.erases.set i.toNat (s.era i + 1) ∧ (s.erase i).2.read i k = (fillS 255, 0) := by
  obtain ⟨h1, h2⟩ := noplan h.pl
  have hw := erase_wf h.wf i
  obtain ⟨a1, a2, a3⟩ := erase_shape s i
  have hE : s.erase i = (0, { s with erases := s.erases.set i.toNat (s.era i + 1), pages := erP s.pages (i * s.np).toNat s.np.toNat 18446744073709551615 }) := by
    unfold FlashS.erase
    rw [h.chk hi ⟨Int.le_refl _, by omega⟩, if_neg (by simp), if_neg (by rw [h.en]; omega), h1, h2]
    rfl
  have hwe : Wear (s.erase i).2 B P E := ⟨hw, a1.trans h.nb, a2.trans h.np, a3.trans h.en, by rw [hE]; exact h.off, by rw [hE]; exact h.pl⟩
  refine ⟨by rw [hE], hwe, by rw [hE], ?_⟩
  have hp2 := h.np
  have hi' : 0 ≤ i ∧ i < s.nb := by rw [h.nb]; exact hi
  have hk' : 0 ≤ k ∧ k < s.np := by rw [h.np]; exact hk
  obtain ⟨q1, q2, q3⟩ := page_of h.wf hi' hk'
  obtain ⟨x0, x1, x2, x3⟩ := h.wf.idx hi' hk'
  unfold FlashS.read
  rw [hwe.chk hi hk, if_pos rfl]
  have hpg : (s.erase i).2.page i k = fillS 255 := by
    unfold FlashS.page
    have e : (s.erase i).2.idx i k = s.idx i k := by unfold FlashS.idx; rw [a2]
    rw [e, hE]
    show (erP s.pages (i * s.np).toNat s.np.toNat 18446744073709551615).getD (s.idx i k) ByteArray.empty = _
    rw [List.getD, erP_get _ _ _ _ q1, if_pos (by unfold FlashS.idx; omega)]
    have e2 : s.pages.getD (s.idx i k) ByteArray.empty = s.page i k := rfl
    rw [e2]
    exact merge_ones q3
  rw [hpg]

theorem Wear.small {s : FlashS} {B P : Nat} {E : Int} (h : Wear s B P E) (c : CallD) (v : Int) (hc : c.kind = modU v 7) (was : ByteArray) (h5 : modU v 7 < 5) : Wear (s.doM c B P was).2 B P E ∧ (s.doM c B P was).2.erases = s.erases := by
  have hm := modU7 v
  unfold FlashS.doM
  rw [hc, hm]
  have := modU_range v (n := 7) (by omega)
  split
  · exact h.prog _ _ _
  split
  · exact ⟨h, rfl⟩
  · omega
theorem Wear.large {s : FlashS} {B P : Nat} {E : Int} (h : Wear s B P E) (c : CallD) (v : Int) (hc : c.kind = modU v 7) (was : ByteArray) (h5 : 5 ≤ modU v 7) : s.doM c B P was = ((ByteArray.empty, (s.erase (atB c B)).1), (s.erase (atB c B)).2) := by
  have hm := modU7 v
  unfold FlashS.doM
  rw [hc, hm]
  have := modU_range v (n := 7) (by omega)
  rw [if_neg (by omega), if_neg (by omega), if_pos (by omega)]
theorem Wear.era_get {s : FlashS} {B P : Nat} {E : Int} (h : Wear s B P E) {i : Int} (hi : 0 ≤ i ∧ i < B) : s.erases[i.toNat]? = some (s.era i) := era_of h.wf (by rw [h.nb]; exact hi)
theorem Wear.elen {s : FlashS} {B P : Nat} {E : Int} (h : Wear s B P E) : s.erases.length = B := by have := h.wf.el; rw [h.nb] at this; omega

set_option maxHeartbeats 4000000 in
set_option maxRecDepth 100000 in
theorem wear_walk (x0 y0 z0 : Int) (A : Option Addr) (len cap : Nat) (l : List CallD) (W : World) (hl : l.length = len) (hg : ∀ c ∈ l, c.WF) (hlc : len ≤ cap) (hcap : cap ≤ 9223372036854775807) (hS : Sl W 7 A len (l.flatMap cCells)) :
    Calls Try.prog 6 #[.agg #[.int .i64 x0, .int .i64 y0, .int .i64 z0], .slice A len cap] W fun e w' => e = .returned (.bool true) ∧ Below W.heap.size W w' := by
  by_cases h60 : (60 : Int) < len
  · go_enter Try.func6, Try.ntmps6
    go_wp2_with fail
    refine (awake_any _).mono ?_
    rintro e w1 ⟨rfl, hb⟩
    go_wp2
    go_ret
    refine ⟨rfl, ?_⟩
    exact ((Below.refl _ _).alloc (Nat.le_refl _) _).trans (hb.mono (by simp))
  · have h1 := modU_range x0 (n := 3) (by omega)
    have h2 := modU_range y0 (n := 3) (by omega)
    have h3 := modU_range z0 (n := 6) (by omega)
    obtain ⟨B, hB⟩ : ∃ B : Nat, (B : Int) = 1 + modU x0 3 := ⟨(1 + modU x0 3).toNat, by omega⟩
    obtain ⟨P, hP⟩ : ∃ P : Nat, (P : Int) = 1 + modU y0 3 := ⟨(1 + modU y0 3).toNat, by omega⟩
    obtain ⟨E, hE⟩ : ∃ E : Int, E = modU z0 6 := ⟨_, rfl⟩
    have hsh := fun w => shape_any x0 y0 z0 w
    rw [← hB, ← hP, ← hE] at hsh
    have hB1 : 1 ≤ B ∧ B ≤ 3 := by omega
    have hP1 : 1 ≤ P ∧ P ≤ 3 := by omega
    have hE1 : 0 ≤ E ∧ E ≤ 5 := by omega
    have hok : okShape B P E := by unfold okShape; omega
    clear h1 h2 h3 hB hP hE
    go_enter Try.func6, Try.ntmps6
    go_wp2_with fail
    refine (hsh _).mono ?_
    rintro e w1 ⟨rfl, m1⟩
    go_wp2_with fail
    refine (new_ok B P E _ hok).mono ?_
    rintro e w2 ⟨b, gp, cp, ge, ce, rfl, hF, m2, g1, g2, g3⟩
    obtain ⟨bs, hbs⟩ : ∃ bs, w1.heap.size = bs := ⟨_, rfl⟩
    have hs2 : w2.heap[bs]? = some (.cells #[.int .i64 B, .int .i64 P, .int .i64 E] 23 (0, 0)) := by rw [← hbs]; exact m2.heap (heap_alloc_new w1 _) id
    have gg : W.heap.size ≤ bs := by have := m1.size; rw [hbs] at this; simp at this; omega
    simp only [World.size_alloc, hbs] at g1 g2 g3
    have s0 : w2.cell? ⟨bs, 0, none⟩ = some (.int .i64 B) := heap_cell hs2 0
    rw [hbs]
    have hmk := run_make_row' (P := Try.prog) 56 3 (.int .i64 0) 8 Try.underlying56 infoInt rfl .i64 .i64 B (by omega) (by omega)
    have hm2 : Mods No W w2 := (((((Mods.refl No W).alloc _).no m1).alloc _).no m2)
    have hB0 : (0 : Int) ≤ B := by omega
    go_wp2
    obtain ⟨bn, hbn⟩ : ∃ bn, w2.heap.size = bn := ⟨_, rfl⟩
    have l1 := hF.lt b (.inl rfl)
    have l2 := hF.lt gp (.inr (.inl rfl))
    have l3 := hF.lt ge (.inr (.inr rfl))
    have hO : Own (w2.alloc (.cells (madeCells #[.int .i64 0] B) 3)) 3 1 (.slice (some ⟨bn, 0, none⟩) B B) B (ints (newFlash B P E).erases) := by
      rw [← hbn]
      refine ⟨by simp [ints, newFlash], .inr ⟨_, B, _, rfl, Nat.zero_le _, heap_alloc_new _ _, Nat.le_refl _, by unfold maxLen; omega, by simp [madeCells], ?_⟩⟩
      rw [madeCells1]
      simp [ints, newFlash]
    rw [hbn] at l1 l2 l3 ⊢
    have hwear0 : Wear (newFlash B P E) B P E := ⟨newFlash_wf hok, rfl, rfl, rfl, rfl, rfl⟩
    have hF0 := hF.alloc (.cells (madeCells #[.int .i64 0] B) 3)
    have hs0 := heap_old hs2 (.cells (madeCells #[.int .i64 0] B) 3)
    have hm0 := hm2.alloc (.cells (madeCells #[.int .i64 0] B) 3)
    generalize w2.alloc (.cells (madeCells #[.int .i64 0] B) 3) = w3 at *
    clear hF hs2 hm2 s0 hmk m1 m2 hbs hbn
    go_loopw [9] (fun q wr => ∃ k : Nat, k ≤ len ∧ q = .int .i64 k ∧ ∃ s : FlashS, Wear s B P E ∧ FlashAt wr b gp cp ge ce s ∧ Own wr 3 1 (.slice (some ⟨bn, 0, none⟩) B B) B (ints s.erases) ∧ wr.heap[bs]? = some (.cells #[.int .i64 B, .int .i64 P, .int .i64 E] 23 (0, 0)) ∧ Mods No W wr) (fun q _ => len - (intOf q).toNat)
    case atStart => exact ⟨0, Nat.zero_le _, rfl, _, hwear0, hF0, hO, hs0, hm0⟩
    case round =>
      obtain ⟨k, hk, rfl, s, hwe, hF, hN, hsb, hM⟩ := hrel
      clear hF0 hO hs0 hm0 hwear0
      by_cases hlt : k < len
      · obtain ⟨g, o, rfl, hcc⟩ := hS.2.2 (by omega)
        obtain ⟨c, hc⟩ := some_at (l := l) (i := k) (by omega)
        have hcw := hg c (List.mem_of_getElem? hc)
        have ec : ∀ j, j < 7 → ∀ u, (cCells c)[j]? = some u → wr.cell? ⟨g, o + (k * 7 + j), none⟩ = some u := fun j hj u hu => hM.cell (hcc _ _ (by rw [flat_get cCells 7 (fun _ => rfl) l k j hj, hc]; exact hu)) id
        have e0 : wr.cell? ⟨g, o + k * 7, none⟩ = some (.int .i64 c.kind) := ec 0 (by omega) _ rfl
        have e1 : wr.cell? ⟨g, o + k * 7 + 1, none⟩ = some (.int .i64 c.block) := ec 1 (by omega) _ rfl
        have e2 : wr.cell? ⟨g, o + k * 7 + 2, none⟩ = some (.int .i64 c.page) := ec 2 (by omega) _ rfl
        have e3 : wr.cell? ⟨g, o + k * 7 + 3, none⟩ = some (.int .u64 c.data) := ec 3 (by omega) _ rfl
        have e4 : wr.cell? ⟨g, o + k * 7 + 4, none⟩ = some (.int .u64 c.torn) := ec 4 (by omega) _ rfl
        have e5 : wr.cell? ⟨g, o + k * 7 + 5, none⟩ = some (.bool c.and) := ec 5 (by omega) _ rfl
        have e6 : wr.cell? ⟨g, o + k * 7 + 6, none⟩ = some (.bool c.raw) := ec 6 (by omega) _ rfl
        clear ec hcc
        have hkl : (k : Int) < len := by omega
        have t0 : wr.cell? ⟨bs, 0, none⟩ = some (.int .i64 B) := heap_cell hsb 0
        have t1 : wr.cell? ⟨bs, 1, none⟩ = some (.int .i64 P) := heap_cell hsb 1
        have t2 : wr.cell? ⟨bs, 2, none⟩ = some (.int .i64 E) := heap_cell hsb 2
        have lbs : bs < wr.heap.size := heap_lt hsb
        go_wp2_with fail
        refine (mod_any _ _ _ (by decide) (by decide)).mono ?_
        rintro e w4 ⟨rfl, rfl⟩
        go_wp2_with fail
        obtain ⟨d, hd⟩ : ∃ d : CallD, d = ⟨modU c.kind 7, c.block, c.page, c.data, c.torn, c.and, false⟩ := ⟨_, rfl⟩
        have hdw : d.WF := by rw [hd]; exact ⟨hcw.d, hcw.t⟩
        have hAT := fun V => at_call d B P E V (by omega) (by omega)
        have hDO := fun (s : FlashS) (was : ByteArray) V (hF : FlashAt V b gp cp ge ce s) (hw : s.WF) (hs : was.size ≤ 1048576) => do_any d B P E was V hF hw hdw (by omega) (by omega) hs
        have hab : atB d B = modU c.block B := by rw [hd]; rfl
        have hap : atP d P = modU c.page P := by rw [hd]; rfl
        rw [hab, hap] at hAT
        have HAB : Hid (atB d B = modU c.block B) := hab
        have HAP : Hid (atP d P = modU c.page P) := hap
        have HK : Hid (d.kind = modU c.kind 7) := by show _ = _; rw [hd]
        have hi := modU_range c.block (n := (B : Int)) (by omega)
        have hk2 := modU_range c.page (n := (P : Int)) (by omega)
        have hkr := modU_range c.kind (n := 7) (by omega)
        rw [hd] at hAT hDO
        obtain ⟨bI, hbI⟩ : ∃ x, modU c.block B = x := ⟨_, rfl⟩
        obtain ⟨pI, hpI⟩ : ∃ x, modU c.page P = x := ⟨_, rfl⟩
        obtain ⟨K, hK⟩ : ∃ x, modU c.kind 7 = x := ⟨_, rfl⟩
        have hV := heap_alloc_new wr (.cells #[.int .i64 (modU c.kind 7), .int .i64 c.block, .int .i64 c.page, .int .u64 c.data, .int .u64 c.torn, .bool c.and, .bool false] 39)
        have hFV := hF.alloc (.cells #[.int .i64 (modU c.kind 7), .int .i64 c.block, .int .i64 c.page, .int .u64 c.data, .int .u64 c.torn, .bool c.and, .bool false] 39)
        have hNV := hN.alloc (.cells #[.int .i64 (modU c.kind 7), .int .i64 c.block, .int .i64 c.page, .int .u64 c.data, .int .u64 c.torn, .bool c.and, .bool false] 39)
        have hsV := heap_old hsb (.cells #[.int .i64 (modU c.kind 7), .int .i64 c.block, .int .i64 c.page, .int .u64 c.data, .int .u64 c.torn, .bool c.and, .bool false] 39)
        have hMV := hM.alloc (.cells #[.int .i64 (modU c.kind 7), .int .i64 c.block, .int .i64 c.page, .int .u64 c.data, .int .u64 c.torn, .bool c.and, .bool false] 39)
        rw [hbI, hpI] at hAT
        rw [hbI] at hi
        rw [hpI] at hk2
        rw [hK] at hAT hDO hkr hV hFV hNV hsV hMV ⊢
        have lbd : bn < wr.heap.size := hN.lt rfl
        generalize wr.heap.size = bd at hV lbd ⊢
        generalize wr.alloc (.cells #[.int .i64 K, .int .i64 c.block, .int .i64 c.page, .int .u64 c.data, .int .u64 c.torn, .bool c.and, .bool false] 39) = V at hV hFV hNV hsV hMV ⊢
        clear e0 e1 e2 e3 e4 e5 e6 t0 t1 t2 lbs hF hN hsb hM hd
        refine (hAT _).mono ?_
        rintro e v1 ⟨rfl, m1⟩
        have hF1 := hFV.mods m1 id id id
        have hN1 := hNV.mods m1 (fun _ _ => id)
        have hs1 := m1.heap hsV id
        have hd1 := m1.heap hV id
        have hM1 := hMV.no m1
        clear hFV hNV hsV hV hMV
        go_wp2_with fail
        refine (read_any bI pI _ hF1 hwe.wf).mono ?_
        rintro e v2 ⟨rfl, n2, rfl⟩
        have hF2 := hF1.drewN n2
        have d0 : v1.cell? ⟨bd, 0, none⟩ = some (.int .i64 K) := heap_cell hd1 0
        have d1 : v1.cell? ⟨bd, 1, none⟩ = some (.int .i64 c.block) := heap_cell hd1 1
        have d2 : v1.cell? ⟨bd, 2, none⟩ = some (.int .i64 c.page) := heap_cell hd1 2
        have d3 : v1.cell? ⟨bd, 3, none⟩ = some (.int .u64 c.data) := heap_cell hd1 3
        have d4 : v1.cell? ⟨bd, 4, none⟩ = some (.int .u64 c.torn) := heap_cell hd1 4
        have d5 : v1.cell? ⟨bd, 5, none⟩ = some (.bool c.and) := heap_cell hd1 5
        have d6 : v1.cell? ⟨bd, 6, none⟩ = some (.bool false) := heap_cell hd1 6
        have t0 : v1.cell? ⟨bs, 0, none⟩ = some (.int .i64 B) := heap_cell hs1 0
        have t1 : v1.cell? ⟨bs, 1, none⟩ = some (.int .i64 P) := heap_cell hs1 1
        have t2 : v1.cell? ⟨bs, 2, none⟩ = some (.int .i64 E) := heap_cell hs1 2
        go_wp2_with fail
        have hwz : (s.read bI pI).1.size ≤ 1048576 := by
          unfold FlashS.read
          rw [hwe.chk hi hk2, if_pos rfl]
          have := (page_of hwe.wf (i := bI) (k := pI) (by rw [hwe.nb]; exact hi) (by rw [hwe.np]; exact hk2)).2.2
          show (s.page bI pI).size ≤ _
          omega
        refine (hDO s (s.read bI pI).1 _ hF2 hwe.wf hwz).mono ?_
        have hbn : ¬ FlF b gp ge bn := by rintro (h | h | h) <;> omega
        have hER := fun (s : FlashS) V (hF : FlashAt V b gp cp ge ce s) (hw : s.WF) => (erases_any bI V hF hw).mono (R' := fun e w' => e = .returned (.int .i64 (s.era bI)) ∧ w' = V) (fun e w' h => ⟨h.1, h.2.symm⟩)
        by_cases hK5 : K < 5
        · have hsm := hwe.small ⟨K, c.block, c.page, c.data, c.torn, c.and, false⟩ c.kind hK.symm (s.read bI pI).1 (by rw [hK]; exact hK5)
          generalize s.doM ⟨K, c.block, c.page, c.data, c.torn, c.and, false⟩ B P (s.read bI pI).1 = X at hsm ⊢
          obtain ⟨⟨y1, y2⟩, s'⟩ := X
          obtain ⟨hw', he'⟩ := hsm
          simp only at hw' he'
          rintro e v3 ⟨rfl, hF3, m3⟩
          have hm3 : Mods (FlF b gp ge) v1 v3 := ((Mods.refl (FlF b gp ge) v1).drewN n2).trans m3 (fun _ h => .inl h)
          have hN3 : Own v3 _ _ _ _ _ := Own.mods (w := v1) hN1 hm3 (fun k hk => by cases hk; exact hbn)
          have hs3 : v3.heap[bs]? = _ := hm3.heap hs1 (by rintro (h | h | h) <;> omega)
          have d30 : v3.cell? ⟨bd, 0, none⟩ = some (.int .i64 K) := hm3.cell d0 (by rintro (h | h | h) <;> (change bd = _ at h; omega))
          have t32 : v3.cell? ⟨bs, 2, none⟩ = some (.int .i64 E) := hm3.cell t2 (by rintro (h | h | h) <;> (change bs = _ at h; omega))
          have hM3 : Mods No W v3 := hM1.trans hm3 (fun i h => .inr (by rcases h with h | h | h <;> omega))
          have hbI0 : 0 ≤ bI := hi.1
          have hbI1 : bI < (B : Int) := hi.2
          clear d0 d1 d2 d3 d4 d5 d6 t0 t1 t2 hF1 hN1 hs1 hd1 hM1 hF2 hAT hDO hm3 m3 m1
          have hcn : v3.cell? ⟨bn, bI.toNat, none⟩ = some (.int .i64 (s'.era bI)) := hN3.cell (map_get (by rw [← he']; exact hw'.era_get hi))
          go_wp2_with fail
          go_quiet ((go_at_call 20; exact Calls.quiet_of_same (hER s' _ (hF3.drewN _) hw'.wf)))
          go_wp2
          go_roundw
          case rel => exact ⟨k + 1, by omega, by go_num, s', hw', hF3.drewN _, by rw [he']; exact hN3, hs3, hM3.drewN _⟩
          case measure => simp [intOf]; omega
        · have hX := hwe.large ⟨K, c.block, c.page, c.data, c.torn, c.and, false⟩ c.kind hK.symm (s.read bI pI).1 (by omega)
          rw [show atB ⟨K, c.block, c.page, c.data, c.torn, c.and, false⟩ B = bI from hbI] at hX
          rw [hX]
          have hEn : s.era bI < E ∨ E ≤ s.era bI := by omega
          obtain ⟨en, hen⟩ : ∃ en, s.era bI = en := ⟨_, rfl⟩
          have hge := hwe.era_get hi
          have hwf1 := hwe.wf.e0 _ (List.mem_of_getElem? hge)
          have hK6 : (5 : Int) ≤ K := by omega
          rcases hEn with hlt2 | hge2
          · obtain ⟨r1, r2, r3, r4⟩ := hwe.erase_yes hi hk2 hlt2
            generalize s.erase bI = X at r1 r2 r3 r4 ⊢
            obtain ⟨y2, s'⟩ := X
            simp only at r1 r2 r3 r4
            subst r1
            rintro e v3 ⟨rfl, hF3, m3⟩
            have hm3 : Mods (FlF b gp ge) v1 v3 := ((Mods.refl (FlF b gp ge) v1).drewN n2).trans m3 (fun _ h => .inl h)
            have hN3 : Own v3 _ _ _ _ _ := Own.mods (w := v1) hN1 hm3 (fun k hk => by cases hk; exact hbn)
            have hs3 : v3.heap[bs]? = _ := hm3.heap hs1 (by rintro (h | h | h) <;> omega)
            have d30 : v3.cell? ⟨bd, 0, none⟩ = some (.int .i64 K) := hm3.cell d0 (by rintro (h | h | h) <;> (change bd = _ at h; omega))
            have t32 : v3.cell? ⟨bs, 2, none⟩ = some (.int .i64 E) := hm3.cell t2 (by rintro (h | h | h) <;> (change bs = _ at h; omega))
            have hM3 : Mods No W v3 := hM1.trans hm3 (fun i h => .inr (by rcases h with h | h | h <;> omega))
            have hbI0 : 0 ≤ bI := hi.1
            have hbI1 : bI < (B : Int) := hi.2
            clear d0 d1 d2 d3 d4 d5 d6 t0 t1 t2 hF1 hN1 hs1 hd1 hM1 hF2 hAT hDO hm3 m3 m1
            have hcn : v3.cell? ⟨bn, bI.toNat, none⟩ = some (.int .i64 en) := by rw [← hen]; exact hN3.cell (map_get hge)
            have hfn : v3.frozen? ⟨bn, bI.toNat, none⟩ = false := hN3.free _
            have hrn : ∀ V, FlashAt V b gp cp ge ce s' → Calls Try.prog 16 #[.pointer (some ⟨b, 0, none⟩), .int .i64 bI, .int .i64 pI] V fun e w' => e = .returned (.tuple #[.string (fillS 255), .int .i64 0]) ∧ ∃ n, V.drewN n = w' := fun V hF => by
              have := read_any bI pI V hF r2.wf
              rw [r4] at this
              exact this
            have hen' : s'.era bI = en + 1 := by
              have h1 := r2.era_get hi
              rw [r3, hen, List.getElem?_set, if_pos rfl, if_pos (by rw [hwe.elen]; omega)] at h1
              injection h1 with h1
              exact h1.symm
            rw [hen] at hlt2 r3
            have HR3 : Hid (s'.erases = s.erases.set bI.toNat (en + 1)) := r3
            have HEN : Hid (s.era bI = en) := hen
            have HEN' : Hid (s'.era bI = en + 1) := hen'
            have hER' := fun V (hF : FlashAt V b gp cp ge ce s') => hER s' V hF r2.wf
            rw [hen'] at hER'
            have hwn : IntKind.i64.wrap (en + 1) = en + 1 := w64 (by rw [hen] at hwf1; omega) (by omega)
            clear r3 r4 hen hen' hX hge hwf1 hbI hpI hK
            go_wp2_with fail
            go_quiet (fail)
            go_wp2_with fail
            have hm4 := mods1 (v3.drewN nq) bn bI.toNat (.int .i64 (en + 1))
            have hF4 := (hF3.drewN nq).mods hm4 (fun e : b = bn => by omega) (fun e : gp = bn => by omega) (fun e : ge = bn => by omega)
            have hN4 : Own ((v3.drewN nq).setCell ⟨bn, bI.toNat, none⟩ (.int .i64 (en + 1))) 3 1 (.slice (some ⟨bn, 0, none⟩) B B) B (ints s'.erases) := by
              have := Own.set (w := v3.drewN nq) hN3 bI.toNat (.int .i64 (en + 1))
              rw [HR3.out]
              simpa [ints] using this
            have hs4 := hm4.heap (w := v3.drewN nq) hs3 (fun e : bs = bn => by omega)
            have hM4 := (hM3.drewN nq).trans hm4 (fun i (h : i = bn) => .inr (by omega))
            have hcn4 : ((v3.drewN nq).setCell ⟨bn, bI.toNat, none⟩ (.int .i64 (en + 1))).cell? ⟨bn, bI.toNat, none⟩ = some (.int .i64 (en + 1)) := cell_eq (v3.drewN nq) _ hcn
            generalize (v3.drewN nq).setCell ⟨bn, bI.toNat, none⟩ (.int .i64 (en + 1)) = v4 at hm4 hF4 hN4 hs4 hM4 hcn4 ⊢
            clear hcn hfn hN3 hs3 hM3 hm4 hF3 d30 t32
            refine (hrn _ hF4).mono ?_
            rintro e v5 ⟨rfl, n5, rfl⟩
            go_wp2_with fail
            refine (fill_any 255 _).mono ?_
            rintro e v6 ⟨rfl, m6⟩
            have hF6 := (hF4.drewN n5).mods m6 id id id
            have hN6 : Own v6 _ _ _ _ _ := Own.mods (w := v4.drewN n5) hN4 m6 (fun _ _ => id)
            have hs6 : v6.heap[bs]? = _ := m6.heap (w := v4.drewN n5) hs4 id
            have hM6 := (hM4.drewN n5).no m6
            have hcn6 : v6.cell? ⟨bn, bI.toNat, none⟩ = _ := m6.cell (w := v4.drewN n5) hcn4 id
            go_wp2_with fail
            go_quiet ((go_at_call 20; exact Calls.quiet_of_same (hER' _ (hF6.drewN _))))
            go_wp2
            go_roundw
            case rel => exact ⟨k + 1, by omega, by go_num, s', r2, hF6.drewN _, hN6, hs6, hM6.drewN _⟩
            case measure => simp [intOf]; omega
          · have hno := hwe.erase_no hi (by omega) hge2
            rw [hno]
            rintro e v3 ⟨rfl, hF3, m3⟩
            have hm3 : Mods (FlF b gp ge) v1 v3 := ((Mods.refl (FlF b gp ge) v1).drewN n2).trans m3 (fun _ h => .inl h)
            have hN3 : Own v3 _ _ _ _ _ := Own.mods (w := v1) hN1 hm3 (fun k hk => by cases hk; exact hbn)
            have hs3 : v3.heap[bs]? = _ := hm3.heap hs1 (by rintro (h | h | h) <;> omega)
            have d30 : v3.cell? ⟨bd, 0, none⟩ = some (.int .i64 K) := hm3.cell d0 (by rintro (h | h | h) <;> (change bd = _ at h; omega))
            have t32 : v3.cell? ⟨bs, 2, none⟩ = some (.int .i64 E) := hm3.cell t2 (by rintro (h | h | h) <;> (change bs = _ at h; omega))
            have hM3 : Mods No W v3 := hM1.trans hm3 (fun i h => .inr (by rcases h with h | h | h <;> omega))
            have hbI0 : 0 ≤ bI := hi.1
            have hbI1 : bI < (B : Int) := hi.2
            clear d0 d1 d2 d3 d4 d5 d6 t0 t1 t2 hF1 hN1 hs1 hd1 hM1 hF2 hAT hDO hm3 m3 m1
            have hcn : v3.cell? ⟨bn, bI.toNat, none⟩ = some (.int .i64 en) := by rw [← hen]; exact hN3.cell (map_get hge)
            rw [hen] at hge2
            have hER' := fun V (hF : FlashAt V b gp cp ge ce s) => hER s V hF hwe.wf
            rw [hen] at hER'
            clear hen hX hge hwf1 hbI hpI hK hno
            go_wp2_with fail
            go_quiet (fail)
            go_wp2_with fail
            have hF4 := hF3.drewN nq
            have hN4 : Own (v3.drewN nq) _ _ _ _ _ := hN3
            have hs4 : (v3.drewN nq).heap[bs]? = _ := hs3
            have hM4 := hM3.drewN nq
            have hcn4 : (v3.drewN nq).cell? ⟨bn, bI.toNat, none⟩ = _ := hcn
            clear hF3 hN3 hs3 hM3 hcn
            generalize v3.drewN nq = v4 at hF4 hN4 hs4 hM4 hcn4 ⊢
            go_quiet ((go_at_call 20; exact Calls.quiet_of_same (hER' _ (hF4.drewN _))))
            go_wp2
            go_roundw
            case rel => exact ⟨k + 1, by omega, by go_num, s, hwe, hF4.drewN _, hN4, hs4, hM4.drewN _⟩
            case measure => simp [intOf]; omega
      · obtain rfl : k = len := by omega
        have hkl : ¬ (k : Int) < k := by omega
        go_wp2_with fail
        refine (awake_any _).mono ?_
        rintro e w9 ⟨rfl, hb⟩
        go_wp2
        go_ret
        exact ⟨rfl, (hM.toBelow (fun _ h => h.elim) (Nat.le_refl _)).trans (hb.mono hM.size)⟩

theorem wear_row (x0 : Int) (_ : -9223372036854775808 ≤ x0 ∧ x0 < 9223372036854775808) (y0 : Int) (_ : -9223372036854775808 ≤ y0 ∧ y0 < 9223372036854775808) (z0 : Int) (_ : -9223372036854775808 ≤ z0 ∧ z0 < 9223372036854775808)
    (A : Option Addr) (len cap : Nat) (l : List CallD) (hl : l.length = len) (hg : ∀ c ∈ l, c.WF) (hlc : len ≤ cap) (hcap : cap ≤ 9223372036854775807) {W : World} (hS : Sl W 7 A len (l.flatMap cCells)) :
    Calls Try.prog 6 #[.agg #[.int .i64 x0, .int .i64 y0, .int .i64 z0], .slice A len cap] W fun e w' => e = .returned (.bool true) ∧ Below W.heap.size W w' := wear_walk x0 y0 z0 A len cap l W hl hg hlc hcap hS
end Go.Proofs.Ytachkcoilhlggaa
