/- The walks over package flash: Erase. -/
import Derived.Test.YtachkcoilhlggaaFl2
import Derived.Test.YtachkcoilhlggaaShelf
set_option linter.unusedVariables false
set_option linter.unusedSimpArgs false
namespace Go.Proofs.Ytachkcoilhlggaa
open Go.RowKit Go.PF

def ff64 : ByteArray := ⟨(Lib.repeatL [255] 64).toArray⟩
theorem ff64_size : ff64.size = 64 := by decide
theorem repeat_ff (w : World) : Calls Try.prog 27 #[.string ⟨#[255]⟩, .int .i64 64] w fun e w' => e = .returned (.string ff64) ∧ Mods No w w' :=
  (Try.strings_Repeat ⟨#[255]⟩ 64 w (by decide) (by decide)).mono fun e w' h => ⟨h.1, Mods.of_below h.2 No⟩

theorem mergeS_size (old data : ByteArray) (mask : Int) : (mergeS old data mask).size = old.size := by rw [mergeS, strOfNums_size, mergeL]; simp

def erP (pages : List ByteArray) (base n : Nat) (mask : Int) : List ByteArray :=
  (List.range pages.length).map fun j => if base ≤ j ∧ j < base + n then mergeS (pages.getD j ByteArray.empty) ff64 mask else pages.getD j ByteArray.empty
theorem erP_length (pages : List ByteArray) (base n : Nat) (mask : Int) : (erP pages base n mask).length = pages.length := by simp [erP]
theorem erP_get (pages : List ByteArray) (base n : Nat) (mask : Int) {j : Nat} (h : j < pages.length) : (erP pages base n mask)[j]? = some (if base ≤ j ∧ j < base + n then mergeS (pages.getD j ByteArray.empty) ff64 mask else pages.getD j ByteArray.empty) := by
  rw [erP, List.getElem?_map, List.getElem?_range h]; rfl
theorem erP_zero (pages : List ByteArray) (base : Nat) (mask : Int) : erP pages base 0 mask = pages := by
  apply List.ext_getElem?
  intro j
  by_cases h : j < pages.length
  · rw [erP_get _ _ _ _ h, if_neg (by omega), List.getD, List.getElem?_eq_getElem h]; rfl
  · rw [List.getElem?_eq_none (by rw [erP_length]; omega), List.getElem?_eq_none (by omega)]
theorem erP_succ (pages : List ByteArray) (base n : Nat) (mask : Int) (hb : base + n < pages.length) : (erP pages base n mask).set (base + n) (mergeS (pages.getD (base + n) ByteArray.empty) ff64 mask) = erP pages base (n + 1) mask := by
  apply List.ext_getElem?
  intro j
  by_cases h : j < pages.length
  · rw [erP_get _ _ _ _ h, List.getElem?_set]
    by_cases e : base + n = j
    · subst e
      rw [if_pos rfl, if_pos (by rw [erP_length]; omega), if_pos (by omega)]
    · rw [if_neg e, erP_get _ _ _ _ h]
      by_cases g : base ≤ j ∧ j < base + n
      · rw [if_pos g, if_pos (by omega)]
      · rw [if_neg g, if_neg (by omega)]
  · rw [List.getElem?_eq_none (by rw [List.length_set, erP_length]; omega), List.getElem?_eq_none (by rw [erP_length]; omega)]

def FlashS.erase (s : FlashS) (i : Int) : Int × FlashS :=
  if s.chk i 0 ≠ 0 then (s.chk i 0, s)
  else if s.en ≤ s.era i then (15, s)
  else (if s.intr then 16 else 0, { s.count with erases := s.erases.set i.toNat (s.era i + 1), pages := erP s.pages (i * s.np).toNat s.np.toNat (if s.intr then s.torn else 18446744073709551615) })

variable {b gp cp ge ce : Nat} {s : FlashS}

/-- a number of erases is stored -/
theorem FlashAt.setEra {w : World} (h : FlashAt w b gp cp ge ce s) (j : Nat) (x : Int) : FlashAt (w.setCell ⟨ge, j, none⟩ (.int .i64 x)) b gp cp ge ce { s with erases := s.erases.set j x } ∧ Mods (One ge) w (w.setCell ⟨ge, j, none⟩ (.int .i64 x)) := by
  have m : Mods (One ge) w (w.setCell ⟨ge, j, none⟩ (.int .i64 x)) := mods1 _ _ _ _
  refine ⟨⟨?_, ?_, ?_⟩, m⟩
  · have := m.heap h.st (fun e => h.be e.symm)
    simpa using this
  · exact h.pg.mods m (fun g hg => by cases hg; exact fun e => h.pe e)
  · have := h.er.set j (.int .i64 x)
    simpa [ints] using this

set_option maxHeartbeats 1000000 in
theorem erase_any (i : Int) (w : World) (hF : FlashAt w b gp cp ge ce s) (hw : s.WF) :
    Calls Try.prog 22 #[.pointer (some ⟨b, 0, none⟩), .int .i64 i] w (FlRet w b gp cp ge ce (s.erase i)) := by
  by_cases hz : s.chk i 0 = 0
  case neg =>
    have hE : Hid (s.erase i = (s.chk i 0, s)) := by show s.erase i = _; rw [FlashS.erase, if_pos hz]
    have hz' : (s.chk i 0 != 0) = true := by simpa using hz
    go_enter Try.func22, Try.ntmps22
    go_wp2_with (go_at_call 29; refine (check_any _ _ _ hF).mono ?_; rintro e w' ⟨rfl, rfl⟩)
    go_ret
    exact ⟨by rw [hE.out]; rfl, by rw [hE.out]; exact hF, Mods.refl _ _⟩
  obtain ⟨hi, hk, hoff⟩ := chk_range hz
  have hl := hw.el
  have hx : s.erases[i.toNat]? = some (s.era i) := by rw [FlashS.era, if_pos hi, List.getD, List.getElem?_eq_getElem (by omega)]; rfl
  have he0 := hw.e0 _ (List.mem_of_getElem? hx)
  have hc := hF.era hx
  obtain ⟨y, hy⟩ : ∃ y, s.era i = y := ⟨_, rfl⟩
  have c2 := hF.c2
  have c4 := hF.c4
  have hi0 : 0 ≤ i := hi.1
  have hi1 : i < (s.erases.length : Int) := by rw [hl]; exact hi.2
  rw [hy] at hc hx he0
  by_cases hge : s.en ≤ y
  · have hE : Hid (s.erase i = (15, s)) := by show s.erase i = _; rw [FlashS.erase, if_neg (by simpa using hz), hy, if_pos hge]
    clear hy hx hl
    go_enter Try.func22, Try.ntmps22
    go_wp2_with (go_at_call 29; refine (check_any _ _ _ hF).mono ?_; rintro e w' ⟨rfl, rfl⟩; rw [hz])
    go_quiet (fail)
    go_wp2
    go_ret
    exact ⟨by rw [hE.out]; rfl, by rw [hE.out]; exact hF.drewN _, (Mods.refl _ _).drewN _⟩
  · have hE : Hid (∀ m r, (if s.intr then s.torn else 18446744073709551615) = m → (if s.intr then 16 else 0) = r → s.erase i = (r, { s.count with erases := s.erases.set i.toNat (y + 1), pages := erP s.pages (i * s.np).toNat s.np.toNat m })) := by
      intro m r hm hr
      rw [FlashS.erase, if_neg (by simpa using hz), hy, if_neg hge, hm, hr]
    have HX : Hid (s.erases[i.toNat]? = some y) := hx
    have HL : Hid ((s.erases.length : Int) = s.nb) := hl
    clear hy hx hl
    go_enter Try.func22, Try.ntmps22
    go_wp2_with (go_at_call 29; refine (check_any _ _ _ hF).mono ?_; rintro e w' ⟨rfl, rfl⟩; rw [hz])
    go_quiet (fail)
    obtain ⟨k1, k2, k3, k4, k5, k6⟩ := count_same s
    have hbe1 : ge ≠ b := hF.be
    have hbe2 : b ≠ ge := fun e => hF.be e.symm
    have hwy : IntKind.i64.wrap (y + 1) = y + 1 := w64 (by have := hw.en1; omega) (by have := hw.en1; omega)
    have HW : Hid s.WF := hw
    have K2 : Hid (s.count.np = s.np) := k2
    have K4 : Hid (s.count.pages = s.pages) := k4
    have K5 : Hid (s.count.erases = s.erases) := k5
    have K6 : Hid (s.count.torn = s.torn) := k6
    clear k1 k2 k3 k4 k5 k6 hw
    have x5 : 0 ≤ s.np := by have := HW.out.np0; omega
    cases hin : s.intr
    · have HE : Hid (s.erase i = (0, { s.count with erases := s.erases.set i.toNat (y + 1), pages := erP s.pages (i * s.np).toNat s.np.toNat 18446744073709551615 })) := hE.out _ _ (by rw [hin]; rfl) (by rw [hin]; rfl)
      have hmk : 0 ≤ (18446744073709551615 : Int) ∧ (18446744073709551615 : Int) < 18446744073709551616 := by first | exact HW.out.t0 | decide
      have HMK : Hid (0 ≤ (18446744073709551615 : Int) ∧ (18446744073709551615 : Int) < 18446744073709551616) := hmk
      clear hmk hE
      go_wp2_with (go_at_call 31; refine (interrupted_any _ (hF.drewN _) HW.out.l0).mono ?_; rintro e w1 ⟨rfl, hF1, hm1⟩; rw [hin]; have d4 := hF1.c4; rw [K5.out] at d4; have d8 := hF1.c8; rw [K6.out] at d8; have dE := hF1.era (j := i.toNat) (x := y) (by rw [K5.out]; exact HX.out); have fE := hF1.er.free i.toNat; have d1 := hF1.c1; rw [K2.out] at d1)
      go_loopw [49] (fun q wr => ∃ k : Nat, k ≤ s.np.toNat ∧ q = .int .i64 k ∧ FlashAt wr b gp cp ge ce { s.count with erases := s.erases.set i.toNat (y + 1), pages := erP s.pages (i * s.np).toNat k 18446744073709551615 } ∧ Mods (FlF b gp ge) w wr) (fun q _ => s.np.toNat - (intOf q).toNat)
      case atStart =>
        have h1 := hF1.setEra i.toNat (y + 1)
        refine ⟨0, Nat.zero_le _, rfl, ?_, (((Mods.refl _ w).drewN nq).trans (hm1.mono One.flB) (fun i h => .inl h)).trans h1.2 (fun i h => .inl (.inr (.inr h)))⟩
        rw [erP_zero]
        have h2 := h1.1
        rw [K5.out] at h2
        have e : ({ s.count with erases := s.erases.set i.toNat (y + 1) } : FlashS) = { s.count with erases := s.erases.set i.toNat (y + 1), pages := s.pages } := by rw [← K4.out]
        rw [← e]
        exact h2
      case round =>
        obtain ⟨k, hk1, rfl, hR, hM⟩ := hrel
        by_cases hlt : k < s.np.toNat
        · have hlt1 : (k : Int) < s.np := by omega
          obtain ⟨x0, x1, x2, x3⟩ := HW.out.idx hi (k := (k : Int)) ⟨by omega, hlt1⟩
          have hq : (i * s.np).toNat + k < s.pages.length := by omega
          have AT : Calls Try.prog 30 #[.pointer (some ⟨b, 0, none⟩), .int .i64 i, .int .i64 (k : Int)] wr fun e w' => e = .returned (.pointer (some ⟨gp, (i * s.np).toNat + k, none⟩)) ∧ ∃ n, wr.drewN n = w' := by
            refine (at_gen i k wr hR (by show 0 ≤ i * s.count.np; rw [K2.out]; exact x0) (by show i * s.count.np ≤ 1024; rw [K2.out]; exact x1) (by show 0 ≤ i * s.count.np + k; rw [K2.out]; exact x2) (by show i * s.count.np + k < ((erP s.pages (i * s.np).toNat k 18446744073709551615).length : Nat); rw [K2.out, erP_length]; exact x3) (by have := HW.out.np1; omega)).mono ?_
            rintro e w' ⟨rfl, h⟩
            refine ⟨?_, h⟩
            have e1 : (i * s.count.np + k).toNat = (i * s.np).toNat + k := by rw [K2.out]; omega
            show Ending.returned (.pointer (some ⟨gp, (i * s.count.np + k).toNat, none⟩)) = _
            rw [e1]
          obtain ⟨x, hx⟩ : ∃ x, s.pages.getD ((i * s.np).toNat + k) ByteArray.empty = x := ⟨_, rfl⟩
          have hxs : x.size = 64 := by
            refine HW.out.p64 x ?_
            rw [← hx, List.getD, List.getElem?_eq_getElem hq]
            exact List.getElem_mem hq
          have hcx : wr.cell? ⟨gp, (i * s.np).toNat + k, none⟩ = some (.string x) := hR.page (by
            show (erP s.pages (i * s.np).toNat k 18446744073709551615)[(i * s.np).toNat + k]? = some x
            rw [erP_get _ _ _ _ hq, if_neg (by omega), hx])
          have hfx : wr.frozen? ⟨gp, (i * s.np).toNat + k, none⟩ = false := hR.pg.free _
          have HNX : Hid (erP s.pages (i * s.np).toNat (k + 1) 18446744073709551615 = (erP s.pages (i * s.np).toNat k 18446744073709551615).set ((i * s.np).toNat + k) (mergeS x ff64 18446744073709551615)) := by
            show _ = _
            rw [← erP_succ _ _ _ _ hq, hx]
          have HQ : Hid (k < s.np.toNat) := hlt
          have hk33 : k < 33 := by have := HW.out.np1; omega
          clear x0 x1 x2 x3 hx hq dE fE d1 d4 d8 hF1 hm1
          go_wp2_with (go_at_call 30; refine AT.mono ?_; rintro e w' ⟨rfl, n3, rfl⟩)
          go_region_with (first | (go_at_call 27; refine (repeat_ff _).mono ?_; rintro e w2 ⟨rfl, hm2⟩; have hc2 := hm2.cell (p := ⟨gp, (i * s.np).toNat + k, none⟩) hcx id; have hf2 := hm2.free (p := ⟨gp, (i * s.np).toNat + k, none⟩) hcx hfx id) | (go_at_call 32; refine (merge_any x ff64 18446744073709551615 _ (by rw [hxs, ff64_size]; omega) (by omega) HMK.out).mono ?_; rintro e w3 ⟨rfl, hm3⟩; have hc3 := hm3.cell hc2 id; have hf3 := hm3.free hc2 hf2 id))
          all_goals go_wp2
          all_goals (
            go_roundw
            case rel =>
              have hY := (((hR.drewN n3).drew.mods hm2 id id id).mods hm3 id id id).setPage ((i * s.np).toNat + k) (mergeS x ff64 18446744073709551615)
              refine ⟨k + 1, HQ.out, by go_num, ?_, (((hM.drewN n3).drew.trans hm2 (fun i h => h.elim)).trans hm3 (fun i h => h.elim)).trans hY.2 (fun i h => .inl (.inr (.inl h)))⟩
              rw [HNX.out]
              exact hY.1
            case measure => have := HQ.out; simp [intOf]; omega)
        · have hge2 : ¬ (k : Int) < s.np := by omega
          obtain rfl : k = s.np.toNat := by omega
          clear hF1 hm1 dE fE d1 d4 d8
          go_wp2
          go_ret
          exact ⟨by rw [HE.out]; rfl, by rw [HE.out]; exact hR, hM⟩
    · have HE : Hid (s.erase i = (16, { s.count with erases := s.erases.set i.toNat (y + 1), pages := erP s.pages (i * s.np).toNat s.np.toNat s.torn })) := hE.out _ _ (by rw [hin]; rfl) (by rw [hin]; rfl)
      have hmk : 0 ≤ (s.torn : Int) ∧ (s.torn : Int) < 18446744073709551616 := by first | exact HW.out.t0 | decide
      have HMK : Hid (0 ≤ (s.torn : Int) ∧ (s.torn : Int) < 18446744073709551616) := hmk
      clear hmk hE
      go_wp2_with (go_at_call 31; refine (interrupted_any _ (hF.drewN _) HW.out.l0).mono ?_; rintro e w1 ⟨rfl, hF1, hm1⟩; rw [hin]; have d4 := hF1.c4; rw [K5.out] at d4; have d8 := hF1.c8; rw [K6.out] at d8; have dE := hF1.era (j := i.toNat) (x := y) (by rw [K5.out]; exact HX.out); have fE := hF1.er.free i.toNat; have d1 := hF1.c1; rw [K2.out] at d1)
      go_loopw [49] (fun q wr => ∃ k : Nat, k ≤ s.np.toNat ∧ q = .int .i64 k ∧ FlashAt wr b gp cp ge ce { s.count with erases := s.erases.set i.toNat (y + 1), pages := erP s.pages (i * s.np).toNat k s.torn } ∧ Mods (FlF b gp ge) w wr) (fun q _ => s.np.toNat - (intOf q).toNat)
      case atStart =>
        have h1 := hF1.setEra i.toNat (y + 1)
        refine ⟨0, Nat.zero_le _, rfl, ?_, (((Mods.refl _ w).drewN nq).trans (hm1.mono One.flB) (fun i h => .inl h)).trans h1.2 (fun i h => .inl (.inr (.inr h)))⟩
        rw [erP_zero]
        have h2 := h1.1
        rw [K5.out] at h2
        have e : ({ s.count with erases := s.erases.set i.toNat (y + 1) } : FlashS) = { s.count with erases := s.erases.set i.toNat (y + 1), pages := s.pages } := by rw [← K4.out]
        rw [← e]
        exact h2
      case round =>
        obtain ⟨k, hk1, rfl, hR, hM⟩ := hrel
        by_cases hlt : k < s.np.toNat
        · have hlt1 : (k : Int) < s.np := by omega
          obtain ⟨x0, x1, x2, x3⟩ := HW.out.idx hi (k := (k : Int)) ⟨by omega, hlt1⟩
          have hq : (i * s.np).toNat + k < s.pages.length := by omega
          have AT : Calls Try.prog 30 #[.pointer (some ⟨b, 0, none⟩), .int .i64 i, .int .i64 (k : Int)] wr fun e w' => e = .returned (.pointer (some ⟨gp, (i * s.np).toNat + k, none⟩)) ∧ ∃ n, wr.drewN n = w' := by
            refine (at_gen i k wr hR (by show 0 ≤ i * s.count.np; rw [K2.out]; exact x0) (by show i * s.count.np ≤ 1024; rw [K2.out]; exact x1) (by show 0 ≤ i * s.count.np + k; rw [K2.out]; exact x2) (by show i * s.count.np + k < ((erP s.pages (i * s.np).toNat k s.torn).length : Nat); rw [K2.out, erP_length]; exact x3) (by have := HW.out.np1; omega)).mono ?_
            rintro e w' ⟨rfl, h⟩
            refine ⟨?_, h⟩
            have e1 : (i * s.count.np + k).toNat = (i * s.np).toNat + k := by rw [K2.out]; omega
            show Ending.returned (.pointer (some ⟨gp, (i * s.count.np + k).toNat, none⟩)) = _
            rw [e1]
          obtain ⟨x, hx⟩ : ∃ x, s.pages.getD ((i * s.np).toNat + k) ByteArray.empty = x := ⟨_, rfl⟩
          have hxs : x.size = 64 := by
            refine HW.out.p64 x ?_
            rw [← hx, List.getD, List.getElem?_eq_getElem hq]
            exact List.getElem_mem hq
          have hcx : wr.cell? ⟨gp, (i * s.np).toNat + k, none⟩ = some (.string x) := hR.page (by
            show (erP s.pages (i * s.np).toNat k s.torn)[(i * s.np).toNat + k]? = some x
            rw [erP_get _ _ _ _ hq, if_neg (by omega), hx])
          have hfx : wr.frozen? ⟨gp, (i * s.np).toNat + k, none⟩ = false := hR.pg.free _
          have HNX : Hid (erP s.pages (i * s.np).toNat (k + 1) s.torn = (erP s.pages (i * s.np).toNat k s.torn).set ((i * s.np).toNat + k) (mergeS x ff64 s.torn)) := by
            show _ = _
            rw [← erP_succ _ _ _ _ hq, hx]
          have HQ : Hid (k < s.np.toNat) := hlt
          have hk33 : k < 33 := by have := HW.out.np1; omega
          clear x0 x1 x2 x3 hx hq dE fE d1 d4 d8 hF1 hm1
          go_wp2_with (go_at_call 30; refine AT.mono ?_; rintro e w' ⟨rfl, n3, rfl⟩)
          go_region_with (first | (go_at_call 27; refine (repeat_ff _).mono ?_; rintro e w2 ⟨rfl, hm2⟩; have hc2 := hm2.cell (p := ⟨gp, (i * s.np).toNat + k, none⟩) hcx id; have hf2 := hm2.free (p := ⟨gp, (i * s.np).toNat + k, none⟩) hcx hfx id) | (go_at_call 32; refine (merge_any x ff64 s.torn _ (by rw [hxs, ff64_size]; omega) (by omega) HMK.out).mono ?_; rintro e w3 ⟨rfl, hm3⟩; have hc3 := hm3.cell hc2 id; have hf3 := hm3.free hc2 hf2 id))
          all_goals go_wp2
          all_goals (
            go_roundw
            case rel =>
              have hY := (((hR.drewN n3).drew.mods hm2 id id id).mods hm3 id id id).setPage ((i * s.np).toNat + k) (mergeS x ff64 s.torn)
              refine ⟨k + 1, HQ.out, by go_num, ?_, (((hM.drewN n3).drew.trans hm2 (fun i h => h.elim)).trans hm3 (fun i h => h.elim)).trans hY.2 (fun i h => .inl (.inr (.inl h)))⟩
              rw [HNX.out]
              exact hY.1
            case measure => have := HQ.out; simp [intOf]; omega)
        · have hge2 : ¬ (k : Int) < s.np := by omega
          obtain rfl : k = s.np.toNat := by omega
          clear hF1 hm1 dE fE d1 d4 d8
          go_wp2
          go_ret
          exact ⟨by rw [HE.out]; rfl, by rw [HE.out]; exact hR, hM⟩
end Go.Proofs.Ytachkcoilhlggaa
