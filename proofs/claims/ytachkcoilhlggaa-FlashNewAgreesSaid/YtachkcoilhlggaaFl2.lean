/- The walks over package flash: merge, Program, Erase. -/
import Derived.Test.YtachkcoilhlggaaFl1
import Derived.Laws.BytesArg
import Derived.Lib.ConvBytes
import Derived.Deep.RegionWith
set_option linter.unusedVariables false
set_option linter.unusedSimpArgs false
namespace Go.Proofs.Ytachkcoilhlggaa
open Go.RowKit Go.PF

/-- byte i of s, as the machine reads it -/
def byt (s : ByteArray) (i : Nat) : Int := ((s.data.toList.getD i 0).toNat : Int)

theorem byt_at (s : ByteArray) (i : Nat) (h : i < s.size) : ((s[i].toNat : Nat) : Int) = byt s i := by
  have h' : i < s.data.toList.length := by simpa using h
  simp only [byt, List.getD, List.getElem?_eq_getElem h', Option.getD_some]
  rfl

def mk8 (mask : Int) (k : Nat) : Int := mask / 2 ^ (8 * (k % 8)) % 256
def mByte (o d m : Int) : Int := Go.bits .or .u8 (Go.bits .andNot .u8 o m) (Go.bits .and .u8 d m)
def mergeL (old data : ByteArray) (mask : Int) : List Int := (List.range old.size).map fun k => mByte (byt old k) (byt data k) (mk8 mask k)
def mergeS (old data : ByteArray) (mask : Int) : ByteArray := strOfNums (mergeL old data mask)

theorem bytes_free (w : World) (e : TypeId) (s : ByteArray) (j : Nat) (hj : j < s.size) : (Lib.bytesWorld w e s).frozen? ⟨w.heap.size, j, none⟩ = false := by
  have hc : s.size ≤ (Lib.bytesCells w e s).size := by simp [Lib.bytesCells]
  simp only [World.frozen?, Lib.bytesWorld_at_new]
  simp
  omega
theorem bytes_mods (w : World) (e : TypeId) (s : ByteArray) : Mods No w (Lib.bytesWorld w e s) :=
  ⟨rfl, rfl, rfl, by rw [Lib.bytesWorld_size]; omega, fun k hk _ => Lib.bytesWorld_at_old w e s k hk⟩

theorem merge_any (old data : ByteArray) (mask : Int) (w : World) (h1 : old.size ≤ data.size) (h2 : old.size ≤ 1048576) (hm : 0 ≤ mask ∧ mask < 18446744073709551616) :
    Calls Try.prog 32 #[.string old, .string data, .int .u64 mask] w fun e w' => e = .returned (.string (mergeS old data mask)) ∧ Mods No w w' := by
  obtain ⟨hm0, hm1⟩ := hm
  have hk := Lib.run_convert_string_bytes (P := Try.prog) w 9 71 5 old Try.underlying9 Try.underlying71 Try.underlying5
  go_enter Try.func32, Try.ntmps32
  go_wp2
  go_loopw [14] (fun i wr => ∃ k : Nat, k ≤ old.size ∧ i = .int .i64 k ∧ (∀ j, j < old.size → wr.cell? ⟨w.heap.size, j, none⟩ = some (.int .u8 (if j < k then mByte (byt old j) (byt data j) (mk8 mask j) else byt old j)) ∧ wr.frozen? ⟨w.heap.size, j, none⟩ = false) ∧ Mods No w wr) (fun i _ => old.size - (intOf i).toNat)
  case atStart => exact ⟨0, Nat.zero_le _, rfl, fun j hj => ⟨by rw [if_neg (Nat.not_lt_zero _)]; exact Lib.bytesWorld_cell w _ old j hj, bytes_free w _ old j hj⟩, bytes_mods w _ old⟩
  case round =>
    obtain ⟨k, hk1, rfl, hc, hM⟩ := hrel
    by_cases hlt : k < old.size
    · have c0 := (hc k hlt).1
      rw [if_neg (Nat.lt_irrefl _)] at c0
      have hfr := (hc k hlt).2
      have hlt2 : (k : Int) < old.size := by omega
      have hdl : (k : Int) < data.size := by omega
      have HC : Hid (∀ j, j < old.size → wr.cell? ⟨w.heap.size, j, none⟩ = some (.int .u8 (if j < k then mByte (byt old j) (byt data j) (mk8 mask j) else byt old j)) ∧ wr.frozen? ⟨w.heap.size, j, none⟩ = false) := hc
      clear hc
      go_wp2
      go_region
      all_goals go_wp2
      go_roundw
      case rel =>
        refine ⟨k + 1, by omega, by go_num, fun j hj => ?_, (hM.setCell (p := ⟨w.heap.size, k, none⟩) (.inr (Nat.le_refl _)) _).drew⟩
        obtain ⟨a1, a2⟩ := HC.out j hj
        refine ⟨?_, by rw [← a2]; exact World.frozen?_setCell _ _ _ _⟩
        by_cases hjk : j = k
        · subst hjk
          rw [if_pos (Nat.lt_succ_self _)]
          refine (cell_eq wr _ c0).trans ?_
          rw [byt_at data j (by omega)]
          rfl
        · refine (cell_ne wr _ (.inr (fun e => hjk e.symm))).trans (a1.trans ?_)
          congr 2
          by_cases hj2 : j < k
          · rw [if_pos hj2, if_pos (by omega)]
          · rw [if_neg hj2, if_neg (by omega)]
      case measure => simp [intOf]; omega
    · obtain rfl : k = old.size := by omega
      have hcv := run_convert_bytes_arg (P := Try.prog) wr 71 5 Try.underlying71 Try.underlying5 w.heap.size 0 old.size (grownCap w old.size 0 5) (mergeL old data mask) (by simp [mergeL])
        (fun i hi => by rw [Nat.zero_add, (hc i hi).1, if_pos hi, List.getD, mergeL, List.getElem?_map, List.getElem?_range hi]; rfl) 9 Try.underlying9
      clear hc
      go_wp2
      go_ret
      exact ⟨rfl, hM⟩

def clearsB (old data : ByteArray) : Bool := (List.range data.size).all fun i => Go.bits .andNot .u8 (byt data i) (byt old i) == 0
def FlashS.setPage (s : FlashS) (i k : Int) (x : ByteArray) : FlashS := { s with pages := s.pages.set (s.idx i k) x }
def FlashS.prog (s : FlashS) (i k : Int) (data : ByteArray) : Int × FlashS :=
  if data.size ≠ 64 then (1, s)
  else if s.chk i k ≠ 0 then (s.chk i k, s)
  else if clearsB (s.page i k) data = false then (9, s)
  else if s.intr then (16, s.count.setPage i k (mergeS (s.page i k) data s.torn))
  else (0, s.count.setPage i k data)

theorem count_same (s : FlashS) : s.count.nb = s.nb ∧ s.count.np = s.np ∧ s.count.en = s.en ∧ s.count.pages = s.pages ∧ s.count.erases = s.erases ∧ s.count.torn = s.torn := by
  unfold FlashS.count FlashS.lose
  split
  · split <;> exact ⟨rfl, rfl, rfl, rfl, rfl, rfl⟩
  · exact ⟨rfl, rfl, rfl, rfl, rfl, rfl⟩

variable {b gp cp ge ce : Nat} {s : FlashS}

/-- a page is stored -/
theorem FlashAt.setPage {w : World} (h : FlashAt w b gp cp ge ce s) (j : Nat) (x : ByteArray) : FlashAt (w.setCell ⟨gp, j, none⟩ (.string x)) b gp cp ge ce { s with pages := s.pages.set j x } ∧ Mods (One gp) w (w.setCell ⟨gp, j, none⟩ (.string x)) := by
  have m : Mods (One gp) w (w.setCell ⟨gp, j, none⟩ (.string x)) := mods1 _ _ _ _
  refine ⟨⟨?_, ?_, ?_⟩, m⟩
  · have := m.heap h.st (fun e => h.bp e.symm)
    simpa using this
  · have := h.pg.set j (.string x)
    simpa [strs] using this
  · exact h.er.mods m (fun g hg => by cases hg; exact fun e => h.pe e.symm)

/-- how a call of the flash ends: its result, the flash behind it -/
structure FlRet (w : World) (b gp cp ge ce : Nat) (x : Int × FlashS) (e : Ending) (w' : World) : Prop where
  ret : e = .returned (.int .i64 x.1)
  at_ : FlashAt w' b gp cp ge ce x.2
  mods : Mods (FlF b gp ge) w w'
theorem One.flB {b gp ge : Nat} : ∀ i, One b i → FlF b gp ge i := fun _ h => .inl h

theorem prog_any (i k : Int) (data : ByteArray) (w : World) (hF : FlashAt w b gp cp ge ce s) (hw : s.WF) :
    Calls Try.prog 12 #[.pointer (some ⟨b, 0, none⟩), .int .i64 i, .int .i64 k, .string data] w (FlRet w b gp cp ge ce (s.prog i k data)) := by
  by_cases h64 : data.size = 64
  case neg =>
    have hE : Hid (s.prog i k data = (1, s)) := by show s.prog i k data = _; rw [FlashS.prog, if_pos h64]
    have hx : ((data.size : Int) != 64) = true := by simpa using (fun e : (data.size : Int) = 64 => h64 (by omega))
    go_enter Try.func12, Try.ntmps12
    go_wp2_with fail
    go_ret
    exact ⟨by rw [hE.out]; rfl, by rw [hE.out]; exact hF, Mods.refl _ _⟩
  have hx : ((data.size : Int) != 64) = false := by simp [h64]
  by_cases hz : s.chk i k = 0
  case neg =>
    have hE : Hid (s.prog i k data = (s.chk i k, s)) := by show s.prog i k data = _; rw [FlashS.prog, if_neg (by simpa using h64), if_pos hz]
    have hz' : (s.chk i k != 0) = true := by simpa using hz
    go_enter Try.func12, Try.ntmps12
    go_wp2_with (go_at_call 29; refine (check_any _ _ _ hF).mono ?_; rintro e w' ⟨rfl, rfl⟩)
    go_ret
    exact ⟨by rw [hE.out]; rfl, by rw [hE.out]; exact hF, Mods.refl _ _⟩
  obtain ⟨hi, hk, hoff⟩ := chk_range hz
  obtain ⟨x0, x1, x2, x3⟩ := hw.idx hi hk
  have hpg : s.pages[s.idx i k]? = some (s.page i k) := by unfold FlashS.page FlashS.idx; rw [List.getD, List.getElem?_eq_getElem (by omega)]; rfl
  have hps : (s.page i k).size = 64 := hw.p64 _ (List.mem_of_getElem? hpg)
  have hE9 : Hid (clearsB (s.page i k) data = false → s.prog i k data = (9, s)) := fun h => by rw [FlashS.prog, if_neg (by simpa using h64), if_neg (by simpa using hz), if_pos h]
  have hE16 : Hid (clearsB (s.page i k) data = true → s.intr = true → s.prog i k data = (16, s.count.setPage i k (mergeS (s.page i k) data s.torn))) := fun h h' => by rw [FlashS.prog, if_neg (by simpa using h64), if_neg (by simpa using hz), if_neg (by simp [h]), if_pos h']
  have hE0 : Hid (clearsB (s.page i k) data = true → s.intr = false → s.prog i k data = (0, s.count.setPage i k data)) := fun h h' => by rw [FlashS.prog, if_neg (by simpa using h64), if_neg (by simpa using hz), if_neg (by simp [h]), if_neg (by simp [h'])]
  have hc := hF.page hpg
  obtain ⟨pg, hpgE⟩ : ∃ pg, s.page i k = pg := ⟨_, rfl⟩
  rw [hpgE] at hps hc hE9 hE16 hE0
  go_enter Try.func12, Try.ntmps12
  go_wp2_with (first | (go_at_call 29; refine (check_any _ _ _ hF).mono ?_; rintro e w' ⟨rfl, rfl⟩; rw [hz]) | (go_at_call 30; refine (at_any _ _ _ hF hw hi hk).mono ?_; rintro e w' ⟨rfl, n, rfl⟩))
  go_loopw [28] (fun q wr => ∃ k : Nat, k ≤ 64 ∧ q = .int .i64 k ∧ (∀ j, j < k → Go.bits .andNot .u8 (byt data j) (byt pg j) = 0) ∧ ∃ n, w.drewN n = wr) (fun q _ => 64 - (intOf q).toNat)
  case atStart => exact ⟨0, Nat.zero_le _, rfl, fun j hj => absurd hj (Nat.not_lt_zero _), n, rfl⟩
  case round =>
    obtain ⟨q, hq, rfl, hall, n2, rfl⟩ := hrel
    by_cases hlt : q < 64
    · have hq1 : (q : Int) < 64 := by omega
      have HA : Hid (∀ j, j < q → Go.bits .andNot .u8 (byt data j) (byt pg j) = 0) := hall
      clear hall
      by_cases hb : Go.bits .andNot .u8 (byt data q) (byt pg q) = 0
      · have hb' : ∀ h1 h2, (Go.bits .andNot .u8 (((data[q]'h1).toNat : Nat) : Int) (((pg[q]'h2).toNat : Nat) : Int) != 0) = false := fun h1 h2 => by rw [byt_at, byt_at]; simpa using hb
        have HB : Hid (Go.bits .andNot .u8 (byt data q) (byt pg q) = 0) := hb
        have HE : Hid (s.page i k = pg) := hpgE
        clear hb hF hw hpg hpgE hi hk hz x0 x1 x2 x3
        go_wp2
        go_quiet (fail)
        go_wp2
        go_roundw
        case rel => exact ⟨q + 1, by omega, by go_num, fun j hj => by
            by_cases e : j = q
            · subst e; exact HB.out
            · exact HA.out j (by omega), _, rfl⟩
        case measure => simp [intOf]; omega
      · have hb' : ∀ h1 h2, (Go.bits .andNot .u8 (((data[q]'h1).toNat : Nat) : Int) (((pg[q]'h2).toNat : Nat) : Int) != 0) = true := fun h1 h2 => by rw [byt_at, byt_at]; simpa using hb
        have hcl : clearsB pg data = false := by
          rw [Bool.eq_false_iff]
          intro h
          exact hb (by simpa using (List.all_eq_true.1 h q (by rw [h64]; exact List.mem_range.2 hlt)))
        have HE := hE9.out hcl
        have HE2 : Hid (s.prog i k data = (9, s)) := HE
        have HF : Hid (FlashAt w b gp cp ge ce s) := hF
        clear hb hF hw hpg hpgE hi hk hz x0 x1 x2 x3 HE hcl
        go_wp2
        go_quiet (fail)
        go_wp2
        go_ret
        exact ⟨by rw [HE2.out]; rfl, by rw [HE2.out]; exact (HF.out.drewN _).drewN _, ((Mods.refl _ _).drewN _).drewN _⟩
    · obtain rfl : q = 64 := by omega
      have hcl : clearsB pg data = true := List.all_eq_true.2 fun j hj => by
        rw [h64] at hj
        simpa using hall j (List.mem_range.1 hj)
      have hcs := count_same s
      obtain ⟨k1, k2, k3, k4, k5, k6⟩ := hcs
      have hidx : s.count.idx i k = s.idx i k := by unfold FlashS.idx; rw [k2]
      have hpg1 : s.count.pages[s.idx i k]? = some pg := by rw [k4, hpg, hpgE]
      have hsp : ∀ x, s.count.setPage i k x = { s.count with pages := s.count.pages.set (s.idx i k) x } := fun x => by unfold FlashS.setPage; rw [hidx]
      cases hin : s.intr
      · have HE2 : Hid (s.prog i k data = _) := hE0.out hcl hin
        have HS : Hid (∀ x, s.count.setPage i k x = { s.count with pages := s.count.pages.set (s.idx i k) x }) := hsp
        have HP : Hid (s.count.pages[s.idx i k]? = some pg) := hpg1
        clear hall hcl hpgE hpg hE9 hE16 hE0 hpg1 hsp k1 k2 k3 k4 k5 k6 hidx
        go_wp2_with (go_at_call 31; refine (interrupted_any _ (hF.drewN _) hw.l0).mono ?_; rintro e w1 ⟨rfl, hF1, hm1⟩; rw [hin]; have hc1 := hF1.page HP.out; have hf1 := hF1.pg.free (s.idx i k))
        go_ret
        exact ⟨by rw [HE2.out]; rfl, by rw [HE2.out]; show FlashAt _ b gp cp ge ce (s.count.setPage i k data); rw [HS.out]; exact (hF1.setPage _ _).1,
          (((Mods.refl _ w).drewN n2).trans (hm1.mono One.flB) (fun i h => .inl h)).trans (hF1.setPage (s.idx i k) data).2 (fun i h => .inl (.inr (.inl h)))⟩
      · have HE2 : Hid (s.prog i k data = _) := hE16.out hcl hin
        have HS : Hid (∀ x, s.count.setPage i k x = { s.count with pages := s.count.pages.set (s.idx i k) x }) := hsp
        have HP : Hid (s.count.pages[s.idx i k]? = some pg) := hpg1
        have HK : Hid (s.count.torn = s.torn) := k6
        have hpb : gp ≠ b := hF.bp
        clear hall hcl hpgE hpg hE9 hE16 hE0 hpg1 hsp k1 k2 k3 k4 k5 k6 hidx
        go_wp2_with (go_at_call 31; refine (interrupted_any _ (hF.drewN _) hw.l0).mono ?_; rintro e w1 ⟨rfl, hF1, hm1⟩; rw [hin]; have hc1 := hF1.page HP.out; have hf1 := hF1.pg.free (s.idx i k); have ht1 := hF1.c8; rw [HK.out] at ht1)
        go_region_with (go_at_call 32; refine (merge_any pg data s.torn _ (by omega) (by omega) hw.t0).mono ?_; rintro e w2 ⟨rfl, hm2⟩; have hc2 := hm2.cell hc1 id; have hf2 := hm2.free hc1 hf1 id)
        all_goals go_wp2
        all_goals go_ret
        all_goals (
          refine ⟨by rw [HE2.out]; rfl, ?_, ?_⟩
          · rw [HE2.out]
            show FlashAt _ b gp cp ge ce (s.count.setPage i k (mergeS pg data s.torn))
            rw [HS.out]
            exact ((hF1.drew.mods hm2 id id id).setPage _ _).1
          · exact ((((Mods.refl _ w).drewN n2).trans (hm1.mono One.flB) (fun i h => .inl h)).drew.trans hm2 (fun i h => h.elim)).trans ((hF1.drew.mods hm2 id id id).setPage (s.idx i k) (mergeS pg data s.torn)).2 (fun i h => .inl (.inr (.inl h))))
end Go.Proofs.Ytachkcoilhlggaa
