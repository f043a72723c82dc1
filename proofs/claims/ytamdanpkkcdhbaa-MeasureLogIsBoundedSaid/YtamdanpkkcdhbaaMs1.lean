/- help.Mod with its value, and the log behind the measurements of a list of calls. -/
import Derived.Test.YtamdanpkkcdhbaaLw1
set_option linter.unusedVariables false
set_option linter.unusedSimpArgs false
namespace Go.Proofs.Ytamdanpkkcdhbaa
open Go.RowKit Go.PF

/-- what help.Mod returns -/
def modZ (n m : Int) : Int := (n % 18446744073709551616) % m
theorem modZ_range (n : Int) {m : Int} (hm : 0 < m) : 0 ≤ modZ n m ∧ modZ n m < m := ⟨Int.emod_nonneg _ (by omega), Int.emod_lt_of_pos _ hm⟩
theorem mod_val (n m : Int) (hn : -9223372036854775808 ≤ n ∧ n < 9223372036854775808) (hm : 0 < m ∧ m < 9223372036854775808) (w : World) :
    Calls Try.prog 14 #[.int .i64 n, .int .i64 m] w fun e w' => e = .returned (.int .i64 (modZ n m)) ∧ w = w' := by
  have h1 : IntKind.u64.wrap m = m := by rw [IntKind.wrap_u64]; omega
  obtain ⟨u, hu⟩ : ∃ u, IntKind.u64.wrap n = u := ⟨_, rfl⟩
  have hu' : u = n % 18446744073709551616 := by rw [← hu, IntKind.wrap_u64]
  have hu0 : 0 ≤ u ∧ u < 18446744073709551616 := by omega
  have hz : (m == 0) = false := by simp; omega
  have hr := modZ_range n hm.1
  have hm2 : modZ n m = u % m := by unfold modZ; rw [← hu']
  have HR := Lib.hid hr
  have HM2 := Lib.hid hm2
  clear hu' hr hm2
  go_enter Try.func14, Try.ntmps14
  go_wp2
  have hw : wrap64 (u % m) = modZ n m := by rw [HM2.out]; have h2 := HR.out; rw [HM2.out] at h2; unfold wrap64; omega
  rw [hw]
  go_ret
  exact ⟨rfl, rfl⟩

/-- the events behind measurements -/
def meas1 (evs : List Ev) (c : MCall) : List Ev := (measRes (replayL evs) evs (modZ c.reg 8) c.text c.data).2.2
def measAll (l : List MCall) : List Ev := l.foldl meas1 []
theorem measAll_push (l : List MCall) (c : MCall) : measAll (l ++ [c]) = meas1 (measAll l) c := by simp [measAll, List.foldl_append]
theorem meas1_len (evs : List Ev) (c : MCall) : (meas1 evs c).length ≤ evs.length + 1 := measRes_len _ _ _ _ _
theorem meas1_prefix (evs : List Ev) (c : MCall) : evs <+: meas1 evs c := by
  unfold meas1 measRes
  split
  · exact List.prefix_refl _
  · split
    · exact List.prefix_refl _
    · exact List.prefix_append _ _
theorem fold_len (l : List MCall) : ∀ evs : List Ev, (l.foldl meas1 evs).length ≤ evs.length + l.length := by
  induction l with
  | nil => intro evs; simp
  | cons c l ih =>
    intro evs
    have h1 := ih (meas1 evs c)
    have h2 := meas1_len evs c
    simp only [List.foldl_cons, List.length_cons]
    omega
theorem measAll_len (l : List MCall) : (measAll l).length ≤ l.length := by
  have := fold_len l []
  simpa [measAll] using this
theorem fold_prefix (l : List MCall) : ∀ evs : List Ev, evs <+: l.foldl meas1 evs := by
  induction l with
  | nil => intro evs; exact List.prefix_refl _
  | cons c l ih => intro evs; exact (meas1_prefix evs c).trans (ih _)
theorem measAll_prefix (l : List MCall) (k : Nat) : measAll (l.take k) <+: measAll l := by
  have h : measAll l = (l.drop k).foldl meas1 (measAll (l.take k)) := by
    unfold measAll
    rw [← List.foldl_append, List.take_append_drop]
  rw [h]
  exact fold_prefix _ _
theorem measAll_inRegs (l : List MCall) : inRegs (measAll l) := by
  have : ∀ evs : List Ev, inRegs evs → inRegs (l.foldl meas1 evs) := by
    induction l with
    | nil => intro evs h; exact h
    | cons c l ih => intro evs h; exact ih _ (measRes_inRegs _ _ _ _ _ h)
  exact this [] (fun e he => by cases he)

theorem Row.prefix {w : World} {k n c m : Nat} {A : Option Addr} {xs : List Value} (h : Row w k (.slice A n c) n xs) (hm : m ≤ n) : Row w k (.slice A m c) m (xs.take (m * k)) := by
  have hlen : (xs.take (m * k)).length = m * k := by
    rw [List.length_take, h.1]
    have := Nat.mul_le_mul_right k hm
    omega
  refine ⟨hlen, ?_⟩
  rcases h.2 with ⟨h1, h2⟩ | ⟨g, cap, h1, h2, h3, h4, h5⟩
  · cases h1
    exact .inl ⟨by rw [show m = 0 by omega], by omega⟩
  · cases h1
    refine .inr ⟨g, c, rfl, by omega, h3, fun j u hu => ?_, h5⟩
    rw [List.getElem?_take] at hu
    split at hu
    · exact h4 j u hu
    · cases hu
theorem evs_take (l : List Ev) (hok : ∀ e ∈ l, Ev.Ok e) (m : Nat) : (l.flatMap evV).take (m * 34) = (l.take m).flatMap evV := by
  induction l generalizing m with
  | nil => simp
  | cons e l ih =>
    cases m with
    | zero => simp
    | succ m =>
      have h1 := evV_length (hok e (by simp)).dig
      rw [List.flatMap_cons, List.take_append, h1, List.take_of_length_le (by rw [h1]; omega), List.take_succ_cons, List.flatMap_cons, show (m + 1) * 34 - 34 = m * 34 by omega, ih (fun x hx => hok x (by simp [hx]))]
/-- a log of its own -/
structure LogNew (evs : List Ev) (w : World) (e : Ending) (w' : World) : Prop where
  log : ∃ b v, e = .returned (.pointer (some ⟨b, 0, none⟩)) ∧ LogAt w' b v (replayL evs) evs ∧ ∀ q, Foot b v q → w.heap.size ≤ q
  mods : Mods No w w'

set_option maxHeartbeats 2000000 in
set_option maxRecDepth 100000 in
theorem measured_any (A : Option Addr) (len cap : Nat) (l : List MCall) (hl : l.length = len) (hwf : ∀ c ∈ l, MCall.WF c) (hsm : ∀ c ∈ l, c.text.size ≤ 100 ∧ c.data.size ≤ 100) (w : World) (hS : Sl w 4 A len (l.flatMap mCells)) :
    Calls Try.prog 32 #[.slice A len cap] w (LogNew (measAll l) w) := by
  have HS := Lib.hid hS
  have Hwf := Lib.hid hwf
  have Hsm := Lib.hid hsm
  clear hS hwf hsm
  go_enter Try.func32, Try.ntmps32
  go_wp2_with fail
  refine (new_any _).mono ?_
  rintro e w1 ⟨rfl, hA1, m1⟩
  have HA1 := Lib.hid hA1
  have HM1 := Lib.hid m1
  clear hA1 m1
  obtain ⟨b, hbA⟩ : ∃ b, w.heap.size = b := ⟨_, rfl⟩
  have hbl : w.heap.size ≤ b := by omega
  rw [hbA] at HA1 ⊢
  clear hbA
  go_wp2_with fail
  go_loopw [4] (fun q wr => ∃ (k : Nat) (v : Value) (evs : List Ev), k ≤ len ∧ q = .int .i64 k ∧ evs = measAll (l.take k) ∧ LogAt wr b v (replayL evs) evs ∧ (∀ q, Foot b v q → w.heap.size ≤ q) ∧ Mods No w wr) (fun q _ => len - (intOf q).toNat)
  case atStart => exact ⟨0, _, [], Nat.zero_le _, rfl, rfl, HA1.out, fun q hq => (by rcases hq with rfl | hq; exact hbl; cases hq), HM1.out⟩
  case round =>
    clear HA1 HM1
    obtain ⟨k, v, evs, hk, rfl, hevs, hL, hF, hM⟩ := hrel
    have HL := Lib.hid hL
    have HF := Lib.hid hF
    have HM := Lib.hid hM
    have Hevs := Lib.hid hevs
    clear hL hF hM hevs
    by_cases hlt : k < len
    · obtain ⟨c, hc⟩ := some_at (l := l) (i := k) (by omega)
      obtain ⟨g, o, hC⟩ := Sl.callAt (HS.out.mods HM.out (fun _ _ _ h => h)) hl hc
      obtain ⟨g', o', hC0⟩ := Sl.callAt HS.out hl hc
      obtain ⟨rfl, e0, -, -, -⟩ := hC0
      obtain ⟨hgo, d0, d1, d2, d3⟩ := hC
      cases hgo
      have hgW : g < w.heap.size := World.block_lt_of_cell? w ⟨g, o + k * 4, none⟩ e0
      have hkl : (k : Int) < len := by omega
      have hmx : len ≤ 9223372036854775807 := HS.out.2.1
      have hwc := (Hwf.out c (List.mem_of_getElem? hc)).reg
      have Hc := Lib.hid hc
      have hnG : ¬ Foot b v g := fun h => by have := HF.out g h; omega
      have c0 : ∀ y : Sub (Mods (Foot b v) wr), y.w.cell? ⟨g, o + k * 4, none⟩ = some (.int .i64 c.reg) := fun y => y.s.cell d0 hnG
      have c1 : ∀ y : Sub (Mods (Foot b v) wr), y.w.cell? ⟨g, o + k * 4 + 1, none⟩ = some (.string c.text) := fun y => y.s.cell d1 hnG
      have c2 : ∀ y : Sub (Mods (Foot b v) wr), y.w.cell? ⟨g, o + k * 4 + 2, none⟩ = some (.string c.data) := fun y => y.s.cell d2 hnG
      have hne : Nonempty (Sub (Mods (Foot b v) wr)) := ⟨⟨wr, Mods.refl _ _⟩⟩
      clear e0 d0 d1 d2 d3 hc
      have hmeasA := Lib.hid (fun w (h : LogAt w b v (replayL evs) evs) => measure_any b v (replayL evs) evs (modZ c.reg 8) c.text c.data w h (by have := Hsm.out c (List.mem_of_getElem? Hc.out); omega))
      have hnext := Lib.hid (show (measRes (replayL evs) evs (modZ c.reg 8) c.text c.data).2.2 = measAll (l.take (k + 1)) by rw [take_succ_of Hc.out, measAll_push, ← Hevs.out]; rfl)
      have hregs := Lib.hid (measRes_replay evs (modZ c.reg 8) c.text c.data)
      have hmodv := Lib.hid (fun w => mod_val c.reg 8 hwc (by omega) w)
      generalize measRes (replayL evs) evs (modZ c.reg 8) c.text c.data = M at hmeasA hnext hregs
      generalize modZ c.reg 8 = md at hmeasA hmodv
      obtain ⟨M1, M2, M3⟩ := M
      dsimp only at hnext hregs
      go_wp2_with fail
      refine wp_region_sub false (Mods (Foot b v) wr) [(0, false), (1, false), (2, false), (3, false), (4, false), (5, false), (7, false), (8, false), (9, false), (10, false), (11, false), (12, false), (13, false), (14, false), (15, false), (16, false), (6, true), (17, true)] (by kernel_rfl) (by kernel_rfl) (Mods.refl _ _).drew ?_
      simp only [pickL, List.map_cons, List.map_nil, List.getElem?_cons_zero, List.getElem?_cons_succ, Option.getD_some]
      refine wpSt_quiet rfl ?_
      go_big_quiet_want
      go_big_quiet_op
      go_big_quiet_on
      refine wpQuiet_nil ?_
      refine wpSt_quiet rfl ?_
      go_big_quiet_want
      go_big_quiet_op
      go_big_quiet_on
      refine wpQuiet_nil ?_
      refine wpSt_quiet rfl ?_
      go_big_quiet_want
      go_big_quiet_op
      go_big_quiet_on
      refine wpQuiet_nil ?_
      refine wpSt_quiet rfl ?_
      go_big_quiet_want
      go_big_quiet_op
      go_big_quiet_on
      refine wpQuiet_nil ?_
      refine wpSt_quiet rfl ?_
      go_big_quiet_want
      go_big_quiet_op
      go_big_quiet_on
      refine wpQuiet_nil ?_
      refine wpSt_quiet rfl ?_
      go_big_quiet_want
      go_big_quiet_op
      go_big_quiet_on
      refine wpQuiet_nil ?_
      refine wpSt_quiet rfl ?_
      go_big_quiet_want
      go_big_quiet_op
      go_big_quiet_on
      refine wpQuiet_nil ?_
      refine wpSt_quiet rfl ?_
      go_big_quiet_want
      go_big_quiet_op
      go_big_quiet_on
      refine wpQuiet_nil ?_
      refine wpSt_quiet rfl ?_
      go_big_quiet_want
      go_big_quiet_op
      go_big_quiet_on
      refine wpQuiet_nil ?_
      refine wpSt_quiet rfl ?_
      go_big_quiet_want
      go_big_quiet_op
      go_big_quiet_on
      refine wpQuiet_nil ?_
      refine wpSt_quiet rfl ?_
      go_big_quiet_want
      go_big_quiet_op
      go_big_quiet_on
      refine wpQuiet_nil ?_
      refine wpSt_quiet rfl ?_
      go_big_quiet_want
      go_big_quiet_op
      go_big_quiet_on
      refine wpQuiet_nil ?_
      refine wpSt_quiet rfl ?_
      go_big_quiet_want
      go_big_quiet_op
      go_big_quiet_on
      refine wpQuiet_nil ?_
      refine wpSt_quiet rfl ?_
      go_big_quiet_want
      go_big_quiet_op
      go_big_quiet_on
      refine wpQuiet_nil ?_
      refine wpSt_quiet rfl ?_
      go_big_quiet_want
      go_big_quiet_op
      go_big_quiet_on
      refine wpQuiet_nil ?_
      refine wpSt_quiet rfl ?_
      go_big_quiet_want
      go_big_quiet_op
      go_big_quiet_on
      refine wpQuiet_nil ?_
      refine wpSt_step ?_
      go_wp2_with fail
      refine (hmodv.out _).mono ?_
      rintro e w' ⟨rfl, rfl⟩
      go_wp2_with fail
      refine nowhere_up ⟨rfl, .inr (inSub_mk (Mods.refl _ _).drew), ?_⟩
      refine wpSt_step ?_
      go_wp2_with fail
      refine (hmeasA.out _ (HL.out.no (Mods.refl No wr).drew)).mono ?_
      rintro e w7 p7
      have he := p7.ret
      dsimp only at he
      subst he
      have P7 := Lib.hid p7
      have g7 : Mods (Foot b v) wr w7 := p7.mods.undrew
      have G7 := Lib.hid g7
      clear p7
      go_wp2_with fail
      refine nowhere_up ⟨rfl, .inr (inSub_mk g7), ?_⟩
      refine wpSt_nil ?_
      clear g7 c0 c1 c2 hne
      go_wp2_with fail
      obtain ⟨v', hL', hb'⟩ := P7.out.log
      have hfn := foot_new (b := b) hb'
      go_roundw
      case rel =>
        refine ⟨k + 1, v', M3, by omega, by go_num, hnext.out, ?_, fun q hq => ?_, ?_⟩
        · rw [← hregs.out]; exact hL'
        · rcases hfn q hq with h | h
          · exact HF.out q h
          · exact Nat.le_trans HM.out.size h
        · exact HM.out.trans G7.out (fun q hq => .inr (HF.out q hq))
      case measure => simp [intOf]; omega
    · obtain rfl : k = len := by omega
      have hkl : (k : Int) ≤ k := Int.le_refl _
      rw [← hl, List.take_length] at Hevs
      clear hlt hk
      go_wp2_with fail
      go_ret
      exact ⟨⟨b, v, rfl, by rw [← Hevs.out]; exact HL.out, HF.out⟩, HM.out⟩
end Go.Proofs.Ytamdanpkkcdhbaa
