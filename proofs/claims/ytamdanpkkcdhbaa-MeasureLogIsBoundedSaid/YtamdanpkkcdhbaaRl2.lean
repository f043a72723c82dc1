/- The reference's log: Measure. -/
import Derived.Test.YtamdanpkkcdhbaaRl1
set_option linter.unusedVariables false
set_option linter.unusedSimpArgs false
namespace Go.Proofs.Ytamdanpkkcdhbaa
open Go.RowKit Go.PF

set_option maxHeartbeats 2000000 in
set_option maxRecDepth 100000 in
theorem refMeasure_ok (b : Nat) (v : Value) (evs : List Ev) (n : Nat) (text data : ByteArray) (D : List Int) (w : World) (hL : RefAt w b v evs) (hk1 : (n : Int) < 8) (ht : (text.size : Int) ≤ 64) (hn : (evs.length : Int) < 256)
    (hD : D.length = 32) (hSum : ∀ w, Calls Try.prog 16 #[.string data] w fun e w' => e = .returned (.agg (u8s D).toArray) ∧ Mods No w w') :
    Calls Try.prog 25 #[.pointer (some ⟨b, 0, none⟩), .int .i64 (n : Int), .string text, .string data] w (RefPost b v 0 (evs ++ [⟨n, D, text⟩]) w) := by
  have hk0 : 0 ≤ (n : Int) := by omega
  have hc := hL.cell
  obtain ⟨A, c, hv, -, -, -⟩ := hL.row.shape
  subst hv
  have HL := Lib.hid hL
  have HSum := Lib.hid hSum
  have HD := Lib.hid hD
  have hlen : (evV ⟨n, D, text⟩).length = 1 * 34 := evV_length hD
  have hokE : Ev.Ok ⟨n, D, text⟩ := ⟨by show _ ≤ (n : Int); omega, by show (n : Int) ≤ _; omega, hD⟩
  have Hlen := Lib.hid hlen
  have HokE := Lib.hid hokE
  clear hL hSum hD hlen hokE
  go_enter Try.func25, Try.ntmps25
  go_wp2_with fail
  have cS : ∀ y : Sub (fun w' => w'.cell? ⟨b, 0, none⟩ = some (.slice A evs.length c)), y.w.cell? ⟨b, 0, none⟩ = some (.slice A evs.length c) := fun y => y.s
  have hne : Nonempty (Sub (fun w' => w'.cell? ⟨b, 0, none⟩ = some (.slice A evs.length c))) := ⟨⟨w, hc⟩⟩
  refine wp_region_sub true (fun w' => w'.cell? ⟨b, 0, none⟩ = some (.slice A evs.length c)) [(0, false), (1, false), (2, false), (3, false), (4, false), (5, false), (6, false), (8, false), (7, true), (9, false), (10, true), (11, true), (12, false), (13, false), (14, true)] (by kernel_rfl) (by kernel_rfl) hc ?_
  simp only [pickL, List.map_cons, List.map_nil, List.getElem?_cons_zero, List.getElem?_cons_succ, Option.getD_some]
  refine wpSt_quiet rfl ?_
  go_big_quiet_want
  go_big_quiet_op
  go_big_quiet_on
  refine wpQuiet_nil ?_
  refine wpSt_quiet rfl ?_
  go_big_quiet_want
  go_big_quiet_op
  go_big_quiet_on
  refine wpQuiet_nil ?_
  refine wpSt_quiet rfl ?_
  go_big_quiet_want
  go_big_quiet_op
  go_big_quiet_on
  refine wpQuiet_nil ?_
  refine wpSt_quiet rfl ?_
  go_big_quiet_want
  go_big_quiet_op
  go_big_quiet_on
  refine wpQuiet_nil ?_
  refine wpSt_quiet rfl ?_
  go_big_quiet_want
  go_big_quiet_op
  go_big_quiet_on
  refine wpQuiet_nil ?_
  refine wpSt_quiet rfl ?_
  go_big_quiet_want
  go_big_quiet_op
  go_big_quiet_on
  refine wpQuiet_nil ?_
  refine wpSt_quiet rfl ?_
  go_big_quiet_want
  go_big_quiet_op
  go_big_quiet_on
  refine wpQuiet_nil ?_
  refine wpSt_quiet rfl ?_
  go_big_quiet_want
  go_big_quiet_op
  go_big_quiet_on
  refine wpQuiet_nil ?_
  refine wpSt_step ?_
  go_wp2_with fail
  refine (HSum.out _).mono ?_
  rintro e w1 ⟨rfl, m1⟩
  have hm1 : Mods No w w1 := m1.undrew
  have H1 := Lib.hid (HL.out.no hm1)
  have hc1 := H1.out.cell
  have HM1 := Lib.hid hm1
  clear m1 hm1 HL hc
  go_wp2_with fail
  refine nowhere_up ⟨rfl, .inr (inSub_mk hc1), ?_⟩
  refine wpSt_quiet rfl ?_
  go_big_quiet_want
  refine quiet_of_run (.agg (evV ⟨n, D, text⟩).toArray) (fun w _ => op_value _ (by simp [execOp, Act.eval]) (build_ev n D text HD.out w)) ?_
  go_big_quiet_on
  refine wpQuiet_nil ?_
  simp only [Act.put, List.setIfInBounds_toArray, List.set_cons_succ, List.set_cons_zero]
  have hE : Arr (w1.alloc (.cells (evV ⟨n, D, text⟩).toArray 45)) w1.heap.size (evV ⟨n, D, text⟩) := Arr.new _ _ _
  have hc2 : (w1.alloc (.cells (evV ⟨n, D, text⟩).toArray 45)).cell? ⟨b, 0, none⟩ = some (.slice A evs.length c) := ((Mods.refl No w1).alloc _).cell hc1 id
  refine wpSt_value (.slice (some ⟨w1.heap.size, 0, none⟩) 1 1) _ rfl (op_value _ (by simp [execOp, Act.eval]) (buildSlice_ev n D text HD.out w1)) (.inr (inSub_mk hc2)) ?_
  simp only [Act.put, List.setIfInBounds_toArray, List.set_cons_succ, List.set_cons_zero]
  have H2 := Lib.hid (H1.out.no ((Mods.refl No w1).alloc (.cells (evV ⟨n, D, text⟩).toArray 45)))
  have HM2 := Lib.hid (HM1.out.alloc (.cells (evV ⟨n, D, text⟩).toArray 45))
  clear H1 HM1 hc1
  generalize w1.alloc (.cells (evV ⟨n, D, text⟩).toArray 45) = w2 at H2 HM2 hE hc2 ⊢
  generalize w1.heap.size = B10 at hE ⊢
  have HE := Lib.hid hE
  obtain ⟨iE, hiE, hzE, hsE, hyE⟩ := info_parts infoEv3
  clear hE
  refine wpSt_step ?_
  go_wp2_with (at_builtin; refine wpList_append_row rfl _ _ 46 rfl 45 iE _ 34 56 Try.underlying46 hiE hzE hsE hyE rfl (by decide) _ _ _ (by rfl) H2.out.row ⟨B10, 0, none⟩ 1 1 (evV ⟨n, D, text⟩) (by rfl) Hlen.out ?c1 (evV_one _) ?c2 ?c3 ?_)
  case c1 =>
    intro j u hu
    rw [Addr.add_lit, Nat.zero_add]
    exact (HE.out j u hu).1
  case c2 => unfold maxLen; omega
  case c3 => omega
  intro v' w4 hr4 hm4 hb4
  obtain ⟨A', c', rfl, -, -, -⟩ := hr4.shape
  obtain ⟨hp1, hp2, hp3, hp4⟩ := H2.out.push ⟨n, D, text⟩ HokE.out _ hr4 hm4 hb4
  have hM5 : Mods (Foot b (.slice A evs.length c)) w (w4.setCell ⟨b, 0, none⟩ (.slice A' (evs.length + 1) c')) := (HM2.out.mono (G := Foot b (.slice A evs.length c)) (fun i h => h.elim)).trans hp4 (fun i h => .inl h)
  have hb5 : (Value.slice A' (evs.length + 1) c').ownBlock = (Value.slice A evs.length c).ownBlock ∨ ∃ g, (Value.slice A' (evs.length + 1) c').ownBlock = some g ∧ w.heap.size ≤ g := by
    rcases hb4 with h | ⟨g, h1, h2⟩
    · exact .inl h
    · exact .inr ⟨g, h1, Nat.le_trans HM2.out.size h2⟩
  have G1 := Lib.hid hp1
  have G3 := Lib.hid hM5
  have G4 := Lib.hid hb5
  clear hr4 hm4 hb4 hp1 hp4 hM5 hb5 HE H2 HM2
  refine (show nowhere _ .normal _ _ from nowhere_up ⟨rfl, inSub_mk hp2, ?_⟩)
  refine wpSt_quiet rfl ?_
  go_big_quiet_want
  go_big_quiet_op
  go_big_quiet_on
  refine wpQuiet_nil ?_
  refine wpSt_quiet rfl ?_
  go_big_quiet_want
  go_big_quiet_op
  go_big_quiet_on
  refine wpQuiet_nil ?_
  refine wpSt_step ?_
  go_wp2_with fail
  refine nowhere_up ⟨rfl, wpSt_nil ?_⟩
  go_wp2_with fail
  go_ret
  exact ⟨rfl, ⟨_, G1.out, G4.out⟩, G3.out⟩

theorem refMeasure_any (b : Nat) (v : Value) (regs : List (List Int)) (evs : List Ev) (k : Int) (text data : ByteArray) (w : World) (hL : RefAt w b v evs) (hd : data.size ≤ 1000000) :
    Calls Try.prog 25 #[.pointer (some ⟨b, 0, none⟩), .int .i64 k, .string text, .string data] w (RefPost b v (measRes regs evs k text data).1 (measRes regs evs k text data).2.2 w) := by
  by_cases hb : measBad k text
  · rw [show measRes regs evs k text data = (1, regs, evs) by unfold measRes; rw [if_pos hb]]
    exact refMeasure_bad b v evs k text data w hL hb
  · have hkk : 0 ≤ k ∧ k < 8 := by
      by_cases h : 0 ≤ k ∧ k < 8
      · exact h
      · exact absurd (.inl h) hb
    have ht : text.size ≤ 64 := by
      by_cases h : 64 < text.size
      · exact absurd (.inr h) hb
      · omega
    by_cases hn : 256 ≤ evs.length
    · rw [show measRes regs evs k text data = (8, regs, evs) by unfold measRes; rw [if_neg hb, if_pos hn]]
      exact refMeasure_full b v evs k text data w hL hkk.1 hkk.2 (by omega) (by omega)
    · rw [show measRes regs evs k text data = (0, regs.set k.toNat (extL (regs.getD k.toNat []) (shaL data)), evs ++ [⟨k, shaL data, text⟩]) by unfold measRes; rw [if_neg hb, if_neg hn]]
      obtain ⟨n, rfl⟩ : ∃ n : Nat, k = n := ⟨k.toNat, by omega⟩
      exact refMeasure_ok b v evs n text data (shaL data) w hL hkk.2 (by omega) (by omega) (shaL_length _) (fun w => refSum_any data hd w)
end Go.Proofs.Ytamdanpkkcdhbaa
