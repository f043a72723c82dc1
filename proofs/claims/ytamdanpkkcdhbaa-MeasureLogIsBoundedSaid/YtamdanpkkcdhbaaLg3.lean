/- The measurement log: Measure. -/
import Derived.Test.YtamdanpkkcdhbaaLg2
set_option linter.unusedVariables false
set_option linter.unusedSimpArgs false
namespace Go.Proofs.Ytamdanpkkcdhbaa
open Go.RowKit Go.PF

theorem noPanic_up {Q : Exit → Act → World → Prop} {a : Act} {w : World} (h : Q .normal a w) : noPanic Q .normal a w := h
def measBad (k : Int) (text : ByteArray) : Prop := ¬ (0 ≤ k ∧ k < 8) ∨ 64 < text.size
instance (k : Int) (text : ByteArray) : Decidable (measBad k text) := by unfold measBad; infer_instance
def measRes (regs : List (List Int)) (evs : List Ev) (k : Int) (text data : ByteArray) : Int × List (List Int) × List Ev :=
  if measBad k text then (1, regs, evs) else if 256 ≤ evs.length then (8, regs, evs)
  else (0, regs.set k.toNat (extL (regs.getD k.toNat []) (shaL data)), evs ++ [⟨k, shaL data, text⟩])
structure MeasPost (b : Nat) (v : Value) (r : Int × List (List Int) × List Ev) (w : World) (e : Ending) (w' : World) : Prop where
  ret : e = .returned (.int .i64 r.1)
  log : ∃ v', LogAt w' b v' r.2.1 r.2.2 ∧ (v'.ownBlock = v.ownBlock ∨ ∃ g, v'.ownBlock = some g ∧ w.heap.size ≤ g)
  mods : Mods (Foot b v) w w'

theorem measure_bad (b : Nat) (v : Value) (regs : List (List Int)) (evs : List Ev) (k : Int) (text data : ByteArray) (w : World) (hL : LogAt w b v regs evs) (hb : measBad k text) :
    Calls Try.prog 24 #[.pointer (some ⟨b, 0, none⟩), .int .i64 k, .string text, .string data] w (MeasPost b v (measRes regs evs k text data) w) := by
  have hres : measRes regs evs k text data = (1, regs, evs) := by unfold measRes; rw [if_pos hb]
  rw [hres]
  have HF := Lib.hid hL
  clear hL hres
  by_cases hk : 0 ≤ k ∧ k < 8
  · have hre : isReg k = true := by unfold isReg; simp only [decide_eq_true_eq]; exact hk
    have ht : (64 : Int) < text.size := by
      rcases hb with h | h
      · exact absurd hk h
      · omega
    clear hb hk
    go_enter Try.func24, Try.ntmps24
    go_wp2_with (go_at_call 42; refine (isRegister_any _ _).mono ?_; rintro e w' ⟨rfl, rfl⟩)
    go_ret
    exact ⟨rfl, ⟨v, HF.out, .inl rfl⟩, Mods.refl _ _⟩
  · have hre : isReg k = false := by unfold isReg; simp only [decide_eq_false_iff_not]; exact hk
    clear hb hk
    go_enter Try.func24, Try.ntmps24
    go_wp2_with (go_at_call 42; refine (isRegister_any _ _).mono ?_; rintro e w' ⟨rfl, rfl⟩)
    go_ret
    exact ⟨rfl, ⟨v, HF.out, .inl rfl⟩, Mods.refl _ _⟩

theorem measure_full (b : Nat) (v : Value) (regs : List (List Int)) (evs : List Ev) (k : Int) (text data : ByteArray) (w : World) (hL : LogAt w b v regs evs) (hb : ¬ measBad k text) (hn : 256 ≤ evs.length) :
    Calls Try.prog 24 #[.pointer (some ⟨b, 0, none⟩), .int .i64 k, .string text, .string data] w (MeasPost b v (measRes regs evs k text data) w) := by
  have hres : measRes regs evs k text data = (8, regs, evs) := by unfold measRes; rw [if_neg hb, if_pos hn]
  rw [hres]
  have HF := Lib.hid hL
  unfold measBad at hb
  have hk : 0 ≤ k ∧ k < 8 := by
    by_cases h : 0 ≤ k ∧ k < 8
    · exact h
    · exact absurd (.inl h) hb
  have hre : isReg k = true := by unfold isReg; simp only [decide_eq_true_eq]; exact hk
  have ht : (text.size : Int) ≤ 64 := by
    by_cases h : 64 < text.size
    · exact absurd (.inr h) hb
    · omega
  have hn1 : (256 : Int) ≤ evs.length := by omega
  have hc := hL.cell
  obtain ⟨A, c, hv, -, -, -⟩ := hL.row.shape
  subst hv
  clear hL hres hb hn
  go_enter Try.func24, Try.ntmps24
  go_wp2_with (go_at_call 42; refine (isRegister_any _ _).mono ?_; rintro e w' ⟨rfl, rfl⟩)
  go_ret
  exact ⟨rfl, ⟨_, HF.out, .inl rfl⟩, Mods.refl _ _⟩

/-- a slice of one element in a new block -/
def New.sl (n : Nat) (cs : List Value) : New := fun u w lo hi => u = .slice (some ⟨lo, 0, none⟩) n n ∧ lo < hi ∧ Arr w lo cs
theorem New.sl_stable (n : Nat) (cs : List Value) : (New.sl n cs).Stable := fun _ _ _ _ _ hm h => ⟨h.1, h.2.1, h.2.2.mods hm id⟩
theorem newAt_sl {P : Program} {o : Oper} {a : Act} {w : World} (n : Nat) (cs : List Value) (T : TypeId) (h : (execOp a.eval o).run P w = .ok (.value (.slice (some ⟨w.heap.size, 0, none⟩) n n)) (w.alloc (.cells cs.toArray T))) : newAt P o a w (New.sl n cs) := by
  unfold newAt
  rw [h]
  exact ⟨(Mods.refl _ _).alloc _, rfl, by simp, Arr.new w cs T⟩

theorem op_value {P : Program} {o : Oper} {ρ : Operand → Value} (s : Sem Value) (hx : execOp ρ o = (do pure (Next.value (← s)))) {v : Value} {w w' : World} (hs : s.run P w = .ok v w') : (execOp ρ o).run P w = .ok (.value v) w' := by
  rw [hx, Sem.run_bind, hs]
  rfl
theorem quiet_of_run {P : Program} {C : World → Prop} {K : Act → Prop} {a : Act} {o : Oper} (v : Value) (h : ∀ w, C w → (execOp a.eval o).run P w = .ok (.value v) w) (hk : K (a.put o.dst v)) : o.quiet P a C K :=
  ⟨v, fun w hw => by unfold Oper.quietAt; rw [h w hw]; exact ⟨rfl, rfl⟩, hk⟩
theorem build_ev' (k : Int) (a0 a1 a2 a3 a4 a5 a6 a7 a8 a9 a10 a11 a12 a13 a14 a15 a16 a17 a18 a19 a20 a21 a22 a23 a24 a25 a26 a27 a28 a29 a30 a31 : Int) (t : ByteArray) (w : World) : (Instr.build 45 #[(0, .int .i64 k), (1, .agg (u8s [a0, a1, a2, a3, a4, a5, a6, a7, a8, a9, a10, a11, a12, a13, a14, a15, a16, a17, a18, a19, a20, a21, a22, a23, a24, a25, a26, a27, a28, a29, a30, a31]).toArray), (2, .string t)]).run Try.prog w = .ok (.agg (evV ⟨k, [a0, a1, a2, a3, a4, a5, a6, a7, a8, a9, a10, a11, a12, a13, a14, a15, a16, a17, a18, a19, a20, a21, a22, a23, a24, a25, a26, a27, a28, a29, a30, a31], t⟩).toArray) w := by kernel_rfl
theorem build_ev (k : Int) (D : List Int) (t : ByteArray) (hD : D.length = 32) (w : World) : (Instr.build 45 #[(0, .int .i64 k), (1, .agg (u8s D).toArray), (2, .string t)]).run Try.prog w = .ok (.agg (evV ⟨k, D, t⟩).toArray) w := by
  match D, hD with
  | [a0, a1, a2, a3, a4, a5, a6, a7, a8, a9, a10, a11, a12, a13, a14, a15, a16, a17, a18, a19, a20, a21, a22, a23, a24, a25, a26, a27, a28, a29, a30, a31], _ => exact build_ev' ..
theorem buildSlice_ev' (k : Int) (a0 a1 a2 a3 a4 a5 a6 a7 a8 a9 a10 a11 a12 a13 a14 a15 a16 a17 a18 a19 a20 a21 a22 a23 a24 a25 a26 a27 a28 a29 a30 a31 : Int) (t : ByteArray) (w : World) : (Instr.buildSlice 46 1 #[(0, .agg (evV ⟨k, [a0, a1, a2, a3, a4, a5, a6, a7, a8, a9, a10, a11, a12, a13, a14, a15, a16, a17, a18, a19, a20, a21, a22, a23, a24, a25, a26, a27, a28, a29, a30, a31], t⟩).toArray)]).run Try.prog w = .ok (.slice (some ⟨w.heap.size, 0, none⟩) 1 1) (w.alloc (.cells (evV ⟨k, [a0, a1, a2, a3, a4, a5, a6, a7, a8, a9, a10, a11, a12, a13, a14, a15, a16, a17, a18, a19, a20, a21, a22, a23, a24, a25, a26, a27, a28, a29, a30, a31], t⟩).toArray 45)) := by kernel_rfl
theorem buildSlice_ev (k : Int) (D : List Int) (t : ByteArray) (hD : D.length = 32) (w : World) : (Instr.buildSlice 46 1 #[(0, .agg (evV ⟨k, D, t⟩).toArray)]).run Try.prog w = .ok (.slice (some ⟨w.heap.size, 0, none⟩) 1 1) (w.alloc (.cells (evV ⟨k, D, t⟩).toArray 45)) := by
  match D, hD with
  | [a0, a1, a2, a3, a4, a5, a6, a7, a8, a9, a10, a11, a12, a13, a14, a15, a16, a17, a18, a19, a20, a21, a22, a23, a24, a25, a26, a27, a28, a29, a30, a31], _ => exact buildSlice_ev' ..
theorem thereX {w : World} {b o : Nat} {r X : List Int} (h : w.there b o (u8s r).length) (hr : r.length = 32) (hX : X.length = 32) : w.there b o (u8s X).toArray.size := by
  rw [List.size_toArray, u8s_length, hX]
  rw [u8s_length, hr] at h
  exact h
set_option maxHeartbeats 2000000 in
set_option maxRecDepth 100000 in
theorem measure_ok (b : Nat) (v : Value) (regs : List (List Int)) (evs : List Ev) (n : Nat) (text data : ByteArray) (D r X : List Int) (w : World) (hL : LogAt w b v regs evs) (hk : n < 8) (ht : text.size ≤ 64) (hn : evs.length < 256)
    (hD : D.length = 32) (hr : regs[n]? = some r) (hX : X.length = 32)
    (hSum : ∀ w, Calls Try.prog 15 #[.string data] w fun e w' => e = .returned (.agg (u8s D).toArray) ∧ Mods No w w')
    (hExt : ∀ w, Calls Try.prog 43 #[.agg (u8s r).toArray, .agg (u8s D).toArray] w fun e w' => e = .returned (.agg (u8s X).toArray) ∧ Mods No w w') :
    Calls Try.prog 24 #[.pointer (some ⟨b, 0, none⟩), .int .i64 (n : Int), .string text, .string data] w (MeasPost b v (0, regs.set n X, evs ++ [⟨n, D, text⟩]) w) := by
  have hre : isReg n = true := by unfold isReg; simp; omega
  have ht1 : (text.size : Int) ≤ 64 := by omega
  have hn1 : (evs.length : Int) < 256 := by omega
  have hk1 : (n : Int) < 8 := by omega
  have hc := hL.cell
  have HSum := Lib.hid hSum
  have HExt := Lib.hid hExt
  have HD := Lib.hid hD
  have HX := Lib.hid hX
  have HR := Lib.hid hr
  have HRL := Lib.hid (hL.ok.all r (List.mem_of_getElem? hr))
  obtain ⟨A, c, hv, -, -, -⟩ := hL.row.shape
  subst hv
  have HL := Lib.hid hL
  clear hSum hExt hD hX hr hL hn ht
  go_enter Try.func24, Try.ntmps24
  go_wp2_with (go_at_call 42; refine (isRegister_any _ _).mono ?_; rintro e w' ⟨rfl, rfl⟩)
  refine (HSum.out _).mono ?_
  rintro e w1 ⟨rfl, m1⟩
  have hN : Arr (w1.alloc (.cells #[Value.int .u8 0, Value.int .u8 0, Value.int .u8 0, Value.int .u8 0, Value.int .u8 0, Value.int .u8 0, Value.int .u8 0, Value.int .u8 0, Value.int .u8 0, Value.int .u8 0, Value.int .u8 0, Value.int .u8 0, Value.int .u8 0, Value.int .u8 0, Value.int .u8 0, Value.int .u8 0, Value.int .u8 0, Value.int .u8 0, Value.int .u8 0, Value.int .u8 0, Value.int .u8 0, Value.int .u8 0, Value.int .u8 0, Value.int .u8 0, Value.int .u8 0, Value.int .u8 0, Value.int .u8 0, Value.int .u8 0, Value.int .u8 0, Value.int .u8 0, Value.int .u8 0, Value.int .u8 0] 26)) w1.heap.size (u8s z32) := Arr.new w1 (u8s z32) 26
  have HT := Lib.hid (hN.there' (vs := (u8s D).toArray) (by rw [List.size_toArray, u8s_length, u8s_length, HD.out]; rfl))
  have HI := Lib.hid (info32 HD.out)
  have HI' := Lib.hid (info32' HD.out)
  have hL1 := HL.out.no (m1.no ((Mods.refl No w1).alloc (.cells #[Value.int .u8 0, Value.int .u8 0, Value.int .u8 0, Value.int .u8 0, Value.int .u8 0, Value.int .u8 0, Value.int .u8 0, Value.int .u8 0, Value.int .u8 0, Value.int .u8 0, Value.int .u8 0, Value.int .u8 0, Value.int .u8 0, Value.int .u8 0, Value.int .u8 0, Value.int .u8 0, Value.int .u8 0, Value.int .u8 0, Value.int .u8 0, Value.int .u8 0, Value.int .u8 0, Value.int .u8 0, Value.int .u8 0, Value.int .u8 0, Value.int .u8 0, Value.int .u8 0, Value.int .u8 0, Value.int .u8 0, Value.int .u8 0, Value.int .u8 0, Value.int .u8 0, Value.int .u8 0] 26)))
  have hst := mods_setCells (F := PF.One w1.heap.size) (a := w1.alloc (.cells #[Value.int .u8 0, Value.int .u8 0, Value.int .u8 0, Value.int .u8 0, Value.int .u8 0, Value.int .u8 0, Value.int .u8 0, Value.int .u8 0, Value.int .u8 0, Value.int .u8 0, Value.int .u8 0, Value.int .u8 0, Value.int .u8 0, Value.int .u8 0, Value.int .u8 0, Value.int .u8 0, Value.int .u8 0, Value.int .u8 0, Value.int .u8 0, Value.int .u8 0, Value.int .u8 0, Value.int .u8 0, Value.int .u8 0, Value.int .u8 0, Value.int .u8 0, Value.int .u8 0, Value.int .u8 0, Value.int .u8 0, Value.int .u8 0, Value.int .u8 0, Value.int .u8 0, Value.int .u8 0] 26)) w1.heap.size (.inl rfl) (u8s D) 0 _ (Mods.refl _ _)
  have hbl : b < w1.heap.size := Nat.lt_of_lt_of_le HL.out.lt m1.size
  have HLg := Lib.hid hL1
  have hlow := fun q hq => Nat.lt_of_lt_of_le (HL.out.low q hq) m1.size
  have HDD := Lib.hid (hN.stored (u8s D) (by rw [u8s_length, u8s_length, HD.out]; rfl))
  have HM := Lib.hid (mods_setCells (F := No) (a := w) w1.heap.size (.inr m1.size) (u8s D) 0 _ (m1.alloc (.cells #[Value.int .u8 0, Value.int .u8 0, Value.int .u8 0, Value.int .u8 0, Value.int .u8 0, Value.int .u8 0, Value.int .u8 0, Value.int .u8 0, Value.int .u8 0, Value.int .u8 0, Value.int .u8 0, Value.int .u8 0, Value.int .u8 0, Value.int .u8 0, Value.int .u8 0, Value.int .u8 0, Value.int .u8 0, Value.int .u8 0, Value.int .u8 0, Value.int .u8 0, Value.int .u8 0, Value.int .u8 0, Value.int .u8 0, Value.int .u8 0, Value.int .u8 0, Value.int .u8 0, Value.int .u8 0, Value.int .u8 0, Value.int .u8 0, Value.int .u8 0, Value.int .u8 0, Value.int .u8 0] 26)))
  clear hN hL1 hst m1 hc HL
  go_wp2_with ((with_reducible refine wpList_store_mid ?_ 26 (.tmp 9) (.tmp 27) ?_ w1.heap.size 0 (u8s D).toArray ?_ ?_ HT.out HI'.out (u8s_one _) ?_); rfl; rfl; rfl; rfl)
  have hLW := HLg.out.mods (F := PF.One w1.heap.size) (mods_setCells (F := PF.One w1.heap.size) (a := w1.alloc (.cells #[Value.int .u8 0, Value.int .u8 0, Value.int .u8 0, Value.int .u8 0, Value.int .u8 0, Value.int .u8 0, Value.int .u8 0, Value.int .u8 0, Value.int .u8 0, Value.int .u8 0, Value.int .u8 0, Value.int .u8 0, Value.int .u8 0, Value.int .u8 0, Value.int .u8 0, Value.int .u8 0, Value.int .u8 0, Value.int .u8 0, Value.int .u8 0, Value.int .u8 0, Value.int .u8 0, Value.int .u8 0, Value.int .u8 0, Value.int .u8 0, Value.int .u8 0, Value.int .u8 0, Value.int .u8 0, Value.int .u8 0, Value.int .u8 0, Value.int .u8 0, Value.int .u8 0, Value.int .u8 0] 26)) w1.heap.size (.inl rfl) (u8s D) 0 _ (Mods.refl _ _)) (fun q hq h => by
    unfold PF.One at h
    rcases hq with h1 | h1
    · omega
    · have := hlow q h1; omega)
  have hDD := HDD.out
  have hM := HM.out
  clear HLg HDD HM HT
  generalize (w1.alloc (.cells #[Value.int .u8 0, Value.int .u8 0, Value.int .u8 0, Value.int .u8 0, Value.int .u8 0, Value.int .u8 0, Value.int .u8 0, Value.int .u8 0, Value.int .u8 0, Value.int .u8 0, Value.int .u8 0, Value.int .u8 0, Value.int .u8 0, Value.int .u8 0, Value.int .u8 0, Value.int .u8 0, Value.int .u8 0, Value.int .u8 0, Value.int .u8 0, Value.int .u8 0, Value.int .u8 0, Value.int .u8 0, Value.int .u8 0, Value.int .u8 0, Value.int .u8 0, Value.int .u8 0, Value.int .u8 0, Value.int .u8 0, Value.int .u8 0, Value.int .u8 0, Value.int .u8 0, Value.int .u8 0] 26)).setCells w1.heap.size 0 (u8s D) = W at hLW hDD hM ⊢
  obtain ⟨B9, hB9⟩ : ∃ B9, w1.heap.size = B9 := ⟨_, rfl⟩
  rw [hB9] at hDD hbl hlow ⊢
  clear hB9 w1
  simp only [Act.put]
  have hc := hLW.cell
  have hcx : ∀ x : Ext W, x.w.cell? ⟨b, 0, none⟩ = some (.slice A evs.length c) := fun x => x.cell hc
  refine wp_region_moves 10 [37] [0] (by kernel_rfl) (by kernel_rfl) (by kernel_rfl) (by kernel_rfl) (by kernel_rfl) ?_
  simp only [List.take_succ_cons, List.take_zero, List.drop_succ_cons, List.drop_zero]
  refine wpNew_quiet rfl ?_
  go_big_quiet_want
  go_big_quiet_op
  go_big_quiet_on
  refine wpQuiet_nil ?_
  refine wpNew_quiet rfl ?_
  go_big_quiet_want
  go_big_quiet_op
  go_big_quiet_on
  refine wpQuiet_nil ?_
  refine wpNew_quiet rfl ?_
  go_big_quiet_want
  go_big_quiet_op
  go_big_quiet_on
  refine wpQuiet_nil ?_
  refine wpNew_quiet rfl ?_
  go_big_quiet_want
  go_big_quiet_op
  go_big_quiet_on
  refine wpQuiet_nil ?_
  refine wpNew_quiet rfl ?_
  go_big_quiet_want
  go_big_quiet_op
  go_big_quiet_on
  refine wpQuiet_nil ?_
  refine wpNew_quiet rfl ?_
  go_big_quiet_want
  go_big_quiet_op
  go_big_quiet_on
  refine wpQuiet_nil ?_
  refine wpNew_quiet rfl ?_
  go_big_quiet_want
  refine quiet_load_row 26 (.tmp 9) rfl B9 0 (by rfl) (u8s D) _ (fun _ ⟨x, e⟩ => e ▸ (hDD.ext x).range) Try.underlying26 rfl HI.out ?_
  go_big_quiet_on
  refine wpQuiet_nil ?_
  simp only [Act.put, List.setIfInBounds_toArray, List.set_cons_succ, List.set_cons_zero]
  refine wpNew_quiet rfl ?_
  go_big_quiet_want
  go_big_quiet_op
  go_big_quiet_on
  refine wpQuiet_nil ?_
  refine wpNew_quiet rfl ?_
  go_big_quiet_want
  refine quiet_of_run (.agg (evV ⟨n, D, text⟩).toArray) (fun w _ => op_value _ (by simp [execOp, Act.eval]) (build_ev n D text HD.out w)) ?_
  go_big_quiet_on
  refine wpQuiet_nil ?_
  simp only [Act.put, List.setIfInBounds_toArray, List.set_cons_succ, List.set_cons_zero]
  refine wpNew_new (New.sl 1 (evV ⟨n, D, text⟩)) (New.sl_stable _ _) rfl rfl (fun x => newAt_sl 1 _ 45 (op_value _ (by simp [execOp, Act.eval]) (buildSlice_ev n D text HD.out x.w))) ?_
  refine wpNew_nil ?_
  intro x
  rintro _ B10 h10 ⟨rfl, z10, hE⟩ b10 - s10 -
  simp only [finNew, Act.put, List.setIfInBounds_toArray, List.set_cons_succ, List.set_cons_zero]
  have hlen : (evV ⟨n, D, text⟩).length = 1 * 34 := evV_length HD.out
  have hokE : Ev.Ok ⟨n, D, text⟩ := ⟨by show _ ≤ (n : Int); omega, by show (n : Int) ≤ _; omega, HD.out⟩
  have hLx := hLW.no x.m
  have hDx := hDD.ext x
  have hMx := hM.no x.m
  obtain ⟨iE, hiE, hzE, hsE, hyE⟩ := info_parts infoEv3
  have HA := Lib.hid hLx
  have HB := Lib.hid hDx
  have HC := Lib.hid hMx
  have Hlow := Lib.hid hlow
  have HE := Lib.hid hE
  have Hlen := Lib.hid hlen
  have HokE := Lib.hid hokE
  clear hLx hDx hMx hLW hDD hM hlow hE hlen hokE hc hcx
  go_wp2_with (at_builtin; refine wpList_append_row rfl _ _ 46 rfl 45 iE _ 34 56 Try.underlying46 hiE hzE hsE hyE rfl (by decide) _ _ _ (by rfl) HA.out.row ⟨B10, 0, none⟩ 1 1 (evV ⟨n, D, text⟩) (by rfl) Hlen.out ?c1 (evV_one _) ?c2 ?c3 ?_)
  case c1 =>
    intro j u hu
    rw [Addr.add_lit, Nat.zero_add]
    exact (HE.out j u hu).1
  case c2 => unfold maxLen; omega
  case c3 => omega
  intro v' w4 hr4 hm4 hb4
  obtain ⟨A', c', rfl, -, -, -⟩ := hr4.shape
  obtain ⟨hp1, hp2, hp3, hp4⟩ := HA.out.push ⟨n, D, text⟩ HokE.out _ hr4 hm4 hb4
  have hD5 : Arr (w4.setCell ⟨b, 0, none⟩ (.slice A' (evs.length + 1) c')) B9 (u8s D) := (HB.out.mods hm4 (fun h => by have := Hlow.out B9 h; omega)).far ⟨b, 0, none⟩ (by show B9 ≠ b; omega) _
  have hM5 : Mods (Foot b (.slice A evs.length c)) w (w4.setCell ⟨b, 0, none⟩ (.slice A' (evs.length + 1) c')) := (HC.out.mono (G := Foot b (.slice A evs.length c)) (fun i h => h.elim)).trans hp4 (fun i h => .inl h)
  have hb5 : (Value.slice A' (evs.length + 1) c').ownBlock = (Value.slice A evs.length c).ownBlock ∨ ∃ g, (Value.slice A' (evs.length + 1) c').ownBlock = some g ∧ w.heap.size ≤ g := by
    rcases hb4 with h | ⟨g, h1, h2⟩
    · exact .inl h
    · exact .inr ⟨g, h1, Nat.le_trans HC.out.size h2⟩
  have H1 := Lib.hid hp1
  have H2 := Lib.hid hD5
  have H3 := Lib.hid hM5
  have H4 := Lib.hid hb5
  clear hr4 hm4 hb4 hp1 hp4 hD5 hM5 hb5 HA HB HC HE
  go_wp2_with fail
  refine noPanic_up ?_
  clear hp2 hp3 b10 s10 z10 hbl Hlow Hlen HokE hiE hzE hsE hyE iE HI
  generalize w4.setCell ⟨b, 0, none⟩ (.slice A' (evs.length + 1) c') = W2 at H1 H2 H3 H4 ⊢
  obtain ⟨v2, hv2⟩ : ∃ v2, Value.slice A' (evs.length + 1) c' = v2 := ⟨_, rfl⟩
  rw [hv2] at H1 H4 ⊢
  clear hv2
  go_wp2_with fail
  refine wp_region_ext 13 (by kernel_rfl) (by kernel_rfl) ?_
  simp only [List.take_succ_cons, List.take_zero, List.drop_succ_cons, List.drop_zero]
  repeat (first | go_big_quiet_skip | (go_big_quiet_want; first
    | (refine quiet_load_row 26 (.tmp 47) rfl b (1 + n * 32) (by rfl) (u8s r) _ (fun _ ⟨x, e⟩ => e ▸ (H1.out.no x.m).rg.range HR.out) Try.underlying26 rfl (info32 HRL.out) ?_; go_big_quiet_on; simp only [Act.put, List.setIfInBounds_toArray, List.set_cons_succ, List.set_cons_zero])
    | (refine quiet_load_row 26 (.tmp 9) rfl B9 0 (by rfl) (u8s D) _ (fun _ ⟨x, e⟩ => e ▸ (H2.out.ext x).range) Try.underlying26 rfl (info32 HD.out) ?_; go_big_quiet_on; simp only [Act.put, List.setIfInBounds_toArray, List.set_cons_succ, List.set_cons_zero])
    | (go_big_quiet_op; first | go_big_quiet_on | go_big_quiet_call ((go_at_call 43; exact Ext.call _ (HExt.out _))))))
  refine wpQuiet_nil ?_
  intro x
  have hLx := H1.out.no x.m
  have HT := Lib.hid (thereX (hLx.rg.there HR.out) HRL.out HX.out)
  have HXi := Lib.hid (show ((Try.prog.info? 26).map fun x => x.size) = some (u8s X).toArray.size from info32' HX.out)
  have HS := Lib.hid (hLx.setReg HR.out HX.out)
  have HM := Lib.hid (mods_setCells (F := Foot b (.slice A evs.length c)) (a := w) b (.inl (.inl rfl)) (u8s X) (1 + n * 32) _ (H3.out.trans x.m (fun _ h => h.elim)))
  clear hLx
  go_wp2_with ((with_reducible refine wpList_store_mid ?_ 26 (.tmp 53) (.tmp 50) ?_ b (1 + n * 32) (u8s X).toArray ?_ ?_ HT.out HXi.out (u8s_one _) ?_); rfl; rfl; rfl; rfl)
  go_ret
  exact ⟨rfl, ⟨_, HS.out, H4.out⟩, HM.out⟩

theorem measure_any (b : Nat) (v : Value) (regs : List (List Int)) (evs : List Ev) (k : Int) (text data : ByteArray) (w : World) (hL : LogAt w b v regs evs) (hd : data.size ≤ 1000000) :
    Calls Try.prog 24 #[.pointer (some ⟨b, 0, none⟩), .int .i64 k, .string text, .string data] w (MeasPost b v (measRes regs evs k text data) w) := by
  by_cases hb : measBad k text
  · exact measure_bad b v regs evs k text data w hL hb
  · by_cases hn : 256 ≤ evs.length
    · exact measure_full b v regs evs k text data w hL hb hn
    · have hkk : 0 ≤ k ∧ k < 8 := by
        by_cases h : 0 ≤ k ∧ k < 8
        · exact h
        · exact absurd (.inl h) hb
      have ht : text.size ≤ 64 := by
        by_cases h : 64 < text.size
        · exact absurd (.inr h) hb
        · omega
      obtain ⟨n, rfl⟩ : ∃ n : Nat, k = n := ⟨k.toNat, by omega⟩
      obtain ⟨r, hr, hrl⟩ := hL.ok.at (k := n) (by omega)
      have he : measRes regs evs n text data = (0, regs.set n (extL r (shaL data)), evs ++ [⟨n, shaL data, text⟩]) := by
        unfold measRes
        rw [if_neg hb, if_neg hn]
        simp [List.getD, hr]
      rw [he]
      exact measure_ok b v regs evs n text data (shaL data) r (extL r (shaL data)) w hL (by omega) ht (by omega) (shaL_length _) hr (shaL_length _) (fun w => sum_any data hd w) (fun w => extend_any r (shaL data) hrl (shaL_length _) w)
end Go.Proofs.Ytamdanpkkcdhbaa
