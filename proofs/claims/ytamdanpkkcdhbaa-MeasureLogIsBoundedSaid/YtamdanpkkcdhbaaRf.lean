/- A rule for a statement whose order is open and whose operations make memory: besides the quiet ones (Rq) some operations yield something new, that lies in blocks of its own. Nothing of the program is named here. -/
import Derived.Test.YtamdanpkkcdhbaaArr
import Derived.OrdersHeld
set_option linter.unusedVariables false
set_option linter.unusedSimpArgs false
namespace Go.PF

/-- what is known of something new: its value, the world, and the blocks from lo to below hi that were made for it -/
abbrev New : Type := Value → World → Nat → Nat → Prop
def New.Stable (R : New) : Prop := ∀ v w w' lo hi, Mods No w w' → R v w lo hi → R v w' lo hi

section
variable {P : Program} {ops : Array Oper} {md : Region.Mode} {W : World} {D : List Tmp} {Q : Exit → Act → World → Prop}

def Oper.newUpon (P : Program) (w : World) (R : New) : Result Next → Prop
  | .ok (.value v) w' => Mods No w w' ∧ R v w' w.heap.size w'.heap.size
  | .ok (.enter f args) w' => Calls P f args w' fun e w'' => ∃ v, e = .returned v ∧ Mods No w w'' ∧ R v w'' w.heap.size w''.heap.size
  | _ => False
def newAt (P : Program) (o : Oper) (a : Act) (w : World) (R : New) : Prop := Oper.newUpon P w R ((execOp a.eval o).run P w)

theorem newAt.wp {o : Oper} {a b : Act} {w : World} {R : New} (h : newAt P o b w R) (e : execOp a.eval o = execOp b.eval o) {K : Act → World → Prop}
    (hK : ∀ v w', Mods No w w' → R v w' w.heap.size w'.heap.size → K (a.put o.dst v) w') : o.wp P a w K Q := by
  unfold newAt at h
  unfold Oper.wp
  rw [e]
  generalize (execOp b.eval o).run P w = r at h
  cases r with
  | ok n w' =>
    cases n with
    | value v => exact hK v w' h.1 h.2
    | enter f args =>
      simp only [Oper.newUpon] at h
      exact h.mono fun e w'' ⟨v, he, hm, hr⟩ => by subst he; exact hK v w'' hm hr
    | _ => exact h.elim
  | halt x w' => exact h.elim

abbrev inExt (W : World) : World → Prop := fun w' => ∃ x : Ext W, w' = x.w

def plainOp : Op → Bool
  | .move _ | .assign _ | .load .. | .indexAddr .. | .index .. | .binOp .. | .unOp .. | .convert .. | .field .. | .fieldAddr .. | .build .. | .extract .. | .slice .. | .pick .. | .nilCheck _ => true
  | _ => false
/-- a computation whose result is never a call, nor 'nothing' -/
def Plain (P : Program) (s : Sem Next) : Prop := ∀ w n w', s.run P w = .ok n w' → ∃ v, n = .value v
theorem Plain.bind {P : Program} {α : Type} {m : Sem α} {k : α → Sem Next} (h : ∀ a, Plain P (k a)) : Plain P (m >>= k) := by
  intro w n w' hr
  rw [Sem.run_bind] at hr
  cases hs : m.run P w with
  | ok v w1 => rw [hs] at hr; exact h v w1 n w' hr
  | halt x w1 => rw [hs] at hr; simp at hr
theorem Plain.pure {P : Program} (v : Value) : Plain P (Pure.pure (Next.value v)) := by
  intro w n w' hr
  simp at hr
  exact ⟨v, hr.1.symm⟩
theorem value_run {P : Program} (s : Sem Value) (w : World) {f : FuncId} {args : Array Value} {w' : World} : (do pure (Next.value (← s)) : Sem Next).run P w ≠ .ok (.enter f args) w' := by
  intro h
  rw [Sem.run_bind] at h
  cases hs : s.run P w with
  | ok v w1 => rw [hs] at h; simp at h
  | halt x w1 => rw [hs] at h; simp at h
theorem plain_run {P : Program} {o : Oper} (h : plainOp o.op = true) (ρ : Operand → Value) (w : World) {f : FuncId} {args : Array Value} {w' : World} : (execOp ρ o).run P w ≠ .ok (.enter f args) w' := by
  unfold execOp
  cases ho : o.op <;> simp only [ho, plainOp, Bool.false_eq_true] at h ⊢
  case move => intro h; simp at h
  case assign => intro h; simp at h
  case pick c a b =>
    intro h
    rw [Sem.run_bind] at h
    cases hs : (asBool (ρ c)).run P w with
    | ok v w1 => rw [hs] at h; simp at h
    | halt x w1 => rw [hs] at h; simp at h
  case nilCheck x =>
    intro h
    split at h
    · simp [runtimePanic] at h
    · simp [runtimePanic] at h
    · simp [runtimePanic] at h
    · split at h
      · simp [runtimePanic] at h
      · obtain ⟨v, hv⟩ := (Plain.bind (fun _ => by
          first
            | exact Plain.pure _
            | exact Plain.bind (fun _ => by
                first
                  | exact Plain.pure _
                  | (split <;> first | exact Plain.pure _ | exact Plain.bind (fun _ => Plain.pure _))
                  | exact Plain.bind (fun _ => Plain.pure _))) : Plain P _) _ _ _ h
        cases hv
      · simp at h
    · simp at h
  all_goals exact value_run _ w

theorem value_skip {P : Program} (s : Sem Value) (w : World) {w' : World} : (do pure (Next.value (← s)) : Sem Next).run P w ≠ .ok .skip w' := by
  intro h
  rw [Sem.run_bind] at h
  cases hs : s.run P w with
  | ok v w1 => rw [hs] at h; simp at h
  | halt x w1 => rw [hs] at h; simp at h
theorem plain_skip {P : Program} {o : Oper} (h : plainOp o.op = true) (ρ : Operand → Value) (w : World) {w' : World} : (execOp ρ o).run P w ≠ .ok .skip w' := by
  unfold execOp
  cases ho : o.op <;> simp only [ho, plainOp, Bool.false_eq_true] at h ⊢
  case move => intro h; simp at h
  case assign => intro h; simp at h
  case pick c a b =>
    intro h
    rw [Sem.run_bind] at h
    cases hs : (asBool (ρ c)).run P w with
    | ok v w1 => rw [hs] at h; simp at h
    | halt x w1 => rw [hs] at h; simp at h
  case nilCheck x =>
    intro h
    split at h
    · simp [runtimePanic] at h
    · simp [runtimePanic] at h
    · simp [runtimePanic] at h
    · split at h
      · simp [runtimePanic] at h
      · obtain ⟨v, hv⟩ := (Plain.bind (fun _ => by
          first
            | exact Plain.pure _
            | exact Plain.bind (fun _ => by
                first
                  | exact Plain.pure _
                  | (split <;> first | exact Plain.pure _ | exact Plain.bind (fun _ => Plain.pure _))
                  | exact Plain.bind (fun _ => Plain.pure _))) : Plain P _) _ _ _ h
        cases hv
      · simp at h
    · simp at h
  all_goals exact value_skip _ w

/-- THE WALK in the order of the text -/
def wpNew (P : Program) (ops : Array Oper) (W : World) (D : List Tmp) (Qh : Act → List (Option Tmp × New) → Prop) : List Oper → Act → List (Option Tmp × New) → Prop
  | [], a, acc => Qh a acc
  | o :: rest, a, acc =>
    (plainOp o.op = true ∧ if Region.wanted o (yielded ops a.tmps) then o.quiet P a (inExt W) (fun a' => wpNew P ops W D Qh rest a' acc) else wpNew P ops W D Qh rest (a.put o.dst undef) acc) ∨
    (plainOp o.op = false ∧ Region.wanted o (yielded ops a.tmps) = true ∧ ∃ v : Value, (∀ x : Ext W, newAt P o a x.w (fun u _ _ _ => u = v)) ∧ wpNew P ops W D Qh rest (a.put o.dst v) acc) ∨
    (Region.wanted o (yielded ops a.tmps) = true ∧ dstIn o.dst D = true ∧ ∃ R : New, R.Stable ∧ (∀ x : Ext W, newAt P o a x.w R) ∧ wpNew P ops W D Qh rest a (acc ++ [(o.dst, R)]))

theorem wpNew_nil {Qh : Act → List (Option Tmp × New) → Prop} {a : Act} {acc : List (Option Tmp × New)} (h : Qh a acc) : wpNew P ops W D Qh [] a acc := h
/-- a quiet operation: the goal is the one that the kit's quiet walk has -/
theorem wpNew_quiet {Qh : Act → List (Option Tmp × New) → Prop} {a : Act} {acc : List (Option Tmp × New)} {o : Oper} {rest : List Oper}
    (hp : plainOp o.op = true) (h : wpQuiet P ops (inExt W) (fun a' => wpNew P ops W D Qh rest a' acc) [o] a) : wpNew P ops W D Qh (o :: rest) a acc := .inl ⟨hp, h⟩
theorem wpNew_new {Qh : Act → List (Option Tmp × New) → Prop} {a : Act} {acc : List (Option Tmp × New)} {o : Oper} {rest : List Oper} (R : New) (hR : R.Stable)
    (hd : dstIn o.dst D = true) (hw : Region.wanted o (yielded ops a.tmps) = true) (h : ∀ x : Ext W, newAt P o a x.w R) (hk : wpNew P ops W D Qh rest a (acc ++ [(o.dst, R)])) : wpNew P ops W D Qh (o :: rest) a acc := .inr (.inr ⟨hw, hd, R, hR, h, hk⟩)

/-- a call (or what else makes memory) that yields a value that is known -/
theorem wpNew_known {Qh : Act → List (Option Tmp × New) → Prop} {a : Act} {acc : List (Option Tmp × New)} {o : Oper} {rest : List Oper} (v : Value) (hp : plainOp o.op = false)
    (hw : Region.wanted o (yielded ops a.tmps) = true) (h : ∀ x : Ext W, newAt P o a x.w (fun u _ _ _ => u = v)) (hk : wpNew P ops W D Qh rest (a.put o.dst v) acc) : wpNew P ops W D Qh (o :: rest) a acc := .inr (.inl ⟨hp, hw, v, h, hk⟩)
def Known (P : Program) (ops : Array Oper) (W : World) (o : Oper) (v : Value) (a : Act) : Prop :=
  (plainOp o.op = true ∧ YieldsIn P ops (inExt W) o v a) ∨ (plainOp o.op = false ∧ Region.wanted o (yielded ops a.tmps) = true ∧ ∀ x : Ext W, newAt P o a x.w (fun u _ _ _ => u = v))
/-- behind the walk: whatever the new things are, they lie in blocks apart from one another -/
def finNew (K : Act → Prop) (B : Nat) (w : World) : List (Option Tmp × New) → List (Nat × Nat) → Act → Prop
  | [], _, a => K a
  | (d, R) :: r, used, a => ∀ v lo hi, R v w lo hi → B ≤ lo → lo ≤ hi → hi ≤ w.heap.size → (∀ u ∈ used, u.2 ≤ lo ∨ hi ≤ u.1) → finNew K B w r ((lo, hi) :: used) (a.put d v)

structure WalkN (P : Program) (ops : Array Oper) (W : World) (D : List Tmp) (l : List Oper) (k : Nat) (a : Act) (vs : Nat → Value) (nw : Nat → Option New) : Prop where
  quiet : ∀ i o, l[i]? = some o → nw (k + i) = none → Known P ops W o (vs (k + i)) (fr vs (fun j => decide (j < k + i) && (nw j).isNone) l k a)
  fresh : ∀ i o R, l[i]? = some o → nw (k + i) = some R → R.Stable ∧ dstIn o.dst D = true ∧ Region.wanted o (yielded ops (fr vs (fun j => decide (j < k + i) && (nw j).isNone) l k a).tmps) = true ∧
    ∀ x : Ext W, newAt P o (fr vs (fun j => decide (j < k + i) && (nw j).isNone) l k a) x.w R
def accOf (nw : Nat → Option New) : List Oper → Nat → List (Option Tmp × New)
  | [], _ => []
  | o :: l, k => (match nw k with | some R => [(o.dst, R)] | none => []) ++ accOf nw l (k + 1)

theorem fr_of (vs vs' : Nat → Value) (p : Nat → Bool) : ∀ (l : List Oper) (k : Nat) (a : Act), (∀ j, k ≤ j → p j = true → vs j = vs' j) → fr vs p l k a = fr vs' p l k a
  | [], _, _, _ => rfl
  | o :: l, k, a, h => by
    show fr vs p l (k + 1) (if p k then a.put o.dst (vs k) else a) = fr vs' p l (k + 1) (if p k then a.put o.dst (vs' k) else a)
    rw [fr_of vs vs' p l (k + 1) _ (fun j hj hp => h j (by omega) hp)]
    split
    · rename_i hp
      rw [h k (Nat.le_refl _) hp]
    · rfl
theorem fr_none (vs : Nat → Value) (p : Nat → Bool) : ∀ (l : List Oper) (k : Nat) (a : Act), (∀ j, k ≤ j → p j = false) → fr vs p l k a = a
  | [], _, _, _ => rfl
  | o :: l, k, a, h => by
    show fr vs p l (k + 1) (if p k then _ else a) = a
    rw [h k (Nat.le_refl _)]
    exact fr_none vs p l (k + 1) a (fun j hj => h j (by omega))

theorem new_vals {Qh : Act → List (Option Tmp × New) → Prop} : ∀ (l : List Oper) (k : Nat) (a : Act) (acc : List (Option Tmp × New)), wpNew P ops W D Qh l a acc →
    ∃ (vs : Nat → Value) (nw : Nat → Option New), WalkN P ops W D l k a vs nw ∧ Qh (fr vs (fun j => (nw j).isNone) l k a) (acc ++ accOf nw l k)
  | [], k, a, acc, h => ⟨fun _ => undef, fun _ => none, ⟨fun i o hi => by simp at hi, fun i o R hi => by simp at hi⟩, by show Qh a (acc ++ []); rw [List.append_nil]; exact h⟩
  | o :: l, k, a, acc, h => by
    have h' : (∃ v, Known P ops W o v a ∧ wpNew P ops W D Qh l (a.put o.dst v) acc) ∨ (Region.wanted o (yielded ops a.tmps) = true ∧ dstIn o.dst D = true ∧ ∃ R : New, R.Stable ∧ (∀ x : Ext W, newAt P o a x.w R) ∧ wpNew P ops W D Qh l a (acc ++ [(o.dst, R)])) := by
      rcases h with ⟨hpl, h⟩ | ⟨hpf, hw, v, hn, hr⟩ | h
      · by_cases hw : Region.wanted o (yielded ops a.tmps) = true
        · simp only [hw, if_true] at h
          obtain ⟨v, h1, h2⟩ := h
          exact .inl ⟨v, .inl ⟨hpl, .inl ⟨hw, h1⟩⟩, h2⟩
        · simp only [hw] at h
          exact .inl ⟨undef, .inl ⟨hpl, .inr ⟨by simpa using hw, rfl⟩⟩, h⟩
      · exact .inl ⟨v, .inr ⟨hpf, hw, hn⟩, hr⟩
      · exact .inr h
    rcases h' with ⟨v, hv, hr⟩ | ⟨hw, hD, R, hR, hn, hr⟩
    · skip
      obtain ⟨vs, nw, hW, hQ⟩ := new_vals l (k + 1) _ acc hr
      have e1 : ∀ (p : Nat → Bool) (a' : Act), fr (fun j => if j = k then v else vs j) p l (k + 1) a' = fr vs p l (k + 1) a' := fun p a' => fr_of _ _ p l (k + 1) a' (fun j hj _ => if_neg (by omega))
      have e2 : ∀ (q : Nat → Bool) (a' : Act), fr vs (fun j => q j && (if j = k then (none : Option New) else nw j).isNone) l (k + 1) a' = fr vs (fun j => q j && (nw j).isNone) l (k + 1) a' :=
        fun q a' => fr_congr _ _ _ _ _ _ (fun j _ => by simp [show k + 1 + j ≠ k by omega])
      refine ⟨fun j => if j = k then v else vs j, fun j => if j = k then none else nw j, ⟨fun i o' hi hno => ?_, fun i o' R hi hno => ?_⟩, ?_⟩
      · cases i with
        | zero =>
          have : o = o' := by simpa using hi
          subst this
          show Known P ops _ o (if k + 0 = k then v else vs (k + 0)) (fr _ _ l (k + 1) (if (decide (k < k + 0) && _) then _ else a))
          rw [if_pos (Nat.add_zero k), show decide (k < k + 0) = false by simp, Bool.false_and, if_neg (by simp), e1, fr_none vs _ l (k + 1) a (fun j hj => by simp; omega)]
          exact hv
        | succ i =>
          have hi' : l[i]? = some o' := by simpa using hi
          have hne : k + (i + 1) ≠ k := by omega
          have hno' : nw (k + 1 + i) = none := by have h := hno; simp only [if_neg hne] at h; rwa [show k + (i + 1) = k + 1 + i by omega] at h
          have h3 := hW.quiet i o' hi' hno'
          show Known P ops _ o' (if k + (i + 1) = k then v else vs (k + (i + 1))) (fr _ _ l (k + 1) (if (decide (k < k + (i + 1)) && (if k = k then (none : Option New) else nw k).isNone) then a.put o.dst (if k = k then v else vs k) else a))
          rw [if_neg hne, show decide (k < k + (i + 1)) = true by simp, if_pos rfl, if_pos rfl, Option.isNone_none, Bool.and_self, if_pos rfl, e1, e2 (fun j => decide (j < k + (i + 1))), show k + (i + 1) = k + 1 + i by omega]
          exact h3
      · cases i with
        | zero => simp at hno
        | succ i =>
          have hi' : l[i]? = some o' := by simpa using hi
          have hne : k + (i + 1) ≠ k := by omega
          have hno' : nw (k + 1 + i) = some R := by have h := hno; simp only [if_neg hne] at h; rwa [show k + (i + 1) = k + 1 + i by omega] at h
          have h3 := hW.fresh i o' R hi' hno'
          have ef : fr (fun j => if j = k then v else vs j) (fun j => decide (j < k + (i + 1)) && (if j = k then (none : Option New) else nw j).isNone) (o :: l) k a = fr vs (fun j => decide (j < k + 1 + i) && (nw j).isNone) l (k + 1) (a.put o.dst v) := by
            show fr _ _ l (k + 1) (if (decide (k < k + (i + 1)) && (if k = k then (none : Option New) else nw k).isNone) then a.put o.dst (if k = k then v else vs k) else a) = _
            rw [show decide (k < k + (i + 1)) = true by simp, if_pos rfl, if_pos rfl, Option.isNone_none, Bool.and_self, if_pos rfl, e1, e2 (fun j => decide (j < k + (i + 1))), show k + (i + 1) = k + 1 + i by omega]
          rw [ef]
          exact h3
      · have ef : fr (fun j => if j = k then v else vs j) (fun j => (if j = k then (none : Option New) else nw j).isNone) (o :: l) k a = fr vs (fun j => (nw j).isNone) l (k + 1) (a.put o.dst v) := by
          show fr _ _ l (k + 1) (if (if k = k then (none : Option New) else nw k).isNone then a.put o.dst (if k = k then v else vs k) else a) = _
          rw [if_pos rfl, if_pos rfl, Option.isNone_none, if_pos rfl, e1]
          exact fr_congr _ _ _ _ _ _ (fun j _ => by simp [show k + 1 + j ≠ k by omega])
        rw [ef]
        have ea : ∀ (l' : List Oper) (m : Nat), k < m → accOf (fun j => if j = k then none else nw j) l' m = accOf nw l' m := by
          intro l'
          induction l' with
          | nil => intro m _; rfl
          | cons o' l' ih =>
            intro m hm
            simp only [accOf]
            rw [if_neg (show ¬ m = k by omega), ih (m + 1) (by omega)]
        show Qh _ (acc ++ ((match (if k = k then (none : Option New) else nw k) with | some R => [(o.dst, R)] | none => []) ++ accOf _ l (k + 1)))
        rw [if_pos rfl, ea l (k + 1) (by omega)]
        exact hQ
    · obtain ⟨vs, nw, hW, hQ⟩ := new_vals l (k + 1) _ _ hr
      have e2 : ∀ (q : Nat → Bool) (a' : Act), fr vs (fun j => q j && (if j = k then some R else nw j).isNone) l (k + 1) a' = fr vs (fun j => q j && (nw j).isNone) l (k + 1) a' :=
        fun q a' => fr_congr _ _ _ _ _ _ (fun j _ => by simp [show k + 1 + j ≠ k by omega])
      have ef : ∀ (q : Nat → Bool), fr vs (fun j => q j && (if j = k then some R else nw j).isNone) (o :: l) k a = fr vs (fun j => q j && (nw j).isNone) l (k + 1) a := by
        intro q
        show fr _ _ l (k + 1) (if (q k && (if k = k then some R else nw k).isNone) then a.put o.dst (vs k) else a) = _
        rw [if_pos rfl, Option.isNone_some, Bool.and_false, if_neg (by simp), e2]
      refine ⟨vs, fun j => if j = k then some R else nw j, ⟨fun i o' hi hno => ?_, fun i o' R' hi hno => ?_⟩, ?_⟩
      · cases i with
        | zero => simp at hno
        | succ i =>
          have hi' : l[i]? = some o' := by simpa using hi
          have hne : k + (i + 1) ≠ k := by omega
          have hno' : nw (k + 1 + i) = none := by have h := hno; simp only [if_neg hne] at h; rwa [show k + (i + 1) = k + 1 + i by omega] at h
          have h3 := hW.quiet i o' hi' hno'
          rw [ef (fun j => decide (j < k + (i + 1))), show k + (i + 1) = k + 1 + i by omega]
          exact h3
      · cases i with
        | zero =>
          have : o = o' := by simpa using hi
          subst this
          have : R = R' := by simpa using hno
          subst this
          rw [ef (fun j => decide (j < k + 0)), fr_none vs _ l (k + 1) a (fun j hj => by simp; omega)]
          exact ⟨hR, hD, hw, hn⟩
        | succ i =>
          have hi' : l[i]? = some o' := by simpa using hi
          have hne : k + (i + 1) ≠ k := by omega
          have hno' : nw (k + 1 + i) = some R' := by have h := hno; simp only [if_neg hne] at h; rwa [show k + (i + 1) = k + 1 + i by omega] at h
          have h3 := hW.fresh i o' R' hi' hno'
          rw [ef (fun j => decide (j < k + (i + 1))), show k + (i + 1) = k + 1 + i by omega]
          exact h3
      · have ef' := ef (fun _ => true)
        simp only [Bool.true_and] at ef'
        rw [ef']
        have ea : ∀ (l' : List Oper) (m : Nat), k < m → accOf (fun j => if j = k then some R else nw j) l' m = accOf nw l' m := by
          intro l'
          induction l' with
          | nil => intro m _; rfl
          | cons o' l' ih =>
            intro m hm
            simp only [accOf]
            rw [if_neg (show ¬ m = k by omega), ih (m + 1) (by omega)]
        show Qh _ (acc ++ ((match (if k = k then some R else nw k) with | some R => [(o.dst, R)] | none => []) ++ accOf _ l (k + 1)))
        rw [if_pos rfl, ea l (k + 1) (by omega)]
        simpa [List.append_assoc] using hQ

theorem plain_value {P : Program} {o : Oper} (h : plainOp o.op = true) {C : World → Prop} {v : Value} {a : Act} {w : World} (hq : o.quietAt P a C w v) : (execOp a.eval o).run P w = .ok (.value v) w := by
  unfold Oper.quietAt at hq
  have h4 := fun f args w1 => plain_run (P := P) (o := o) h a.eval w (f := f) (args := args) (w' := w1)
  have h5 := fun w1 => plain_skip (P := P) (o := o) h a.eval w (w' := w1)
  generalize (execOp a.eval o).run P w = r at hq h4 h5
  cases r with
  | ok nx w1 =>
    cases nx with
    | value u => obtain ⟨rfl, rfl⟩ := hq; rfl
    | skip => exact absurd rfl (h5 w1)
    | enter f args => exact absurd rfl (h4 f args w1)
    | _ => exact hq.elim
  | halt x w1 => exact hq.elim
theorem Known.wp {i : Nat} {o : Oper} {v : Value} {a b : Act} {w' : World} (ho : ops[i]? = some o) (hM : Mods No W w') (hs : ∀ cs b, o.op ≠ .select cs b) (agree : ∀ t ∈ o.looksAt ops, a.tmps[t]? = b.tmps[t]?) (hk : Known P ops W o v b) :
    wpOp P ops Q i (fun a'' w'' => a'' = a.put o.dst v ∧ Mods No w' w'') a w' := by
  obtain ⟨ea, ew⟩ := exec_agree (ops := ops) hs agree
  unfold wpOp
  simp only [ho]
  rcases hk with ⟨hpl, hyi⟩ | ⟨_, hw, hn⟩
  · rcases YieldsIn.agree hs agree hyi with ⟨h1, h2⟩ | ⟨h1, h2⟩
    · rw [if_pos h1]
      refine .inl ?_
      unfold Oper.wp
      rw [plain_value hpl (h2 w' ⟨⟨w', hM⟩, rfl⟩)]
      exact ⟨rfl, Mods.refl _ _⟩
    · rw [if_neg (by rw [h1]; simp)]
      exact ⟨by rw [h2], Mods.refl _ _⟩
  · rw [if_pos (by rw [ew]; exact hw)]
    exact .inl (newAt.wp (hn ⟨w', hM⟩) ea (fun u w'' hm hr => ⟨by rw [hr], hm⟩))

structure GoodNew (l : List Oper) (n : Nat) (D : List Tmp) : Prop where
  looks : ∀ (t : Tmp) (i : Nat) (o : Oper), t ∈ D → i < n → l[i]? = some o → t ∉ o.looksAt l.toArray
  one : ∀ (t : Tmp) (i j : Nat) (oi oj : Oper), t ∈ D → i < n → j < n → l[i]? = some oi → l[j]? = some oj → oi.dst = some t → oj.dst = some t → i = j
/-- the new things of those that have been carried out -/
structure Told (W : World) (n : Nat) (nw : Nat → Option New) (p : Nat → Bool) (w : World) (val : Nat → Value) (lo hi : Nat → Nat) : Prop where
  rel : ∀ i R, i < n → nw i = some R → p i = true → R (val i) w (lo i) (hi i) ∧ W.heap.size ≤ lo i ∧ lo i ≤ hi i ∧ hi i ≤ w.heap.size
  apart : ∀ i j, i < n → j < n → i ≠ j → (nw i).isSome = true → (nw j).isSome = true → p i = true → p j = true → hi i ≤ lo j ∨ hi j ≤ lo i

theorem finNew_told {K : Act → Prop} {w : World} {n : Nat} {nw : Nat → Option New} {val : Nat → Value} {lo hi : Nat → Nat} (hT : Told W n nw (fun _ => true) w val lo hi) :
    ∀ (l : List Oper) (k : Nat) (used : List (Nat × Nat)) (a : Act), k + l.length ≤ n → (∀ u ∈ used, ∃ i, i < k ∧ (nw i).isSome = true ∧ u = (lo i, hi i)) →
    finNew K W.heap.size w (accOf nw l k) used a → K (fr val (fun j => (nw j).isSome) l k a)
  | [], _, _, _, _, _, h => h
  | o :: l, k, used, a, hk, hu, h => by
    simp only [List.length_cons] at hk
    show K (fr val _ l (k + 1) (if (nw k).isSome then a.put o.dst (val k) else a))
    simp only [accOf] at h
    cases hn : nw k with
    | none =>
      rw [hn] at h
      rw [Option.isSome_none, if_neg (by simp)]
      exact finNew_told hT l (k + 1) used a (by omega) (fun u hu' => by obtain ⟨i, hi, h1, h2⟩ := hu u hu'; exact ⟨i, by omega, h1, h2⟩) h
    | some R =>
      rw [hn] at h
      rw [Option.isSome_some, if_pos rfl]
      obtain ⟨h1, h2, h3, h4⟩ := hT.rel k R (by omega) hn rfl
      have h5 := h (val k) (lo k) (hi k) h1 h2 h3 h4 (fun u hu' => by
        obtain ⟨i, hi, h6, h7⟩ := hu u hu'
        subst h7
        exact hT.apart i k (by omega) (by omega) (by omega) h6 (by rw [hn]; rfl) rfl rfl)
      refine finNew_told hT l (k + 1) _ _ (by omega) (fun u hu' => ?_) h5
      rcases List.mem_cons.1 hu' with h6 | h6
      · exact ⟨k, by omega, by rw [hn]; rfl, h6⟩
      · obtain ⟨i, hi, h7, h8⟩ := hu u h6
        exact ⟨i, by omega, h7, h8⟩

theorem finNew_mono {K K' : Act → Prop} (hK : ∀ a, K a → K' a) {B : Nat} {w : World} : ∀ (acc : List (Option Tmp × New)) (used : List (Nat × Nat)) (a : Act), finNew K B w acc used a → finNew K' B w acc used a
  | [], _, _, h => hK _ h
  | (d, R) :: r, used, a, h => fun v lo hi h1 h2 h3 h4 h5 => finNew_mono hK r _ _ (h v lo hi h1 h2 h3 h4 h5)
theorem wpNew_mono {Qh Qh' : Act → List (Option Tmp × New) → Prop} (hQ : ∀ a acc, Qh a acc → Qh' a acc) : ∀ (l : List Oper) (a : Act) (acc : List (Option Tmp × New)), wpNew P ops W D Qh l a acc → wpNew P ops W D Qh' l a acc
  | [], _, _, h => hQ _ _ h
  | o :: l, a, acc, h => by
    rcases h with ⟨hp, h⟩ | ⟨hpf, hw, v, hn, hr⟩ | ⟨hw, hD, R, hR, hn, hr⟩
    · refine .inl ⟨hp, ?_⟩
      split
      · rename_i hw
        rw [if_pos hw] at h
        exact Oper.quiet_mono (fun a' h' => wpNew_mono hQ l a' acc h') h
      · rename_i hw
        rw [if_neg hw] at h
        exact wpNew_mono hQ l _ acc h
    · exact .inr (.inl ⟨hpf, hw, v, hn, wpNew_mono hQ l _ acc hr⟩)
    · exact .inr (.inr ⟨hw, hD, R, hR, hn, wpNew_mono hQ l a _ hr⟩)
/-- the frame with all values is the walk's frame, the new ones put in behind -/
theorem fr_split (vs val : Nat → Value) (nw : Nat → Option New) : ∀ (l : List Oper) (k : Nat) (a : Act),
    (∀ i j oi oj, l[i]? = some oi → l[j]? = some oj → (nw (k + i)).isSome = true → (nw (k + j)).isNone = true → ∀ t, oi.dst = some t → oj.dst ≠ some t) →
    fr (fun j => if (nw j).isSome then val j else vs j) (fun _ => true) l k a = fr val (fun j => (nw j).isSome) l k (fr vs (fun j => (nw j).isNone) l k a)
  | [], _, _, _ => rfl
  | o :: l, k, a, h => by
    have hr := fun a' => fr_split vs val nw l (k + 1) a' (fun i j oi oj hi hj h1 h2 => h (i + 1) (j + 1) oi oj (by simpa using hi) (by simpa using hj) (by rwa [show k + (i + 1) = k + 1 + i by omega]) (by rwa [show k + (j + 1) = k + 1 + j by omega]))
    show fr _ _ l (k + 1) (if true = true then a.put o.dst (if (nw k).isSome then val k else vs k) else a) = fr val _ l (k + 1) (if (nw k).isSome then (fr vs _ l (k + 1) (if (nw k).isNone then a.put o.dst (vs k) else a)).put o.dst (val k) else fr vs _ l (k + 1) (if (nw k).isNone then a.put o.dst (vs k) else a))
    rw [if_pos rfl, hr]
    cases hn : nw k with
    | none => simp
    | some R =>
      simp only [Option.isSome_some, if_true, Option.isNone_some, Bool.false_eq_true, if_false]
      rw [fr_put vs (fun j => (nw j).isNone) o.dst (val k) l (k + 1) a (fun j oj hj hp t ht => h 0 (j + 1) o oj rfl (by simpa using hj) (by rw [Nat.add_zero, hn]; rfl) (by rwa [show k + (j + 1) = k + 1 + j by omega]) t ht)]

/-! the tail, S kept at each step -/
theorem count_less {listed : Array Bool} {i fuel : Nat} (hs : listed.size = ops.size) (hi : i ∈ Region.ready md ops listed) (hc : listed.toList.count false ≤ fuel + 1) : (listed.setIfInBounds i true).toList.count false ≤ fuel := by
  obtain ⟨h1, o, ho, _⟩ := mem_ready.1 hi
  have hlt : i < listed.size := by rw [hs]; exact (Array.getElem?_eq_some_iff.1 ho).1
  have hv : listed[i] = false := by simpa [Array.getD, hlt] using h1
  have hl : i < listed.toList.length := by simpa using hlt
  have hp : 0 < listed.toList.count false := List.count_pos_iff.2 (by rw [← hv]; exact Array.mem_toList_iff.2 (Array.getElem_mem hlt))
  rw [Array.toList_setIfInBounds, List.count_set hl, show listed.toList[i] = false by simpa using hv]
  simp only [beq_self_eq_true, if_true, show ((true == false) = true) = False by simp, if_false]
  omega
def wpKept (P : Program) (ops : Array Oper) (S : World → Prop) (Q : Exit → Act → World → Prop) : List Oper → Act → World → Prop
  | [], a, w => Q .normal a w
  | o :: rest, a, w => if Region.wanted o (yielded ops a.tmps) then o.wp P a w (fun a' w' => S w' ∧ wpKept P ops S Q rest a' w') Q ∨ (o.asks P a w ∧ LetsOut Q) else S w ∧ wpKept P ops S Q rest (a.put o.dst undef) w
theorem wpKept_nil {S : World → Prop} {a : Act} {w : World} (h : Q .normal a w) : wpKept P ops S Q [] a w := h
theorem wpKept_plain {S : World → Prop} {o : Oper} {rest : List Oper} {a : Act} {w : World} (hg : o.guard = none) (h : o.wp P a w (fun a' w' => S w' ∧ wpKept P ops S Q rest a' w') Q) : wpKept P ops S Q (o :: rest) a w := by
  unfold wpKept
  rw [if_pos (by simp [Region.wanted, hg])]
  exact .inl h
theorem wpKept_list : ∀ (l : List Oper) (a : Act) (w : World), wpList P ops Q l a w → wpKept P ops (fun _ => True) Q l a w
  | [], _, _, h => h
  | o :: rest, a, w, h => by
    unfold wpList at h
    unfold wpKept
    split
    · rename_i hw
      rw [if_pos hw] at h
      exact h.imp (Oper.wp_mono (fun a' w' h' => ⟨trivial, wpKept_list rest a' w' h'⟩)) id
    · rename_i hw
      rw [if_neg hw] at h
      exact ⟨trivial, wpKept_list rest _ _ h⟩
theorem heldN_of_inv {S : World → Prop} (J : Array Bool → Act → World → Prop)
    (hstep : ∀ listed a w i, listed.size = ops.size → J listed a w → i ∈ Region.ready md ops listed → wpOp P ops Q i (fun a' w' => S w' ∧ J (listed.setIfInBounds i true) a' w') a w)
    (hend : ∀ listed a w, listed.size = ops.size → J listed a w → Region.ready md ops listed = [] → Q .normal a w) :
    ∀ (fuel : Nat) (listed : Array Bool) (a : Act) (w : World), listed.size = ops.size → listed.toList.count false ≤ fuel → J listed a w → wpAnyH P md ops Q S fuel listed a w := by
  intro fuel
  induction fuel with
  | zero =>
    intro listed a w hs hc hJ
    have h0 : Region.ready md ops listed = [] := by
      rw [List.eq_nil_iff_forall_not_mem]
      intro i hi
      obtain ⟨h1, o, ho, _⟩ := mem_ready.1 hi
      have hlt : i < listed.size := by rw [hs]; exact (Array.getElem?_eq_some_iff.1 ho).1
      have hm : false ∈ listed.toList := by
        have : listed[i] = false := by simpa [Array.getD, hlt] using h1
        rw [← this]
        exact Array.mem_toList_iff.2 (Array.getElem_mem hlt)
      have := List.count_pos_iff.2 hm
      omega
    exact ⟨h0, hend _ _ _ hs hJ h0⟩
  | succ fuel ih =>
    intro listed a w hs hc hJ
    refine ⟨fun h0 => hend _ _ _ hs hJ h0, fun i hi => ?_⟩
    refine wpOp_mono (fun a' w' h' => ⟨h'.1, ih _ a' w' (by simpa using hs) ?_ h'.2⟩) (hstep _ _ _ _ hs hJ hi)
    exact count_less hs hi hc

/-! the check, with some operations (T) taken first -/
def goodT (md : Region.Mode) (l : List Oper) (n : Nat) (T : List Nat) : Bool :=
  let ops := l.toArray
  let A := ancTab md l []
  Region.noSelect ops && decide (n ≤ l.length) &&
  (List.range l.length).all fun i =>
    match l[i]? with
    | none => true
    | some oi =>
      (oi.after.toList.all fun e => !Region.binds md e || decide (e.on < i)) && !dstIn oi.dst (oi.looksAt ops) &&
      (List.range i).all fun j => match l[j]? with
        | none => true
        | some oj => (!(clash ops oj oi || (decide (n ≤ i) && !T.contains j))) || (A.getD i 0).testBit j
structure GoodTaken (md : Region.Mode) (l : List Oper) (n : Nat) (T : List Nat) : Prop where
  sel : ∀ (j : Nat) (o : Oper) cs b, l[j]? = some o → o.op ≠ .select cs b
  le : n ≤ l.length
  fwd : ∀ (i : Nat) (o : Oper), l[i]? = some o → ∀ e ∈ o.after, Region.binds md e = true → e.on < i
  own : ∀ (i : Nat) (o : Oper) (t : Tmp), l[i]? = some o → o.dst = some t → t ∉ o.looksAt l.toArray
  anc : ∀ (i j : Nat) (oi oj : Oper), l[i]? = some oi → l[j]? = some oj → j < i → (clash l.toArray oj oi = true ∨ n ≤ i ∧ j ∉ T) → Anc md l.toArray i j
theorem goodT_spec {l : List Oper} {n : Nat} {T : List Nat} (h : goodT md l n T = true) : GoodTaken md l n T := by
  simp only [goodT, Bool.and_eq_true, decide_eq_true_eq, List.all_eq_true, List.mem_range] at h
  obtain ⟨⟨h1, h2⟩, h3⟩ := h
  refine ⟨fun j o cs b hj => Region.noSelect_spec h1 j o cs b (by simpa using hj), h2, fun i o hi e he hb => ?_, fun i o t hi hd hm => ?_, fun i j oi oj hi hj hlt hc => ?_⟩
  · have := h3 i (List.getElem?_eq_some_iff.1 hi).1
    rw [hi] at this
    simp only [Bool.and_eq_true, List.all_eq_true] at this
    have := this.1.1 e (Array.mem_toList_iff.2 he)
    simpa [hb] using this
  · have := h3 i (List.getElem?_eq_some_iff.1 hi).1
    rw [hi] at this
    simp only [Bool.and_eq_true, List.all_eq_true] at this
    have := this.1.2
    rw [hd] at this
    simp [dstIn, hm] at this
  · have := h3 i (List.getElem?_eq_some_iff.1 hi).1
    rw [hi] at this
    simp only [Bool.and_eq_true, List.all_eq_true, List.mem_range] at this
    have h4 := this.2 j hlt
    rw [hj] at h4
    have hc' : (clash l.toArray oj oi || (decide (n ≤ i) && !T.contains j)) = true := by
      rcases hc with hc | ⟨hc, hc2⟩
      · simp [hc]
      · simp [hc, hc2]
    simp only [hc', Bool.not_true, Bool.false_or] at h4
    exact ancTab_spec l [] (fun j => by simp) (fun k j hb => by simp at hb) i j h4
def newB (l : List Oper) (n : Nat) (D : List Tmp) : Bool :=
  D.all fun t =>
    (List.range n).all fun i => match l[i]? with
      | none => true
      | some oi => !(oi.looksAt l.toArray).contains t && (List.range i).all fun j => match l[j]? with
        | none => true
        | some oj => !(oi.dst == some t && oj.dst == some t)
theorem newB_spec {l : List Oper} {n : Nat} {D : List Tmp} (h2 : newB l n D = true) : GoodNew l n D := by
  have h3 : ∀ t ∈ D, ∀ i < n, ∀ oi, l[i]? = some oi → (oi.looksAt l.toArray).contains t = false ∧ ∀ j < i, ∀ oj, l[j]? = some oj → ¬ (oi.dst = some t ∧ oj.dst = some t) := by
    intro t ht i hi oi ho
    have h4 := List.all_eq_true.1 h2 t ht
    have h5 := List.all_eq_true.1 h4 i (List.mem_range.2 hi)
    rw [ho] at h5
    simp only [Bool.and_eq_true, Bool.not_eq_true'] at h5
    refine ⟨h5.1, fun j hj oj hoj => ?_⟩
    have h6 := List.all_eq_true.1 h5.2 j (List.mem_range.2 hj)
    rw [hoj] at h6
    intro hh
    simp [hh.1, hh.2] at h6
  refine ⟨fun t i o ht hi ho hm => ?_, fun t i j oi oj ht hi hj ho hoj hd hdj => ?_⟩
  · have := (h3 t ht i hi o ho).1
    simp [hm] at this
  · rcases Nat.lt_trichotomy i j with h | h | h
    · exact absurd ⟨hdj, hd⟩ ((h3 t ht j hj oj hoj).2 i h oi ho)
    · exact h
    · exact absurd ⟨hd, hdj⟩ ((h3 t ht i hi oi ho).2 j h oj hoj)
/-- the operations of T may be taken first, in this order -/
def takeB (md : Region.Mode) (ops : Array Oper) : List Nat → Array Bool → Bool
  | [], _ => true
  | t :: r, listed => (Region.ready md ops listed).contains t && Region.free md ops listed t && takeB md ops r (listed.setIfInBounds t true)

/-- **ONE WALK, IN THE ORDER OF THE TEXT**, with new things; the operations of T (plain reads) are taken first, since the tail does not wait for them. -/
theorem wp_region_taken {id : Nat} {a : Act} {w : World} {l : List Oper} (S : World → Prop) (n : Nat) (D : List Tmp) (T : List Nat) (hSM : ∀ w', Mods No w w' → S w')
    (hY : ∀ t ∈ T, ∀ o v b, l[t]? = some o → plainOp o.op = true → YieldsIn P l.toArray (inExt w) o v b → YieldsIf P l.toArray S o v b) (hm : P.follows .mixedOrders = true) (hB : goodT .any l n T = true) (hB2 : newB l n D = true)
    (hB3 : (takeB .any l.toArray T (Array.replicate l.toArray.size false) && T.all fun t => decide (t < n) && match l[t]? with | some o => !dstIn o.dst D && plainOp o.op | none => true) = true)
    (hQ : ∀ d v c a w, Q (.panic c) (a.put d v) w → Q (.panic c) a w)
    (h : wpNew P l.toArray w D (fun a' acc => ∀ x : Ext w, finNew (fun a'' => wpKept P l.toArray S Q (l.drop n) a'' x.w) w.heap.size x.w acc [] a') (l.take n) a []) : (Code.region id l.toArray true).wp P Q a w := by
  have G := goodT_spec hB
  have G' := newB_spec hB2
  rw [Bool.and_eq_true] at hB3
  obtain ⟨hB3, hTn⟩ := hB3
  obtain ⟨vs, nw, hy, hT⟩ := new_vals (l.take n) 0 a [] h
  have hlen : (l.take n).length = n := List.length_take_of_le G.le
  have hget : ∀ i : Nat, l.toArray[i]? = l[i]? := fun i => by simp
  have htake : ∀ i : Nat, i < n → (l.take n)[i]? = l[i]? := fun i hi => List.getElem?_take_of_lt hi
  -- the slots of new things
  have hDst : ∀ (i : Nat) (o : Oper), i < n → l[i]? = some o → (nw i).isSome = true → ∃ t, o.dst = some t ∧ t ∈ D := fun i o hi ho hs => by
    obtain ⟨R, hR⟩ := Option.isSome_iff_exists.1 hs
    have := (hy.fresh i o R (by rw [htake i hi]; exact ho) (by rw [Nat.zero_add]; exact hR)).2.1
    exact dstIn_iff.1 this
  have hTa : ∀ t ∈ T, t < n ∧ nw t = none := fun t ht => by
    have h1 := List.all_eq_true.1 hTn t ht
    rw [Bool.and_eq_true, decide_eq_true_eq] at h1
    refine ⟨h1.1, ?_⟩
    cases hn : nw t with
    | none => rfl
    | some R =>
      obtain ⟨o, ho⟩ := some_at (Nat.lt_of_lt_of_le h1.1 G.le)
      obtain ⟨d, hd, hdD⟩ := hDst t o h1.1 ho (by rw [hn]; rfl)
      have h2 := h1.2
      rw [ho] at h2
      simp only [Bool.and_eq_true, Bool.not_eq_true'] at h2
      rw [dstIn_iff.2 ⟨d, hd, hdD⟩] at h2
      cases h2.1
  let F : (Nat → Value) → (Nat → Bool) → Act := fun val p => fr (fun j => if (nw j).isSome then val j else vs j) p (l.take n) 0 a
  let J : Array Bool → Act → World → Prop := fun listed a' w' =>
    Closed .any l.toArray listed ∧ (∀ t ∈ T, listed.getD t false = true) ∧
    (((∀ t, n ≤ t → listed.getD t false = false) ∧ Mods No w w' ∧ ∃ (val : Nat → Value) (lo hi : Nat → Nat), Told w n nw (fun i => listed.getD i false) w' val lo hi ∧ a' = F val (fun i => listed.getD i false)) ∨
     ∃ k, n < k ∧ k ≤ l.length ∧ (∀ t, listed.getD t false = decide (t < k)) ∧ wpKept P l.toArray S Q (l.drop k) a' w')
  have hfin : ∀ (listed : Array Bool) (w' : World) (val : Nat → Value) (lo hi : Nat → Nat), (∀ i, i < n → listed.getD i false = true) → Mods No w w' → Told w n nw (fun i => listed.getD i false) w' val lo hi →
      wpKept P l.toArray S Q (l.drop n) (F val (fun i => listed.getD i false)) w' := by
    intro listed w' val lo hi hl hM hTold
    have e1 : F val (fun i => listed.getD i false) = F val (fun _ => true) := fr_congr _ _ _ _ _ _ (fun j hj => by rw [hlen] at hj; simpa using hl j hj)
    have hT' : Told w n nw (fun _ => true) w' val lo hi := ⟨fun i R hi hn _ => hTold.rel i R hi hn (hl i hi), fun i j hi hj hne h1 h2 _ _ => hTold.apart i j hi hj hne h1 h2 (hl i hi) (hl j hj)⟩
    rw [e1]
    have e2 := fr_split vs val nw (l.take n) 0 a (fun i j oi oj hi hj h1 h2 t ht htj => by
      rw [Nat.zero_add] at h1 h2
      have hin : i < n := by rw [← hlen]; exact (List.getElem?_eq_some_iff.1 hi).1
      have hjn : j < n := by rw [← hlen]; exact (List.getElem?_eq_some_iff.1 hj).1
      rw [htake i hin] at hi
      rw [htake j hjn] at hj
      obtain ⟨t', ht', htD⟩ := hDst i oi hin hi h1
      rw [ht] at ht'
      cases ht'
      have := G'.one t i j oi oj htD hin hjn hi hj ht htj
      subst this
      cases hnn : nw i <;> simp [hnn] at h1 h2)
    show wpKept P l.toArray S Q (l.drop n) (fr _ _ (l.take n) 0 a) w'
    rw [e2]
    have hq := hT ⟨w', hM⟩
    rw [List.nil_append] at hq
    exact finNew_told (K := fun a'' => wpKept P l.toArray S Q (l.drop n) a'' w') hT' (l.take n) 0 [] _ (by rw [hlen]; omega) (fun u hu => by cases hu) hq
  have hnext : ∀ (listed : Array Bool) (k : Nat), listed.size = l.toArray.size → k < l.length → listed.getD k false = false → (∀ j, j < k → listed.getD j false = true) → k ∈ Region.ready .any l.toArray listed := by
    intro listed k hs hk hu hd
    obtain ⟨o, ho⟩ := some_at hk
    rw [mem_ready]
    exact ⟨getD_tf (by rw [hs]; simpa using hk) hu, o, by rw [hget]; exact ho, fun e he hb => hd _ (G.fwd k o ho e he hb)⟩
  have hagree : ∀ (listed : Array Bool) (val : Nat → Value) (i : Nat) (o : Oper), Closed .any l.toArray listed → i ∈ Region.ready .any l.toArray listed → i < n → l[i]? = some o → ∀ t ∈ o.looksAt l.toArray,
      (F val (fun j => listed.getD j false)).tmps[t]? = (fr vs (fun j => decide (j < i) && (nw j).isNone) (l.take n) 0 a).tmps[t]? := by
    intro listed val i o hcl hi hin ho' t ht
    have hun := (mem_ready.1 hi).1
    have e0 : fr vs (fun j => decide (j < i) && (nw j).isNone) (l.take n) 0 a = fr (fun j => if (nw j).isSome then val j else vs j) (fun j => decide (j < i) && (nw j).isNone) (l.take n) 0 a :=
      fr_of _ _ _ _ _ _ (fun j _ hp => by cases hj : nw j <;> simp [hj] at hp ⊢)
    rw [e0]
    refine fr_agree _ _ _ t _ 0 a a (fun j oj hj hd => ?_) rfl rfl
    simp only [Nat.zero_add]
    have hjn : j < n := by rw [← hlen]; exact (List.getElem?_eq_some_iff.1 hj).1
    have hj' : l[j]? = some oj := by rw [← htake j hjn]; exact hj
    have hjq : nw j = none := by
      cases hq : nw j with
      | none => rfl
      | some R =>
        obtain ⟨t', ht', htD⟩ := hDst j oj hjn hj' (by rw [hq]; rfl)
        rw [hd] at ht'
        cases ht'
        exact absurd ht (G'.looks t i o htD hin ho')
    rw [hjq, Option.isNone_none, Bool.and_true]
    rcases Nat.lt_trichotomy j i with hji | hji | hji
    · have := G.anc i j o oj ho' hj' hji (.inl (by simp only [clash, Bool.or_eq_true]; exact .inl (.inl (dstIn_iff.2 ⟨t, hd, ht⟩))))
      rw [hcl.ready hi this]
      simp [hji]
    · subst hji
      cases ho'.symm.trans hj'
      exact absurd ht (G.own j o t ho' hd)
    · have := G.anc j i oj o hj' ho' hji (.inl (by simp only [clash, Bool.or_eq_true]; exact .inl (.inr (dstIn_iff.2 ⟨t, hd, ht⟩))))
      have hf : listed.getD j false = false := by
        cases hl : listed.getD j false with
        | false => rfl
        | true => have h1 := hcl.anc this hl; rw [getD_ff hun] at h1; cases h1
      rw [hf]
      simp; omega
  have hset : ∀ (listed : Array Bool) (val' : Nat → Value) (i : Nat) (o : Oper), Closed .any l.toArray listed → i ∈ Region.ready .any l.toArray listed → i < n → l[i]? = some o →
      fr (fun j => if (nw j).isSome then val' j else vs j) (fun j => decide (j = i) || listed.getD j false) (l.take n) 0 a = (fr (fun j => if (nw j).isSome then val' j else vs j) (fun j => listed.getD j false) (l.take n) 0 a).put o.dst (if (nw i).isSome then val' i else vs i) :=
    fun listed val' i o hcl hi hin ho' => fr_set _ _ i o (l.take n) 0 a (Nat.zero_le _) (by rw [Nat.sub_zero, htake i hin]; exact ho') (getD_ff (mem_ready.1 hi).1) (fun j oj hj hij hp t hdi hdj => by
      simp only [Nat.zero_add] at hij hp
      have hjn : j < n := by rw [← hlen]; exact (List.getElem?_eq_some_iff.1 hj).1
      have hj' : l[j]? = some oj := by rw [← htake j hjn]; exact hj
      have := G.anc j i oj o hj' ho' hij (.inl (by simp only [clash, Bool.or_eq_true]; exact .inr (dstIn_iff.2 ⟨t, hdi, by simp [hdj]⟩)))
      have h1 := hcl.anc this hp
      rw [getD_ff (mem_ready.1 hi).1] at h1
      cases h1)
  -- the walk behind the taken ones
  have main : ∀ (fuel : Nat) (listed : Array Bool) (a' : Act) (w' : World), listed.size = l.toArray.size → listed.toList.count false ≤ fuel → J listed a' w' → wpAnyH P .any l.toArray Q S fuel listed a' w' := by
    refine heldN_of_inv J ?_ ?_
    · -- a step
      intro listed a' w' i hs hJ hi
      obtain ⟨hcl, hTl, hJ⟩ := hJ
      obtain ⟨hun, o, ho, hall⟩ := mem_ready.1 hi
      have ho' : l[i]? = some o := by rw [← hget]; exact ho
      have hlt : i < l.length := (List.getElem?_eq_some_iff.1 ho').1
      have hil : i < listed.size := by rw [hs]; simpa using hlt
      have hcl' := hcl.set hi
      have hTl' : ∀ t ∈ T, (listed.setIfInBounds i true).getD t false = true := fun t ht => getD_set_true (hTl t ht)
      have hbit : (fun j => (listed.setIfInBounds i true).getD j false) = fun j => decide (j = i) || listed.getD j false := funext fun j => getD_true_iff hil
      rcases hJ with ⟨htail, hM, val, lo, hiv, hTold, rfl⟩ | ⟨k, hnk, hkl, hbits, hw⟩
      · by_cases hin : i < n
        · have hti : (l.take n)[i]? = some o := by rw [htake i hin]; exact ho'
          have htail' : ∀ t, n ≤ t → (listed.setIfInBounds i true).getD t false = false := fun t ht => by
            rw [getD_true_iff hil, htail t ht, Bool.or_false, decide_eq_false_iff_not]; omega
          have agree := hagree listed val i o hcl hi hin ho'
          cases hq : nw i with
          | none =>
            have hk := hy.quiet i o hti (by rw [Nat.zero_add]; exact hq)
            simp only [Nat.zero_add] at hk
            refine wpOp_mono (fun a'' w'' ⟨h1, hm⟩ => ?_) (Known.wp ho hM (fun cs b => G.sel i o cs b ho') agree hk)
            subst h1
            refine ⟨hSM _ (hM.no hm), hcl', hTl', .inl ⟨htail', hM.no hm, val, lo, hiv, ⟨fun q R hqn hqr hp => ?_, fun q r hqn hrn hne h1 h2 hp1 hp2 => ?_⟩, ?_⟩⟩
            · have : q ≠ i := fun e => by rw [e, hq] at hqr; cases hqr
              rw [getD_true_iff hil, show decide (q = i) = false by simp [this], Bool.false_or] at hp
              obtain ⟨h1, h2, h3, h4⟩ := hTold.rel q R hqn hqr hp
              obtain ⟨hst, _⟩ := hy.fresh q _ R (by rw [htake q hqn]; exact (some_at (Nat.lt_of_lt_of_le hqn G.le)).choose_spec) (by rw [Nat.zero_add]; exact hqr)
              exact ⟨hst _ _ _ _ _ hm h1, h2, h3, Nat.le_trans h4 hm.size⟩
            · have n1 : q ≠ i := fun e => by rw [e, hq] at h1; cases h1
              have n2 : r ≠ i := fun e => by rw [e, hq] at h2; cases h2
              rw [getD_true_iff hil, show decide (q = i) = false by simp [n1], Bool.false_or] at hp1
              rw [getD_true_iff hil, show decide (r = i) = false by simp [n2], Bool.false_or] at hp2
              exact hTold.apart q r hqn hrn hne h1 h2 hp1 hp2
            · show _ = fr _ (fun j => (listed.setIfInBounds i true).getD j false) (l.take n) 0 a
              rw [hbit, hset listed val i o hcl hi hin ho', hq, Option.isSome_none, if_neg (by simp)]
          | some R =>
            obtain ⟨hRs, hRd, hRw, hRn⟩ := hy.fresh i o R hti (by rw [Nat.zero_add]; exact hq)
            simp only [Nat.zero_add] at hRw hRn
            obtain ⟨ea, ew⟩ := exec_agree (ops := l.toArray) (fun cs b => G.sel i o cs b ho') agree
            unfold wpOp
            simp only [ho]
            rw [if_pos (by rw [ew]; exact hRw)]
            refine .inl (newAt.wp (hRn ⟨w', hM⟩) ea (fun v w'' hm hr => ?_))
            have hsz := hm.size
            refine ⟨hSM _ (hM.no hm), hcl', hTl', .inl ⟨htail', hM.no hm, fun j => if j = i then v else val j, fun j => if j = i then w'.heap.size else lo j, fun j => if j = i then w''.heap.size else hiv j, ⟨fun q R' hqn hqr hp => ?_, fun q r hqn hrn hne h1 h2 hp1 hp2 => ?_⟩, ?_⟩⟩
            · by_cases e : q = i
              · subst e
                rw [hq] at hqr
                cases hqr
                simp only [if_true]
                exact ⟨hr, hM.size, hsz, Nat.le_refl _⟩
              · simp only [if_neg e]
                rw [getD_true_iff hil, show decide (q = i) = false by simp [e], Bool.false_or] at hp
                obtain ⟨h1, h2, h3, h4⟩ := hTold.rel q R' hqn hqr hp
                obtain ⟨hst, _⟩ := hy.fresh q _ R' (by rw [htake q hqn]; exact (some_at (Nat.lt_of_lt_of_le hqn G.le)).choose_spec) (by rw [Nat.zero_add]; exact hqr)
                exact ⟨hst _ _ _ _ _ hm h1, h2, h3, Nat.le_trans h4 hsz⟩
            · by_cases e1 : q = i
              · by_cases e2 : r = i
                · exact absurd (e1.trans e2.symm) hne
                · rw [getD_true_iff hil, show decide (r = i) = false by simp [e2], Bool.false_or] at hp2
                  obtain ⟨R', hR'⟩ := Option.isSome_iff_exists.1 h2
                  obtain ⟨_, _, _, h4⟩ := hTold.rel r R' hrn hR' hp2
                  simp only [if_pos e1, if_neg e2]
                  exact .inr h4
              · by_cases e2 : r = i
                · rw [getD_true_iff hil, show decide (q = i) = false by simp [e1], Bool.false_or] at hp1
                  obtain ⟨R', hR'⟩ := Option.isSome_iff_exists.1 h1
                  obtain ⟨_, _, _, h4⟩ := hTold.rel q R' hqn hR' hp1
                  simp only [if_pos e2, if_neg e1]
                  exact .inl h4
                · rw [getD_true_iff hil, show decide (q = i) = false by simp [e1], Bool.false_or] at hp1
                  rw [getD_true_iff hil, show decide (r = i) = false by simp [e2], Bool.false_or] at hp2
                  simp only [if_neg e1, if_neg e2]
                  exact hTold.apart q r hqn hrn hne h1 h2 hp1 hp2
            · show _ = fr _ (fun j => (listed.setIfInBounds i true).getD j false) (l.take n) 0 a
              rw [hbit, hset listed _ i o hcl hi hin ho', hq, Option.isSome_some, if_pos rfl, if_pos rfl]
              have e5 : fr (fun j => if (nw j).isSome then (if j = i then v else val j) else vs j) (fun j => listed.getD j false) (l.take n) 0 a = fr (fun j => if (nw j).isSome then val j else vs j) (fun j => listed.getD j false) (l.take n) 0 a :=
                fr_of _ _ _ _ _ _ (fun j _ hp => by
                  have hne : j ≠ i := fun e => by
                    subst e
                    rw [getD_ff hun] at hp
                    cases hp
                  simp only [if_neg hne])
              rw [e5]
        · -- the tail begins
          have hdone : ∀ j, j < i → listed.getD j false = true := fun j hj => by
            by_cases hjT : j ∈ T
            · exact hTl j hjT
            · obtain ⟨oj, hoj⟩ := some_at (Nat.lt_trans hj hlt)
              exact hcl.ready hi (G.anc i j o oj ho' hoj hj (.inr ⟨by omega, hjT⟩))
          have hin' : i = n := by
            rcases Nat.lt_or_ge n i with h1 | h1
            · have h2 := hdone n h1
              rw [htail n (Nat.le_refl _)] at h2
              cases h2
            · omega
          subst hin'
          have hw := hfin listed w' val lo hiv hdone hM hTold
          rw [List.drop_eq_getElem_cons hlt, show l[i] = o from (List.getElem?_eq_some_iff.1 ho').2] at hw
          have hw2 : wpOp P l.toArray Q i (fun a1 w1 => S w1 ∧ wpKept P l.toArray S Q (l.drop (i + 1)) a1 w1) (F val (fun j => listed.getD j false)) w' := by
            unfold wpOp
            simp only [ho]
            unfold wpKept at hw
            split at hw
            · rename_i hc; rw [if_pos hc]; exact hw
            · rename_i hc; rw [if_neg hc]; exact hw
          refine wpOp_mono (fun a'' w'' h' => ⟨h'.1, hcl', hTl', .inr ⟨i + 1, by omega, by omega, fun t => ?_, h'.2⟩⟩) hw2
          rw [getD_true_iff hil]
          rcases Nat.lt_trichotomy t i with h1 | h1 | h1
          · rw [hdone t h1, Bool.or_true, eq_comm, decide_eq_true_eq]; omega
          · subst h1; simp
          · rw [htail t (by omega), Bool.or_false, Bool.eq_iff_iff, decide_eq_true_eq, decide_eq_true_eq]; omega
      · -- further on in the tail
        have hik : k ≤ i := by
          rcases Nat.lt_or_ge i k with h1 | h1
          · have h2 := hbits i
            rw [getD_ff hun] at h2
            simp at h2
            omega
          · exact h1
        have hik' : i = k := by
          rcases Nat.lt_or_ge k i with h1 | h1
          · obtain ⟨ok, hok⟩ := some_at (Nat.lt_trans h1 hlt)
            have hkT : k ∉ T := fun hkT => absurd (hTa k hkT).1 (by omega)
            have h2 := hcl.ready hi (G.anc i k o ok ho' hok h1 (.inr ⟨by omega, hkT⟩))
            rw [hbits k] at h2
            simp at h2
          · omega
        subst hik'
        rw [List.drop_eq_getElem_cons hlt, show l[i] = o from (List.getElem?_eq_some_iff.1 ho').2] at hw
        have hw2 : wpOp P l.toArray Q i (fun a1 w1 => S w1 ∧ wpKept P l.toArray S Q (l.drop (i + 1)) a1 w1) a' w' := by
          unfold wpOp
          simp only [ho]
          unfold wpKept at hw
          split at hw
          · rename_i hc; rw [if_pos hc]; exact hw
          · rename_i hc; rw [if_neg hc]; exact hw
        refine wpOp_mono (fun a'' w'' h' => ⟨h'.1, hcl', hTl', .inr ⟨i + 1, by omega, by omega, fun t => ?_, h'.2⟩⟩) hw2
        rw [getD_true_iff hil, hbits t]
        rw [Bool.eq_iff_iff, Bool.or_eq_true, decide_eq_true_eq, decide_eq_true_eq, decide_eq_true_eq]
        omega
    · -- the end
      intro listed a' w' hs hJ hr
      obtain ⟨hcl, hTl, hJ⟩ := hJ
      rcases hJ with ⟨htail, hM, val, lo, hiv, hTold, rfl⟩ | ⟨k, hnk, hkl, hbits, hw⟩
      · have hdone : ∀ i, i < l.length → listed.getD i false = true := by
          intro i
          induction i using Nat.strongRecOn with
          | _ i ih =>
            intro hi
            cases hl : listed.getD i false with
            | true => rfl
            | false =>
              have := hnext listed i hs hi hl (fun j hj => ih j hj (by omega))
              rw [hr] at this
              cases this
        have hnl : n = l.length := by
          rcases Nat.lt_or_ge n l.length with h1 | h1
          · have h2 := hdone n h1
            rw [htail n (Nat.le_refl _)] at h2
            cases h2
          · have := G.le; omega
        have hw := hfin listed w' val lo hiv (fun i hi => hdone i (by omega)) hM hTold
        rw [show l.drop n = [] by rw [hnl]; simp] at hw
        exact hw
      · have hkk : k = l.length := by
          rcases Nat.lt_or_ge k l.length with h1 | h1
          · have := hnext listed k hs h1 (by rw [hbits]; simp) (fun j hj => by rw [hbits]; simp [hj])
            rw [hr] at this
            cases this
          · omega
        rw [show l.drop k = [] by rw [hkk]; simp] at hw
        exact hw
  -- the taken ones
  have takes : ∀ (T2 : List Nat) (fuel : Nat) (listed : Array Bool), (∀ t ∈ T2, t ∈ T) → listed.size = l.toArray.size → (∀ i, listed.getD i false = true → i ∈ T) → Closed .any l.toArray listed → takeB .any l.toArray T2 listed = true →
      listed.toList.count false ≤ fuel → (∀ t ∈ T, listed.getD t false = true ∨ t ∈ T2) → wpAnyH P .any l.toArray Q S fuel listed (F (fun _ => undef) (fun j => listed.getD j false)) { w with drawn := w.drawn + 1 } := by
    intro T2
    induction T2 with
    | nil =>
      intro fuel listed _ hs hin hcl _ hc hall
      refine main fuel listed _ _ hs hc ⟨hcl, fun t ht => (hall t ht).resolve_right (by simp), .inl ⟨fun t ht => ?_, (Mods.refl No w).drew, fun _ => undef, fun _ => 0, fun _ => 0, ⟨fun i R hi hR hp => ?_, fun i j hi _ _ hR _ hp => ?_⟩, rfl⟩⟩
      · cases hl : listed.getD t false with
        | false => rfl
        | true => exact absurd (hTa t (hin t hl)).1 (by omega)
      · rw [(hTa i (hin i hp)).2] at hR; cases hR
      · rw [(hTa i (hin i hp)).2] at hR; cases hR
    | cons t r ih =>
      intro fuel listed hsub hs hin hcl htk hc hall
      simp only [takeB, Bool.and_eq_true] at htk
      obtain ⟨⟨hr, hf⟩, hrest⟩ := htk
      have hr' : t ∈ Region.ready .any l.toArray listed := by simpa using hr
      obtain ⟨htn, htq⟩ := hTa t (hsub t (List.mem_cons_self ..))
      obtain ⟨hun, o, ho, _⟩ := mem_ready.1 hr'
      have ho' : l[t]? = some o := by rw [← hget]; exact ho
      have htl : t < listed.size := by rw [hs]; exact (Array.getElem?_eq_some_iff.1 ho).1
      obtain ⟨f', rfl⟩ : ∃ f', fuel = f' + 1 := by
        have hv : listed[t] = false := by simpa [Array.getD, htl] using hun
        have := List.count_pos_iff.2 (show false ∈ listed.toList by rw [← hv]; exact Array.mem_toList_iff.2 (Array.getElem_mem htl))
        exact ⟨fuel - 1, by omega⟩
      have hpl : plainOp o.op = true := by
        have h1 := List.all_eq_true.1 hTn t (hsub t (List.mem_cons_self ..))
        rw [Bool.and_eq_true] at h1
        have h2 := h1.2
        rw [ho'] at h2
        simp only [Bool.and_eq_true] at h2
        exact h2.2
      have hyi : YieldsIn P l.toArray (inExt w) o (vs (0 + t)) (fr vs (fun j => decide (j < 0 + t) && (nw j).isNone) (l.take n) 0 a) := by
        rcases hy.quiet t o (by rw [htake t htn]; exact ho') (by rw [Nat.zero_add]; exact htq) with h1 | h1
        · exact h1.2
        · rw [hpl] at h1
          cases h1.1
      simp only [Nat.zero_add] at hyi
      have hyi' := YieldsIn.agree (fun cs b => G.sel t o cs b ho') (hagree listed (fun _ => undef) t o hcl hr' htn ho') hyi
      have hyf : YieldsIf P l.toArray S o (vs t) (F (fun _ => undef) (fun j => listed.getD j false)) := hY t (hsub t (List.mem_cons_self ..)) o _ _ ho' hpl hyi'
      refine wpAnyH_take ho (by
        have := hB
        simp only [goodT, Bool.and_eq_true] at this
        exact this.1.1) hf hr (fun c a w => hQ _ _ c a w) hyf (hSM _ ((Mods.refl No w).drew)) ?_
      have hb : (fun j => (listed.setIfInBounds t true).getD j false) = fun j => decide (j = t) || listed.getD j false := funext fun j => getD_true_iff htl
      have he : (F (fun _ => undef) (fun j => listed.getD j false)).put o.dst (vs t) = F (fun _ => undef) (fun j => (listed.setIfInBounds t true).getD j false) := by
        show _ = fr _ (fun j => (listed.setIfInBounds t true).getD j false) (l.take n) 0 a
        rw [hb, hset listed (fun _ => undef) t o hcl hr' htn ho', htq, Option.isSome_none, if_neg (by simp)]
      rw [he]
      refine ih f' _ (fun t' ht' => hsub t' (List.mem_cons_of_mem _ ht')) (by simpa using hs) (fun i hi => ?_) (hcl.set hr') hrest (count_less hs hr' hc) (fun t' ht' => ?_)
      · rw [getD_true_iff htl, Bool.or_eq_true, decide_eq_true_eq] at hi
        rcases hi with hi | hi
        · subst hi; exact hsub i (List.mem_cons_self ..)
        · exact hin i hi
      · rcases hall t' ht' with h1 | h1
        · exact .inl (getD_set_true h1)
        · rcases List.mem_cons.1 h1 with h2 | h2
          · exact .inl (by rw [getD_true_iff htl, h2]; simp)
          · exact .inr h2
  refine wp_region_held (S := S) hm ?_
  have e0 : F (fun _ => undef) (fun j => (Array.replicate l.toArray.size false).getD j false) = a := fr_none _ _ _ 0 a (fun i _ => rep_ff _ _)
  have := takes T l.toArray.size (Array.replicate l.toArray.size false) (fun _ h => h) (by simp) (fun i hi => by rw [rep_ff] at hi; cases hi) (fun i o ho hl => by rw [rep_ff] at hl; cases hl) hB3 (by simp) (fun t ht => .inr ht)
  rw [e0] at this
  exact this

/-- a post that lets no panic by -/
def noPanic (Q : Exit → Act → World → Prop) : Exit → Act → World → Prop := fun e a w => match e with
  | .panic _ => False
  | e => Q e a w
theorem wp_region_taken' {id : Nat} {a : Act} {w : World} {l : List Oper} (n : Nat) (D : List Tmp) (T : List Nat) (hm : P.follows .mixedOrders = true) (hB : goodT .any l n T = true) (hB2 : newB l n D = true)
    (hB3 : (takeB .any l.toArray T (Array.replicate l.toArray.size false) && T.all fun t => decide (t < n) && match l[t]? with | some o => !dstIn o.dst D && plainOp o.op | none => true) = true)
    (h : wpNew P l.toArray w D (fun a' acc => ∀ x : Ext w, finNew (fun a'' => wpKept P l.toArray (Mods No w) (noPanic Q) (l.drop n) a'' x.w) w.heap.size x.w acc [] a') (l.take n) a []) : (Code.region id l.toArray true).wp P Q a w :=
  Code.wp_mono (Q := noPanic Q) (fun e a w h => by cases e <;> first | exact h | exact h.elim) (wp_region_taken (Mods No w) n D T (fun _ h => h)
    (fun t ht o v b ho hp hy => by
      rcases hy with ⟨h1, h2⟩ | h1
      · exact .inl ⟨h1, fun w' hw' => plain_value hp (h2 w' ⟨⟨w', hw'⟩, rfl⟩)⟩
      · exact .inr h1) hm hB hB2 hB3 (fun _ _ _ _ _ h => h.elim) h)

/-- the same, where the taken ones are moves: the tail may do what it likes -/
def isMove (o : Oper) : Bool := match o.op with | .move _ | .assign _ => true | _ => false
theorem wp_region_moves {id : Nat} {a : Act} {w : World} {l : List Oper} (n : Nat) (D : List Tmp) (T : List Nat) (hm : P.follows .mixedOrders = true) (hB : goodT .any l n T = true) (hB2 : newB l n D = true)
    (hB3 : (takeB .any l.toArray T (Array.replicate l.toArray.size false) && T.all fun t => decide (t < n) && match l[t]? with | some o => !dstIn o.dst D && plainOp o.op | none => true) = true)
    (hB4 : (T.all fun t => match l[t]? with | some o => isMove o | none => true) = true)
    (h : wpNew P l.toArray w D (fun a' acc => ∀ x : Ext w, finNew (fun a'' => wpList P l.toArray (noPanic Q) (l.drop n) a'' x.w) w.heap.size x.w acc [] a') (l.take n) a []) : (Code.region id l.toArray true).wp P Q a w := by
  refine Code.wp_mono (Q := noPanic Q) (fun e a w h => by cases e <;> first | exact h | exact h.elim) (wp_region_taken (fun _ => True) n D T (fun _ _ => trivial)
    (fun t ht o v b ho hp hy => ?_) hm hB hB2 hB3 (fun _ _ _ _ _ h => h.elim) ?_)
  · have h4 := List.all_eq_true.1 hB4 t ht
    rw [ho] at h4
    rcases hy with ⟨h1, h2⟩ | h1
    · refine .inl ⟨h1, fun w' _ => ?_⟩
      have h3 := plain_value hp (h2 w ⟨⟨w, Mods.refl _ _⟩, rfl⟩)
      unfold isMove at h4
      unfold execOp at h3 ⊢
      cases hop : o.op <;> simp only [hop, Bool.false_eq_true] at h4 h3 ⊢
      all_goals (simp at h3 ⊢; exact h3)
    · exact .inr h1
  · have e : (fun a' acc => ∀ x : Ext w, finNew (fun a'' => wpList P l.toArray (noPanic Q) (l.drop n) a'' x.w) w.heap.size x.w acc [] a') = (fun a' acc => ∀ x : Ext w, finNew (fun a'' => wpList P l.toArray (noPanic Q) (l.drop n) a'' x.w) w.heap.size x.w acc [] a') := rfl
    refine wpNew_mono (fun a' acc h x => finNew_mono (fun a'' h => wpKept_list _ _ _ h) _ _ _ (h x)) _ _ _ h

def goodN (md : Region.Mode) (l : List Oper) (n : Nat) (D : List Tmp) : Bool := goodB md l n && newB l n D
theorem goodN_spec {l : List Oper} {n : Nat} {D : List Tmp} (h : goodN md l n D = true) : GoodAt md l n ∧ GoodNew l n D := by
  simp only [goodN, Bool.and_eq_true] at h
  exact ⟨goodB_spec h.1, newB_spec h.2⟩
/-- **ONE WALK, IN THE ORDER OF THE TEXT**, with new things. -/
theorem wp_region_new {id : Nat} {a : Act} {w : World} {l : List Oper} (n : Nat) (D : List Tmp) (hm : P.follows .mixedOrders = true) (hB : goodN .any l n D = true)
    (h : wpNew P l.toArray w D (fun a' acc => ∀ x : Ext w, finNew (fun a'' => wpList P l.toArray Q (l.drop n) a'' x.w) w.heap.size x.w acc [] a') (l.take n) a []) : (Code.region id l.toArray true).wp P Q a w := by
  obtain ⟨G, G'⟩ := goodN_spec hB
  obtain ⟨vs, nw, hy, hT⟩ := new_vals (l.take n) 0 a [] h
  refine wp_region_any hm ?_
  have hlen : (l.take n).length = n := List.length_take_of_le G.le
  have hget : ∀ i : Nat, l.toArray[i]? = l[i]? := fun i => by simp
  have htake : ∀ i : Nat, i < n → (l.take n)[i]? = l[i]? := fun i hi => List.getElem?_take_of_lt hi
  -- the slots of new things
  have hDst : ∀ (i : Nat) (o : Oper), i < n → l[i]? = some o → (nw i).isSome = true → ∃ t, o.dst = some t ∧ t ∈ D := fun i o hi ho hs => by
    obtain ⟨R, hR⟩ := Option.isSome_iff_exists.1 hs
    have := (hy.fresh i o R (by rw [htake i hi]; exact ho) (by rw [Nat.zero_add]; exact hR)).2.1
    exact dstIn_iff.1 this
  let F : (Nat → Value) → (Nat → Bool) → Act := fun val p => fr (fun j => if (nw j).isSome then val j else vs j) p (l.take n) 0 a
  let J : Array Bool → Act → World → Prop := fun listed a' w' =>
    Closed .any l.toArray listed ∧
    (((∀ t, n ≤ t → listed.getD t false = false) ∧ Mods No w w' ∧ ∃ (val : Nat → Value) (lo hi : Nat → Nat), Told w n nw (fun i => listed.getD i false) w' val lo hi ∧ a' = F val (fun i => listed.getD i false)) ∨
     ∃ k, n < k ∧ k ≤ l.length ∧ (∀ t, listed.getD t false = decide (t < k)) ∧ wpList P l.toArray Q (l.drop k) a' w')
  have hfin : ∀ (listed : Array Bool) (w' : World) (val : Nat → Value) (lo hi : Nat → Nat), (∀ i, i < n → listed.getD i false = true) → Mods No w w' → Told w n nw (fun i => listed.getD i false) w' val lo hi →
      wpList P l.toArray Q (l.drop n) (F val (fun i => listed.getD i false)) w' := by
    intro listed w' val lo hi hl hM hTold
    have e1 : F val (fun i => listed.getD i false) = F val (fun _ => true) := fr_congr _ _ _ _ _ _ (fun j hj => by rw [hlen] at hj; simpa using hl j hj)
    have hT' : Told w n nw (fun _ => true) w' val lo hi := ⟨fun i R hi hn _ => hTold.rel i R hi hn (hl i hi), fun i j hi hj hne h1 h2 _ _ => hTold.apart i j hi hj hne h1 h2 (hl i hi) (hl j hj)⟩
    rw [e1]
    have e2 := fr_split vs val nw (l.take n) 0 a (fun i j oi oj hi hj h1 h2 t ht htj => by
      rw [Nat.zero_add] at h1 h2
      have hin : i < n := by rw [← hlen]; exact (List.getElem?_eq_some_iff.1 hi).1
      have hjn : j < n := by rw [← hlen]; exact (List.getElem?_eq_some_iff.1 hj).1
      rw [htake i hin] at hi
      rw [htake j hjn] at hj
      obtain ⟨t', ht', htD⟩ := hDst i oi hin hi h1
      rw [ht] at ht'
      cases ht'
      have := G'.one t i j oi oj htD hin hjn hi hj ht htj
      subst this
      cases hnn : nw i <;> simp [hnn] at h1 h2)
    show wpList P l.toArray Q (l.drop n) (fr _ _ (l.take n) 0 a) w'
    rw [e2]
    have hq := hT ⟨w', hM⟩
    rw [List.nil_append] at hq
    exact finNew_told (K := fun a'' => wpList P l.toArray Q (l.drop n) a'' w') hT' (l.take n) 0 [] _ (by rw [hlen]; omega) (fun u hu => by cases hu) hq
  have hnext : ∀ (listed : Array Bool) (k : Nat), listed.size = l.toArray.size → k < l.length → listed.getD k false = false → (∀ j, j < k → listed.getD j false = true) → k ∈ Region.ready .any l.toArray listed := by
    intro listed k hs hk hu hd
    obtain ⟨o, ho⟩ := some_at hk
    rw [mem_ready]
    exact ⟨getD_tf (by rw [hs]; simpa using hk) hu, o, by rw [hget]; exact ho, fun e he hb => hd _ (G.fwd k o ho e he hb)⟩
  refine any_of_inv J ?_ ?_ _ _ _ _ (by simp) (by simp) ⟨fun i o ho hl => ?_, .inl ⟨fun t _ => ?_, (Mods.refl No w).drew, fun _ => undef, fun _ => 0, fun _ => 0, ⟨fun i R _ _ hp => ?_, fun i j _ _ _ _ _ hp => ?_⟩, ?_⟩⟩
  · -- a step
    intro listed a' w' i hs hJ hi
    obtain ⟨hcl, hJ⟩ := hJ
    obtain ⟨hun, o, ho, hall⟩ := mem_ready.1 hi
    have ho' : l[i]? = some o := by rw [← hget]; exact ho
    have hlt : i < l.length := (List.getElem?_eq_some_iff.1 ho').1
    have hil : i < listed.size := by rw [hs]; simpa using hlt
    have hcl' := hcl.set hi
    have hbit : (fun j => (listed.setIfInBounds i true).getD j false) = fun j => decide (j = i) || listed.getD j false := funext fun j => getD_true_iff hil
    rcases hJ with ⟨htail, hM, val, lo, hiv, hTold, rfl⟩ | ⟨k, hnk, hkl, hbits, hw⟩
    · by_cases hin : i < n
      · have hti : (l.take n)[i]? = some o := by rw [htake i hin]; exact ho'
        have htail' : ∀ t, n ≤ t → (listed.setIfInBounds i true).getD t false = false := fun t ht => by
          rw [getD_true_iff hil, htail t ht, Bool.or_false, decide_eq_false_iff_not]; omega
        have agree : ∀ t ∈ o.looksAt l.toArray, (F val (fun j => listed.getD j false)).tmps[t]? = (fr vs (fun j => decide (j < i) && (nw j).isNone) (l.take n) 0 a).tmps[t]? := by
          intro t ht
          have e0 : fr vs (fun j => decide (j < i) && (nw j).isNone) (l.take n) 0 a = fr (fun j => if (nw j).isSome then val j else vs j) (fun j => decide (j < i) && (nw j).isNone) (l.take n) 0 a :=
            fr_of _ _ _ _ _ _ (fun j _ hp => by cases hj : nw j <;> simp [hj] at hp ⊢)
          rw [e0]
          refine fr_agree _ _ _ t _ 0 a a (fun j oj hj hd => ?_) rfl rfl
          simp only [Nat.zero_add]
          have hjn : j < n := by rw [← hlen]; exact (List.getElem?_eq_some_iff.1 hj).1
          have hj' : l[j]? = some oj := by rw [← htake j hjn]; exact hj
          have hjq : nw j = none := by
            cases hq : nw j with
            | none => rfl
            | some R =>
              obtain ⟨t', ht', htD⟩ := hDst j oj hjn hj' (by rw [hq]; rfl)
              rw [hd] at ht'
              cases ht'
              exact absurd ht (G'.looks t i o htD hin ho')
          rw [hjq, Option.isNone_none, Bool.and_true]
          rcases Nat.lt_trichotomy j i with hji | hji | hji
          · have := G.anc i j o oj ho' hj' hji (.inl (by simp only [clash, Bool.or_eq_true]; exact .inl (.inl (dstIn_iff.2 ⟨t, hd, ht⟩))))
            rw [hcl.ready hi this]
            simp [hji]
          · subst hji
            cases ho'.symm.trans hj'
            exact absurd ht (G.own j o t ho' hd)
          · have := G.anc j i oj o hj' ho' hji (.inl (by simp only [clash, Bool.or_eq_true]; exact .inl (.inr (dstIn_iff.2 ⟨t, hd, ht⟩))))
            have hf : listed.getD j false = false := by
              cases hl : listed.getD j false with
              | false => rfl
              | true => have h1 := hcl.anc this hl; rw [getD_ff hun] at h1; cases h1
            rw [hf]
            simp; omega
        have hset : ∀ (val' : Nat → Value), fr (fun j => if (nw j).isSome then val' j else vs j) (fun j => decide (j = i) || listed.getD j false) (l.take n) 0 a = (fr (fun j => if (nw j).isSome then val' j else vs j) (fun j => listed.getD j false) (l.take n) 0 a).put o.dst (if (nw i).isSome then val' i else vs i) :=
          fun val' => fr_set _ _ i o (l.take n) 0 a (Nat.zero_le _) (by simpa using hti) (getD_ff hun) (fun j oj hj hij hp t hdi hdj => by
            simp only [Nat.zero_add] at hij hp
            have hjn : j < n := by rw [← hlen]; exact (List.getElem?_eq_some_iff.1 hj).1
            have hj' : l[j]? = some oj := by rw [← htake j hjn]; exact hj
            have := G.anc j i oj o hj' ho' hij (.inl (by simp only [clash, Bool.or_eq_true]; exact .inr (dstIn_iff.2 ⟨t, hdi, by simp [hdj]⟩)))
            have h1 := hcl.anc this hp
            rw [getD_ff hun] at h1
            cases h1)
        cases hq : nw i with
        | none =>
          have hk := hy.quiet i o hti (by rw [Nat.zero_add]; exact hq)
          simp only [Nat.zero_add] at hk
          refine wpOp_mono (fun a'' w'' ⟨h1, hm⟩ => ?_) (Known.wp ho hM (fun cs b => G.sel i o cs b ho') agree hk)
          subst h1
          refine ⟨hcl', .inl ⟨htail', hM.no hm, val, lo, hiv, ⟨fun q R hqn hqr hp => ?_, fun q r hqn hrn hne h1 h2 hp1 hp2 => ?_⟩, ?_⟩⟩
          · have : q ≠ i := fun e => by rw [e, hq] at hqr; cases hqr
            rw [getD_true_iff hil, show decide (q = i) = false by simp [this], Bool.false_or] at hp
            obtain ⟨h1, h2, h3, h4⟩ := hTold.rel q R hqn hqr hp
            obtain ⟨hst, _⟩ := hy.fresh q _ R (by rw [htake q hqn]; exact (some_at (Nat.lt_of_lt_of_le hqn G.le)).choose_spec) (by rw [Nat.zero_add]; exact hqr)
            exact ⟨hst _ _ _ _ _ hm h1, h2, h3, Nat.le_trans h4 hm.size⟩
          · have n1 : q ≠ i := fun e => by rw [e, hq] at h1; cases h1
            have n2 : r ≠ i := fun e => by rw [e, hq] at h2; cases h2
            rw [getD_true_iff hil, show decide (q = i) = false by simp [n1], Bool.false_or] at hp1
            rw [getD_true_iff hil, show decide (r = i) = false by simp [n2], Bool.false_or] at hp2
            exact hTold.apart q r hqn hrn hne h1 h2 hp1 hp2
          · show _ = fr _ (fun j => (listed.setIfInBounds i true).getD j false) (l.take n) 0 a
            rw [hbit, hset val, hq, Option.isSome_none, if_neg (by simp)]
        | some R =>
          obtain ⟨hRs, hRd, hRw, hRn⟩ := hy.fresh i o R hti (by rw [Nat.zero_add]; exact hq)
          simp only [Nat.zero_add] at hRw hRn
          obtain ⟨ea, ew⟩ := exec_agree (ops := l.toArray) (fun cs b => G.sel i o cs b ho') agree
          unfold wpOp
          simp only [ho]
          rw [if_pos (by rw [ew]; exact hRw)]
          refine .inl (newAt.wp (hRn ⟨w', hM⟩) ea (fun v w'' hm hr => ?_))
          have hsz := hm.size
          refine ⟨hcl', .inl ⟨htail', hM.no hm, fun j => if j = i then v else val j, fun j => if j = i then w'.heap.size else lo j, fun j => if j = i then w''.heap.size else hiv j, ⟨fun q R' hqn hqr hp => ?_, fun q r hqn hrn hne h1 h2 hp1 hp2 => ?_⟩, ?_⟩⟩
          · by_cases e : q = i
            · subst e
              rw [hq] at hqr
              cases hqr
              simp only [if_true]
              exact ⟨hr, hM.size, hsz, Nat.le_refl _⟩
            · simp only [if_neg e]
              rw [getD_true_iff hil, show decide (q = i) = false by simp [e], Bool.false_or] at hp
              obtain ⟨h1, h2, h3, h4⟩ := hTold.rel q R' hqn hqr hp
              obtain ⟨hst, _⟩ := hy.fresh q _ R' (by rw [htake q hqn]; exact (some_at (Nat.lt_of_lt_of_le hqn G.le)).choose_spec) (by rw [Nat.zero_add]; exact hqr)
              exact ⟨hst _ _ _ _ _ hm h1, h2, h3, Nat.le_trans h4 hsz⟩
          · by_cases e1 : q = i
            · by_cases e2 : r = i
              · exact absurd (e1.trans e2.symm) hne
              · rw [getD_true_iff hil, show decide (r = i) = false by simp [e2], Bool.false_or] at hp2
                obtain ⟨R', hR'⟩ := Option.isSome_iff_exists.1 h2
                obtain ⟨_, _, _, h4⟩ := hTold.rel r R' hrn hR' hp2
                simp only [if_pos e1, if_neg e2]
                exact .inr h4
            · by_cases e2 : r = i
              · rw [getD_true_iff hil, show decide (q = i) = false by simp [e1], Bool.false_or] at hp1
                obtain ⟨R', hR'⟩ := Option.isSome_iff_exists.1 h1
                obtain ⟨_, _, _, h4⟩ := hTold.rel q R' hqn hR' hp1
                simp only [if_pos e2, if_neg e1]
                exact .inl h4
              · rw [getD_true_iff hil, show decide (q = i) = false by simp [e1], Bool.false_or] at hp1
                rw [getD_true_iff hil, show decide (r = i) = false by simp [e2], Bool.false_or] at hp2
                simp only [if_neg e1, if_neg e2]
                exact hTold.apart q r hqn hrn hne h1 h2 hp1 hp2
          · show _ = fr _ (fun j => (listed.setIfInBounds i true).getD j false) (l.take n) 0 a
            rw [hbit, hset, hq, Option.isSome_some, if_pos rfl, if_pos rfl]
            have e5 : fr (fun j => if (nw j).isSome then (if j = i then v else val j) else vs j) (fun j => listed.getD j false) (l.take n) 0 a = fr (fun j => if (nw j).isSome then val j else vs j) (fun j => listed.getD j false) (l.take n) 0 a :=
              fr_of _ _ _ _ _ _ (fun j _ hp => by
                have hne : j ≠ i := fun e => by
                  subst e
                  rw [getD_ff hun] at hp
                  cases hp
                simp only [if_neg hne])
            rw [e5]
      · -- the tail begins
        have hdone : ∀ j, j < i → listed.getD j false = true := fun j hj => by
          obtain ⟨oj, hoj⟩ := some_at (Nat.lt_trans hj hlt)
          exact hcl.ready hi (G.anc i j o oj ho' hoj hj (.inr (by omega)))
        have hin' : i = n := by
          rcases Nat.lt_or_ge n i with h1 | h1
          · have h2 := hdone n h1
            rw [htail n (Nat.le_refl _)] at h2
            cases h2
          · omega
        subst hin'
        have hw := hfin listed w' val lo hiv hdone hM hTold
        rw [List.drop_eq_getElem_cons hlt, show l[i] = o from (List.getElem?_eq_some_iff.1 ho').2] at hw
        have hw2 : wpOp P l.toArray Q i (wpList P l.toArray Q (l.drop (i + 1))) (F val (fun j => listed.getD j false)) w' := by unfold wpOp; simp only [ho]; exact hw
        refine wpOp_mono (fun a'' w'' h' => ⟨hcl', .inr ⟨i + 1, by omega, by omega, fun t => ?_, h'⟩⟩) hw2
        rw [getD_true_iff hil]
        rcases Nat.lt_trichotomy t i with h1 | h1 | h1
        · rw [hdone t h1, Bool.or_true, eq_comm, decide_eq_true_eq]; omega
        · subst h1; simp
        · rw [htail t (by omega), Bool.or_false, Bool.eq_iff_iff, decide_eq_true_eq, decide_eq_true_eq]; omega
    · -- further on in the tail
      have hik : k ≤ i := by
        rcases Nat.lt_or_ge i k with h1 | h1
        · have h2 := hbits i
          rw [getD_ff hun] at h2
          simp at h2
          omega
        · exact h1
      have hik' : i = k := by
        rcases Nat.lt_or_ge k i with h1 | h1
        · obtain ⟨ok, hok⟩ := some_at (Nat.lt_trans h1 hlt)
          have h2 := hcl.ready hi (G.anc i k o ok ho' hok h1 (.inr (by omega)))
          rw [hbits k] at h2
          simp at h2
        · omega
      subst hik'
      rw [List.drop_eq_getElem_cons hlt, show l[i] = o from (List.getElem?_eq_some_iff.1 ho').2] at hw
      have hw2 : wpOp P l.toArray Q i (wpList P l.toArray Q (l.drop (i + 1))) a' w' := by unfold wpOp; simp only [ho]; exact hw
      refine wpOp_mono (fun a'' w'' h' => ⟨hcl', .inr ⟨i + 1, by omega, by omega, fun t => ?_, h'⟩⟩) hw2
      rw [getD_true_iff hil, hbits t]
      rw [Bool.eq_iff_iff, Bool.or_eq_true, decide_eq_true_eq, decide_eq_true_eq, decide_eq_true_eq]
      omega
  · -- the end
    intro listed a' w' hs hJ hr
    obtain ⟨hcl, hJ⟩ := hJ
    rcases hJ with ⟨htail, hM, val, lo, hiv, hTold, rfl⟩ | ⟨k, hnk, hkl, hbits, hw⟩
    · have hdone : ∀ i, i < l.length → listed.getD i false = true := by
        intro i
        induction i using Nat.strongRecOn with
        | _ i ih =>
          intro hi
          cases hl : listed.getD i false with
          | true => rfl
          | false =>
            have := hnext listed i hs hi hl (fun j hj => ih j hj (by omega))
            rw [hr] at this
            cases this
      have hnl : n = l.length := by
        rcases Nat.lt_or_ge n l.length with h1 | h1
        · have h2 := hdone n h1
          rw [htail n (Nat.le_refl _)] at h2
          cases h2
        · have := G.le; omega
      have hw := hfin listed w' val lo hiv (fun i hi => hdone i (by omega)) hM hTold
      rw [show l.drop n = [] by rw [hnl]; simp] at hw
      exact hw
    · have hkk : k = l.length := by
        rcases Nat.lt_or_ge k l.length with h1 | h1
        · have := hnext listed k hs h1 (by rw [hbits]; simp) (fun j hj => by rw [hbits]; simp [hj])
          rw [hr] at this
          cases this
        · omega
      rw [show l.drop k = [] by rw [hkk]; simp] at hw
      exact hw
  · rw [rep_ff] at hl; cases hl
  · exact rep_ff _ _
  · rw [rep_ff] at hp; cases hp
  · rw [rep_ff] at hp; cases hp
  · exact (fr_none _ _ _ 0 a (fun i _ => rep_ff _ _)).symm
end

/-- no new thing: a value that is known -/
def New.val (v : Value) : New := fun u _ _ _ => u = v
theorem New.val_stable (v : Value) : (New.val v).Stable := fun _ _ _ _ _ _ h => h
/-- an array in a new block -/
def New.arr (cs : List Value) : New := fun u w lo hi => u = .pointer (some ⟨lo, 0, none⟩) ∧ lo < hi ∧ Arr w lo cs
theorem New.arr_stable (cs : List Value) : (New.arr cs).Stable := fun _ _ _ _ _ hm h => ⟨h.1, h.2.1, h.2.2.mods hm id⟩
theorem newAt_arr {P : Program} {o : Oper} {a : Act} {w : World} (cs : List Value) (T : TypeId) (h : (execOp a.eval o).run P w = .ok (.value (.pointer (some ⟨w.heap.size, 0, none⟩))) (w.alloc (.cells cs.toArray T))) : newAt P o a w (New.arr cs) := by
  unfold newAt
  rw [h]
  exact ⟨(Mods.refl _ _).alloc _, rfl, by simp, Arr.new w cs T⟩
theorem newAt_val {P : Program} {o : Oper} {a : Act} {w : World} {f : FuncId} {args : Array Value} {v : Value} (h : (execOp a.eval o).run P w = .ok (.enter f args) w) (hc : Calls P f args w fun e w' => e = .returned v ∧ Mods No w w') : newAt P o a w (New.val v) := by
  unfold newAt
  rw [h]
  exact hc.mono fun e w' ⟨h1, h2⟩ => ⟨v, h1, h2, rfl⟩
theorem newAt_call {P : Program} {o : Oper} {a : Act} {w : World} {f : FuncId} {args : Array Value} {R : New} (h : (execOp a.eval o).run P w = .ok (.enter f args) w) (hc : Calls P f args w fun e w' => ∃ v, e = .returned v ∧ Mods No w w' ∧ R v w' w.heap.size w'.heap.size) : newAt P o a w R := by
  unfold newAt
  rw [h]
  exact hc
end Go.PF
