/- A rule for a statement whose order is open: operations that leave the world in a class C and yield one value each, then a tail that waits for all of them, may be walked once, in the order of the text. Nothing of the program is named here. -/
import Derived.Test.YtamdanpkkcdhbaaBase
import Derived.BigQuiet
set_option linter.unusedVariables false
set_option linter.unusedSimpArgs false
namespace Go.PF

section
variable {P : Program} {ops : Array Oper} {md : Region.Mode} {C : World → Prop} {Q : Exit → Act → World → Prop}

/-! an invariant over the set of operations that have been carried out -/
theorem any_of_inv (J : Array Bool → Act → World → Prop)
    (hstep : ∀ listed a w i, listed.size = ops.size → J listed a w → i ∈ Region.ready md ops listed → wpOp P ops Q i (J (listed.setIfInBounds i true)) a w)
    (hend : ∀ listed a w, listed.size = ops.size → J listed a w → Region.ready md ops listed = [] → Q .normal a w) :
    ∀ (fuel : Nat) (listed : Array Bool) (a : Act) (w : World), listed.size = ops.size → listed.toList.count false ≤ fuel → J listed a w → wpAny P md ops Q fuel listed a w := by
  intro fuel
  induction fuel with
  | zero =>
    intro listed a w hs hc hJ
    have h0 : Region.ready md ops listed = [] := by
      rw [List.eq_nil_iff_forall_not_mem]
      intro i hi
      obtain ⟨h1, o, ho, _⟩ := mem_ready.1 hi
      have hlt : i < listed.size := by rw [hs]; exact (Array.getElem?_eq_some_iff.1 ho).1
      have hm : false ∈ listed.toList := by
        have : listed[i] = false := by simpa [Array.getD, hlt] using h1
        rw [← this]
        exact Array.mem_toList_iff.2 (Array.getElem_mem hlt)
      have := List.count_pos_iff.2 hm
      omega
    exact ⟨h0, hend _ _ _ hs hJ h0⟩
  | succ fuel ih =>
    intro listed a w hs hc hJ
    refine ⟨fun h0 => hend _ _ _ hs hJ h0, fun i hi => ?_⟩
    refine wpOp_mono (fun a' w' h' => ih _ a' w' (by simpa using hs) ?_ h') (hstep _ _ _ _ hs hJ hi)
    obtain ⟨h1, o, ho, _⟩ := mem_ready.1 hi
    have hlt : i < listed.size := by rw [hs]; exact (Array.getElem?_eq_some_iff.1 ho).1
    have hv : listed[i] = false := by simpa [Array.getD, hlt] using h1
    have hl : i < listed.toList.length := by simpa using hlt
    have hp : 0 < listed.toList.count false := List.count_pos_iff.2 (by rw [← hv]; exact Array.mem_toList_iff.2 (Array.getElem_mem hlt))
    rw [Array.toList_setIfInBounds, List.count_set hl, show listed.toList[i] = false by simpa using hv]
    simp only [beq_self_eq_true, if_true, show ((true == false) = true) = False by simp, if_false]
    omega

/-! who waits for whom -/
inductive Anc (md : Region.Mode) (ops : Array Oper) : Nat → Nat → Prop
  | one {i j o e} : ops[i]? = some o → e ∈ o.after → Region.binds md e = true → e.on = j → Anc md ops i j
  | more {i j o e} : ops[i]? = some o → e ∈ o.after → Region.binds md e = true → Anc md ops e.on j → Anc md ops i j
def Closed (md : Region.Mode) (ops : Array Oper) (listed : Array Bool) : Prop :=
  ∀ i o, ops[i]? = some o → listed.getD i false = true → ∀ e ∈ o.after, Region.binds md e = true → listed.getD e.on false = true
theorem Closed.anc {listed : Array Bool} (hc : Closed md ops listed) {i j : Nat} (h : Anc md ops i j) : listed.getD i false = true → listed.getD j false = true := by
  induction h with
  | one ho he hb hj => intro hi; subst hj; exact hc _ _ ho hi _ he hb
  | more ho he hb _ ih => intro hi; exact ih (hc _ _ ho hi _ he hb)
theorem Closed.ready {listed : Array Bool} (hc : Closed md ops listed) {i j : Nat} (hi : i ∈ Region.ready md ops listed) (h : Anc md ops i j) : listed.getD j false = true := by
  obtain ⟨_, o, ho, hall⟩ := mem_ready.1 hi
  cases h with
  | one ho' he hb hj =>
    cases ho.symm.trans ho'
    subst hj
    exact hall _ he hb
  | more ho' he hb hA =>
    cases ho.symm.trans ho'
    exact hc.anc hA (hall _ he hb)
theorem getD_ff {listed : Array Bool} {i : Nat} (h : listed.getD i true = false) : listed.getD i false = false := by
  rcases Nat.lt_or_ge i listed.size with h' | h'
  · simp [h'] at h ⊢; exact h
  · simp [Array.getElem?_eq_none h'] at h
theorem getD_tf {listed : Array Bool} {i : Nat} (hi : i < listed.size) (h : listed.getD i false = false) : listed.getD i true = false := by
  simp [hi] at h ⊢; exact h
theorem getD_true_iff {listed : Array Bool} {i j : Nat} (hj : i < listed.size) : (listed.setIfInBounds i true).getD j false = (decide (j = i) || listed.getD j false) := by
  by_cases h : j = i
  · subst h; simp [hj]
  · rw [getD_set_ne false (Ne.symm h)]; simp [h]
theorem Closed.set {listed : Array Bool} (hc : Closed md ops listed) {i : Nat} (hi : i ∈ Region.ready md ops listed) : Closed md ops (listed.setIfInBounds i true) := by
  obtain ⟨_, oi, hoi, hall⟩ := mem_ready.1 hi
  intro j oj hj hl e he hb
  by_cases hij : i = j
  · subst hij
    cases hj.symm.trans hoi
    exact getD_set_true (hall e he hb)
  · rw [getD_set_ne false hij] at hl
    exact getD_set_true (hc j oj hj hl e he hb)

/-- the ancestors of each operation, as a mask of bits -/
def ancMask (md : Region.Mode) (o : Oper) (acc : List Nat) : Nat :=
  o.after.toList.foldl (fun m e => if Region.binds md e then m ||| ((1 <<< e.on) ||| acc.getD e.on 0) else m) 0
def ancTab (md : Region.Mode) : List Oper → List Nat → List Nat
  | [], acc => acc
  | o :: l, acc => ancTab md l (acc ++ [ancMask md o acc])

theorem ancMask_spec {o : Oper} {i : Nat} (ho : ops[i]? = some o) {acc : List Nat} (hacc : ∀ k j, (acc.getD k 0).testBit j = true → Anc md ops k j) {j : Nat} (h : (ancMask md o acc).testBit j = true) : Anc md ops i j := by
  unfold ancMask at h
  have gen : ∀ (l : List Edge) (m : Nat), (∀ e ∈ l, e ∈ o.after) → (m.testBit j = true → Anc md ops i j) →
      (l.foldl (fun m e => if Region.binds md e then m ||| ((1 <<< e.on) ||| acc.getD e.on 0) else m) m).testBit j = true → Anc md ops i j := by
    intro l
    induction l with
    | nil => intro m _ hm h; exact hm h
    | cons e l ih =>
      intro m hl hm h
      refine ih _ (fun e' he' => hl e' (List.mem_cons_of_mem _ he')) ?_ h
      dsimp only
      split
      · rename_i hb
        intro hbit
        rw [Nat.testBit_or, Nat.testBit_or, Bool.or_eq_true, Bool.or_eq_true] at hbit
        rcases hbit with h1 | h1 | h1
        · exact hm h1
        · rw [Nat.one_shiftLeft, Nat.testBit_two_pow] at h1
          exact .one ho (hl e (List.mem_cons_self ..)) hb (by simpa using h1)
        · exact .more ho (hl e (List.mem_cons_self ..)) hb (hacc _ _ h1)
      · exact hm
  exact gen _ 0 (fun e he => Array.mem_toList_iff.1 he) (fun h => by simp at h) h
theorem ancTab_spec : ∀ (l : List Oper) (acc : List Nat), (∀ j, l[j]? = ops[acc.length + j]?) → (∀ k j, (acc.getD k 0).testBit j = true → Anc md ops k j) →
    ∀ k j, ((ancTab md l acc).getD k 0).testBit j = true → Anc md ops k j
  | [], acc, _, h => h
  | o :: l, acc, hl, h => by
    refine ancTab_spec l _ (fun j => by have := hl (j + 1); simp only [List.length_append, List.length_cons, List.length_nil]; simpa [Nat.add_assoc, Nat.add_comm 1 j] using this) (fun k j hb => ?_)
    have ho : ops[acc.length]? = some o := by simpa using (hl 0).symm
    by_cases hk : k < acc.length
    · rw [show (acc ++ [ancMask md o acc]).getD k 0 = acc.getD k 0 by simp [List.getD, List.getElem?_append_left hk]] at hb
      exact h k j hb
    · by_cases hk' : k = acc.length
      · subst hk'
        rw [show (acc ++ [ancMask md o acc]).getD acc.length 0 = ancMask md o acc by simp [List.getD]] at hb
        exact ancMask_spec ho h hb
      · rw [show (acc ++ [ancMask md o acc]).getD k 0 = 0 by simp [List.getD, List.getElem?_eq_none (show (acc ++ [ancMask md o acc]).length ≤ k by simp; omega)]] at hb
        simp at hb

/-! frames: the values of those that have been carried out -/
def fr (vs : Nat → Value) (p : Nat → Bool) : List Oper → Nat → Act → Act
  | [], _, a => a
  | o :: l, k, a => fr vs p l (k + 1) (if p k then a.put o.dst (vs k) else a)
theorem put_defers (a : Act) (d : Option Tmp) (v : Value) : (a.put d v).defers = a.defers := by cases d <;> rfl
theorem put_size (a : Act) (d : Option Tmp) (v : Value) : (a.put d v).tmps.size = a.tmps.size := by cases d <;> simp [Act.put]
theorem put_other (a : Act) (d : Option Tmp) (v : Value) (t : Tmp) (h : d ≠ some t) : (a.put d v).tmps[t]? = a.tmps[t]? := by
  cases d with
  | none => rfl
  | some d => exact Array.getElem?_setIfInBounds_ne (fun e => h (by rw [e]))
theorem put_same (a b : Act) (d : Option Tmp) (v : Value) (t : Tmp) (hs : a.tmps.size = b.tmps.size) (h : a.tmps[t]? = b.tmps[t]?) : (a.put d v).tmps[t]? = (b.put d v).tmps[t]? := by
  cases d with
  | none => exact h
  | some d =>
    by_cases e : d = t
    · subst e
      simp [Act.put, Array.getElem?_setIfInBounds, hs]
    · rw [put_other _ _ _ _ (fun q => e (Option.some.inj q)), put_other _ _ _ _ (fun q => e (Option.some.inj q))]; exact h
theorem fr_defers (vs : Nat → Value) (p : Nat → Bool) : ∀ (l : List Oper) (k : Nat) (a : Act), (fr vs p l k a).defers = a.defers
  | [], _, _ => rfl
  | o :: l, k, a => by
    show (fr vs p l (k + 1) _).defers = _
    rw [fr_defers vs p l (k + 1)]
    split
    · exact put_defers ..
    · rfl
theorem fr_agree (vs : Nat → Value) (p q : Nat → Bool) (t : Tmp) : ∀ (l : List Oper) (k : Nat) (a b : Act), (∀ j o, l[j]? = some o → o.dst = some t → p (k + j) = q (k + j)) →
    a.tmps.size = b.tmps.size → a.tmps[t]? = b.tmps[t]? → (fr vs p l k a).tmps[t]? = (fr vs q l k b).tmps[t]?
  | [], _, _, _, _, _, h => h
  | o :: l, k, a, b, hp, hs, h => by
    refine fr_agree vs p q t l (k + 1) _ _ (fun j o' ho' hd => by have := hp (j + 1) o' (by simpa using ho') hd; rwa [show k + 1 + j = k + (j + 1) by omega]) ?_ ?_
    · split <;> split <;> simp [put_size, hs]
    · by_cases hd : o.dst = some t
      · have h0 := hp 0 o rfl hd
        rw [Nat.add_zero] at h0
        rw [h0]
        split
        · exact put_same _ _ _ _ _ hs h
        · exact h
      · split <;> split <;> simp only [put_other _ _ _ _ hd, h]
theorem fr_put (vs : Nat → Value) (p : Nat → Bool) (d : Option Tmp) (v : Value) : ∀ (l : List Oper) (k : Nat) (a : Act), (∀ j o, l[j]? = some o → p (k + j) = true → ∀ t, d = some t → o.dst ≠ some t) →
    fr vs p l k (a.put d v) = (fr vs p l k a).put d v
  | [], _, _, _ => rfl
  | o :: l, k, a, h => by
    have hr := fun a' => fr_put vs p d v l (k + 1) a' (fun j o' ho' hp => h (j + 1) o' (by simpa using ho') (by rwa [show k + (j + 1) = k + 1 + j by omega]))
    show fr vs p l (k + 1) _ = Act.put (fr vs p l (k + 1) _) d v
    rw [← hr]
    split
    · rename_i hk
      rw [Act.put_comm a v (vs k) (h 0 o rfl hk)]
    · rfl
theorem fr_congr (vs : Nat → Value) (p q : Nat → Bool) : ∀ (l : List Oper) (k : Nat) (a : Act), (∀ j, j < l.length → p (k + j) = q (k + j)) → fr vs p l k a = fr vs q l k a
  | [], _, _, _ => rfl
  | o :: l, k, a, h => by
    show fr vs p l (k + 1) _ = fr vs q l (k + 1) _
    have h0 := h 0 (by simp)
    rw [Nat.add_zero] at h0
    rw [h0]
    exact fr_congr vs p q l (k + 1) _ (fun j hj => by have := h (j + 1) (by simpa using hj); rwa [show k + 1 + j = k + (j + 1) by omega])
/-- one more has been carried out -/
theorem fr_set (vs : Nat → Value) (p : Nat → Bool) (i : Nat) (oi : Oper) : ∀ (l : List Oper) (k : Nat) (a : Act), k ≤ i → l[i - k]? = some oi → p i = false →
    (∀ j o, l[j]? = some o → i < k + j → p (k + j) = true → ∀ t, oi.dst = some t → o.dst ≠ some t) →
    fr vs (fun j => decide (j = i) || p j) l k a = (fr vs p l k a).put oi.dst (vs i)
  | [], k, _, _, h, _, _ => by simp at h
  | o :: l, k, a, hk, hi, hp, hd => by
    by_cases e : k = i
    · subst e
      have : o = oi := by simpa using hi
      subst this
      show fr vs (fun j => decide (j = k) || p j) l (k + 1) (if (decide (k = k) || p k) then a.put o.dst (vs k) else a) = (fr vs p l (k + 1) (if p k then a.put o.dst (vs k) else a)).put o.dst (vs k)
      rw [hp]
      simp only [decide_true, Bool.or_false, if_true, Bool.false_eq_true, if_false]
      rw [fr_congr vs (fun j => decide (j = k) || p j) p l (k + 1) _ (fun j _ => by simp [show k + 1 + j ≠ k by omega])]
      exact fr_put vs p o.dst (vs k) l (k + 1) a (fun j o' ho' hpj => hd (j + 1) o' (by simpa using ho') (by omega) (by rwa [show k + (j + 1) = k + 1 + j by omega]))
    · show fr vs (fun j => decide (j = i) || p j) l (k + 1) (if (decide (k = i) || p k) then a.put o.dst (vs k) else a) = (fr vs p l (k + 1) (if p k then a.put o.dst (vs k) else a)).put oi.dst (vs i)
      rw [show (decide (k = i) || p k) = p k by simp [e]]
      exact fr_set vs p i oi l (k + 1) _ (by omega) (by rw [show i - k = (i - (k + 1)) + 1 by omega] at hi; simpa using hi) hp
        (fun j o' ho' hlt hpj => hd (j + 1) o' (by simpa using ho') (by omega) (by rwa [show k + (j + 1) = k + 1 + j by omega]))

/-! the lexical walk gives each operation its value -/
theorem quiet_vals {Qh : Act → Prop} : ∀ (l : List Oper) (k : Nat) (a : Act), wpQuiet P ops C Qh l a →
    ∃ vs : Nat → Value, (∀ i o, l[i]? = some o → YieldsIn P ops C o (vs (k + i)) (fr vs (fun j => decide (j < k + i)) l k a)) ∧ Qh (fr vs (fun _ => true) l k a)
  | [], k, a, h => ⟨fun _ => undef, fun i o hi => by simp at hi, h⟩
  | o :: l, k, a, h => by
    obtain ⟨v, hv, hr⟩ : ∃ v, YieldsIn P ops C o v a ∧ wpQuiet P ops C Qh l (a.put o.dst v) := by
      by_cases hw : Region.wanted o (yielded ops a.tmps) = true
      · simp only [wpQuiet, hw, if_true] at h
        obtain ⟨v, h1, h2⟩ := h
        exact ⟨v, .inl ⟨hw, h1⟩, h2⟩
      · simp only [wpQuiet, hw] at h
        exact ⟨undef, .inr ⟨by simpa using hw, rfl⟩, h⟩
    obtain ⟨vs, h1, h2⟩ := quiet_vals l (k + 1) _ hr
    have key : ∀ (p : Nat → Bool) (l' : List Oper) (a' : Act), fr (fun j => if j = k then v else vs j) p l' (k + 1) a' = fr vs p l' (k + 1) a' := by
      intro p l'
      have gen : ∀ (l' : List Oper) (m : Nat) (a' : Act), k < m → fr (fun j => if j = k then v else vs j) p l' m a' = fr vs p l' m a' := by
        intro l'
        induction l' with
        | nil => intro m a' _; rfl
        | cons o' l' ih =>
          intro m a' hm
          show fr _ p l' (m + 1) _ = fr vs p l' (m + 1) _
          dsimp only
          rw [if_neg (show ¬ m = k by omega)]
          exact ih (m + 1) _ (by omega)
      exact fun a' => gen l' (k + 1) a' (by omega)
    refine ⟨fun j => if j = k then v else vs j, fun i o' hi => ?_, ?_⟩
    · cases i with
      | zero =>
        have : o = o' := by simpa using hi
        subst this
        simp only [Nat.add_zero, if_true]
        have : fr (fun j => if j = k then v else vs j) (fun j => decide (j < k)) (o :: l) k a = a := by
          show fr _ _ l (k + 1) (if decide (k < k) then _ else a) = a
          rw [key]
          rw [show decide (k < k) = false by simp]
          have gen : ∀ (l' : List Oper) (m : Nat), k ≤ m → fr vs (fun j => decide (j < k)) l' m a = a := by
            intro l'
            induction l' with
            | nil => intro m _; rfl
            | cons o' l' ih =>
              intro m hm
              show fr vs _ l' (m + 1) (if decide (m < k) then _ else a) = a
              rw [show decide (m < k) = false by simp; omega]
              exact ih (m + 1) (by omega)
          exact gen l (k + 1) (by omega)
        rw [this]
        exact hv
      | succ i =>
        have hi' : l[i]? = some o' := by simpa using hi
        have h3 := h1 i o' hi'
        show YieldsIn P ops C o' (if k + (i + 1) = k then v else vs (k + (i + 1))) (fr _ _ l (k + 1) (if decide (k < k + (i + 1)) then a.put o.dst (if k = k then v else vs k) else a))
        rw [key, if_neg (by omega), if_pos rfl, show decide (k < k + (i + 1)) = true by simp, if_pos rfl, show k + (i + 1) = k + 1 + i by omega]
        exact h3
    · show Qh (fr _ _ l (k + 1) (if true = true then a.put o.dst (if k = k then v else vs k) else a))
      rw [key, if_pos rfl, if_pos rfl]
      exact h2

/-! the check -/
def dstIn (d : Option Tmp) (l : List Tmp) : Bool := match d with | some t => l.contains t | none => false
def clash (ops : Array Oper) (x y : Oper) : Bool := dstIn x.dst (y.looksAt ops) || dstIn y.dst (x.looksAt ops) || dstIn x.dst y.dst.toList
def goodB (md : Region.Mode) (l : List Oper) (n : Nat) : Bool :=
  let ops := l.toArray
  let T := ancTab md l []
  Region.noSelect ops && decide (n ≤ l.length) &&
  (List.range l.length).all fun i =>
    match l[i]? with
    | none => true
    | some oi =>
      (oi.after.toList.all fun e => !Region.binds md e || decide (e.on < i)) && !dstIn oi.dst (oi.looksAt ops) &&
      (List.range i).all fun j => match l[j]? with
        | none => true
        | some oj => (!(clash ops oj oi || decide (n ≤ i))) || (T.getD i 0).testBit j

structure GoodAt (md : Region.Mode) (l : List Oper) (n : Nat) : Prop where
  sel : ∀ (j : Nat) (o : Oper) cs b, l[j]? = some o → o.op ≠ .select cs b
  le : n ≤ l.length
  fwd : ∀ (i : Nat) (o : Oper), l[i]? = some o → ∀ e ∈ o.after, Region.binds md e = true → e.on < i
  own : ∀ (i : Nat) (o : Oper) (t : Tmp), l[i]? = some o → o.dst = some t → t ∉ o.looksAt l.toArray
  anc : ∀ (i j : Nat) (oi oj : Oper), l[i]? = some oi → l[j]? = some oj → j < i → (clash l.toArray oj oi = true ∨ n ≤ i) → Anc md l.toArray i j
theorem goodB_spec {l : List Oper} {n : Nat} (h : goodB md l n = true) : GoodAt md l n := by
  simp only [goodB, Bool.and_eq_true, decide_eq_true_eq, List.all_eq_true, List.mem_range] at h
  obtain ⟨⟨h1, h2⟩, h3⟩ := h
  refine ⟨fun j o cs b hj => Region.noSelect_spec h1 j o cs b (by simpa using hj), h2, fun i o hi e he hb => ?_, fun i o t hi hd hm => ?_, fun i j oi oj hi hj hlt hc => ?_⟩
  · have := h3 i (List.getElem?_eq_some_iff.1 hi).1
    rw [hi] at this
    simp only [Bool.and_eq_true, List.all_eq_true] at this
    have := this.1.1 e (Array.mem_toList_iff.2 he)
    simpa [hb] using this
  · have := h3 i (List.getElem?_eq_some_iff.1 hi).1
    rw [hi] at this
    simp only [Bool.and_eq_true, List.all_eq_true] at this
    have := this.1.2
    rw [hd] at this
    simp [dstIn, hm] at this
  · have := h3 i (List.getElem?_eq_some_iff.1 hi).1
    rw [hi] at this
    simp only [Bool.and_eq_true, List.all_eq_true, List.mem_range] at this
    have h4 := this.2 j hlt
    rw [hj] at h4
    have hc' : (clash l.toArray oj oi || decide (n ≤ i)) = true := by simpa using hc
    simp only [hc', Bool.not_true, Bool.false_or] at h4
    exact ancTab_spec l [] (fun j => by simp) (fun k j hb => by simp at hb) i j h4

theorem rep_ff (m j : Nat) : (Array.replicate m false).getD j false = false := by
  rcases Nat.lt_or_ge j m with h | h
  · simp [h]
  · simp [h]
theorem dstIn_iff {d : Option Tmp} {l : List Tmp} : dstIn d l = true ↔ ∃ t, d = some t ∧ t ∈ l := by
  cases d <;> simp [dstIn]

/-- an operand, or a guard, in two frames that agree where it looks -/
theorem exec_agree {o : Oper} (hs : ∀ cs b, o.op ≠ .select cs b) {a b : Act} (h : ∀ t ∈ o.looksAt ops, a.tmps[t]? = b.tmps[t]?) : execOp a.eval o = execOp b.eval o ∧ Region.wanted o (yielded ops a.tmps) = Region.wanted o (yielded ops b.tmps) := by
  refine ⟨execOp_congr o hs fun x hx => ?_, ?_⟩
  · cases x with
    | tmp t =>
      have := h t (List.mem_append_left _ (List.mem_filterMap.2 ⟨.tmp t, by simpa using hx, rfl⟩))
      show a.tmps.getD t undef = b.tmps.getD t undef
      rw [Array.getD_eq_getD_getElem?, Array.getD_eq_getD_getElem?, this]
    | _ => rfl
  · unfold Region.wanted
    cases hg : o.guard with
    | none => rfl
    | some gw =>
      obtain ⟨g, want⟩ := gw
      have hy : yielded ops a.tmps g = yielded ops b.tmps g := by
        unfold yielded
        cases ht : (ops[g]?).bind (·.dst) with
        | none => rfl
        | some t =>
          have := h t (List.mem_append_right _ (by rw [hg]; simp [ht]))
          simp only [Option.bind_some, this]
      simp only [hy]
theorem YieldsIn.agree {o : Oper} (hs : ∀ cs b, o.op ≠ .select cs b) {v : Value} {a b : Act} (h : ∀ t ∈ o.looksAt ops, a.tmps[t]? = b.tmps[t]?) (hy : YieldsIn P ops C o v b) : YieldsIn P ops C o v a := by
  obtain ⟨h1, h2⟩ := exec_agree (ops := ops) hs h
  unfold YieldsIn Oper.quietAt at *
  rw [h1, h2]
  exact hy
theorem YieldsIn.wp {i : Nat} {o : Oper} {v : Value} {a : Act} {w : World} (hi : ops[i]? = some o) (hw : C w) (hy : YieldsIn P ops C o v a) {K : Act → World → Prop} (h : ∀ w', C w' → K (a.put o.dst v) w') : wpOp P ops Q i K a w :=
  wpOp_of_qOp (K := fun a' => a' = a.put o.dst v) hw (fun a' w' hw' e => by subst e; exact h w' hw') (YieldsIn.qOp hi hy rfl)

/-- **ONE WALK, IN THE ORDER OF THE TEXT**: the first n operations each yield one value in every world of C and stay in C; the rest wait for all of them and for one another. -/
theorem wp_region_class {id : Nat} {a : Act} {w : World} {l : List Oper} (C : World → Prop) (n : Nat) (hm : P.follows .mixedOrders = true) (hB : goodB .any l n = true) (hC : C { w with drawn := w.drawn + 1 })
    (h : wpQuiet P l.toArray C (fun a' => ∀ w', C w' → wpList P l.toArray Q (l.drop n) a' w') (l.take n) a) : (Code.region id l.toArray true).wp P Q a w := by
  have G := goodB_spec hB
  obtain ⟨vs, hy, hT⟩ := quiet_vals (l.take n) 0 a h
  simp only [Nat.zero_add] at hy
  refine wp_region_any hm ?_
  have hlen : (l.take n).length = n := List.length_take_of_le G.le
  have hget : ∀ i : Nat, l.toArray[i]? = l[i]? := fun i => by simp
  have htake : ∀ i : Nat, i < n → (l.take n)[i]? = l[i]? := fun i hi => List.getElem?_take_of_lt hi
  let J : Array Bool → Act → World → Prop := fun listed a' w' =>
    Closed .any l.toArray listed ∧
    (((∀ t, n ≤ t → listed.getD t false = false) ∧ C w' ∧ a' = fr vs (fun i => listed.getD i false) (l.take n) 0 a) ∨
     ∃ k, n < k ∧ k ≤ l.length ∧ (∀ t, listed.getD t false = decide (t < k)) ∧ wpList P l.toArray Q (l.drop k) a' w')
  have hfull : ∀ (listed : Array Bool), (∀ i, i < n → listed.getD i false = true) → fr vs (fun i => listed.getD i false) (l.take n) 0 a = fr vs (fun _ => true) (l.take n) 0 a :=
    fun listed hl => fr_congr _ _ _ _ _ _ (fun j hj => by rw [hlen] at hj; simpa using hl j hj)
  have hnext : ∀ (listed : Array Bool) (k : Nat), listed.size = l.toArray.size → k < l.length → listed.getD k false = false → (∀ j, j < k → listed.getD j false = true) → k ∈ Region.ready .any l.toArray listed := by
    intro listed k hs hk hu hd
    obtain ⟨o, ho⟩ := some_at hk
    rw [mem_ready]
    exact ⟨getD_tf (by rw [hs]; simpa using hk) hu, o, by rw [hget]; exact ho, fun e he hb => hd _ (G.fwd k o ho e he hb)⟩
  refine any_of_inv J ?_ ?_ _ _ _ _ (by simp) (by simp) ⟨fun i o ho hl => ?_, .inl ⟨fun t _ => ?_, hC, ?_⟩⟩
  · -- a step
    intro listed a' w' i hs hJ hi
    obtain ⟨hcl, hJ⟩ := hJ
    obtain ⟨hun, o, ho, hall⟩ := mem_ready.1 hi
    have ho' : l[i]? = some o := by rw [← hget]; exact ho
    have hlt : i < l.length := (List.getElem?_eq_some_iff.1 ho').1
    have hil : i < listed.size := by rw [hs]; simpa using hlt
    have hcl' := hcl.set hi
    have hbit : (fun j => (listed.setIfInBounds i true).getD j false) = fun j => decide (j = i) || listed.getD j false := funext fun j => getD_true_iff hil
    rcases hJ with ⟨htail, hCw, rfl⟩ | ⟨k, hnk, hkl, hbits, hw⟩
    · by_cases hin : i < n
      · have hti : (l.take n)[i]? = some o := by rw [htake i hin]; exact ho'
        have hyi := hy i o hti
        have agree : ∀ t ∈ o.looksAt l.toArray, (fr vs (fun j => listed.getD j false) (l.take n) 0 a).tmps[t]? = (fr vs (fun j => decide (j < i)) (l.take n) 0 a).tmps[t]? := by
          intro t ht
          refine fr_agree vs _ _ t _ 0 a a (fun j oj hj hd => ?_) rfl rfl
          simp only [Nat.zero_add]
          have hjn : j < n := by rw [← hlen]; exact (List.getElem?_eq_some_iff.1 hj).1
          have hj' : l[j]? = some oj := by rw [← htake j hjn]; exact hj
          rcases Nat.lt_trichotomy j i with hji | hji | hji
          · have := G.anc i j o oj ho' hj' hji (.inl (by simp only [clash, Bool.or_eq_true]; exact .inl (.inl (dstIn_iff.2 ⟨t, hd, ht⟩))))
            rw [hcl.ready hi this]
            simp [hji]
          · subst hji
            cases ho'.symm.trans hj'
            exact absurd ht (G.own j o t ho' hd)
          · have := G.anc j i oj o hj' ho' hji (.inl (by simp only [clash, Bool.or_eq_true]; exact .inl (.inr (dstIn_iff.2 ⟨t, hd, ht⟩))))
            have hf : listed.getD j false = false := by
              cases hl : listed.getD j false with
              | false => rfl
              | true => have h1 := hcl.anc this hl; rw [getD_ff hun] at h1; cases h1
            rw [hf]
            simp; omega
        refine YieldsIn.wp ho hCw (YieldsIn.agree (fun cs b => G.sel i o cs b ho') agree hyi) (fun w' hw' => ⟨hcl', .inl ⟨fun t ht => ?_, hw', ?_⟩⟩)
        · rw [getD_true_iff hil, htail t ht, Bool.or_false, decide_eq_false_iff_not]; omega
        · rw [hbit, fr_set vs _ i o (l.take n) 0 a (Nat.zero_le _) (by simpa using hti) (getD_ff hun) (fun j oj hj hij hp t hdi hdj => ?_)]
          simp only [Nat.zero_add] at hij hp
          have hjn : j < n := by rw [← hlen]; exact (List.getElem?_eq_some_iff.1 hj).1
          have hj' : l[j]? = some oj := by rw [← htake j hjn]; exact hj
          have := G.anc j i oj o hj' ho' hij (.inl (by simp only [clash, Bool.or_eq_true]; exact .inr (dstIn_iff.2 ⟨t, hdi, by simp [hdj]⟩)))
          have h1 := hcl.anc this hp
          rw [getD_ff hun] at h1
          cases h1
      · -- the tail begins
        have hdone : ∀ j, j < i → listed.getD j false = true := fun j hj => by
          obtain ⟨oj, hoj⟩ := some_at (Nat.lt_trans hj hlt)
          exact hcl.ready hi (G.anc i j o oj ho' hoj hj (.inr (by omega)))
        have hin' : i = n := by
          rcases Nat.lt_or_ge n i with h1 | h1
          · have h2 := hdone n h1
            rw [htail n (Nat.le_refl _)] at h2
            cases h2
          · omega
        subst hin'
        rw [hfull listed hdone]
        have hw := hT w' hCw
        rw [List.drop_eq_getElem_cons hlt, show l[i] = o from (List.getElem?_eq_some_iff.1 ho').2] at hw
        have hw2 : wpOp P l.toArray Q i (wpList P l.toArray Q (l.drop (i + 1))) (fr vs (fun _ => true) (l.take i) 0 a) w' := by unfold wpOp; simp only [ho]; exact hw
        refine wpOp_mono (fun a'' w'' h' => ⟨hcl', .inr ⟨i + 1, by omega, by omega, fun t => ?_, h'⟩⟩) hw2
        rw [getD_true_iff hil]
        rcases Nat.lt_trichotomy t i with h1 | h1 | h1
        · rw [hdone t h1, Bool.or_true, eq_comm, decide_eq_true_eq]; omega
        · subst h1; simp
        · rw [htail t (by omega), Bool.or_false, Bool.eq_iff_iff, decide_eq_true_eq, decide_eq_true_eq]; omega
    · -- further on in the tail
      have hik : k ≤ i := by
        rcases Nat.lt_or_ge i k with h1 | h1
        · have h2 := hbits i
          rw [getD_ff hun] at h2
          simp at h2
          omega
        · exact h1
      have hik' : i = k := by
        rcases Nat.lt_or_ge k i with h1 | h1
        · obtain ⟨ok, hok⟩ := some_at (Nat.lt_trans h1 hlt)
          have h2 := hcl.ready hi (G.anc i k o ok ho' hok h1 (.inr (by omega)))
          rw [hbits k] at h2
          simp at h2
        · omega
      subst hik'
      rw [List.drop_eq_getElem_cons hlt, show l[i] = o from (List.getElem?_eq_some_iff.1 ho').2] at hw
      have hw2 : wpOp P l.toArray Q i (wpList P l.toArray Q (l.drop (i + 1))) a' w' := by unfold wpOp; simp only [ho]; exact hw
      refine wpOp_mono (fun a'' w'' h' => ⟨hcl', .inr ⟨i + 1, by omega, by omega, fun t => ?_, h'⟩⟩) hw2
      rw [getD_true_iff hil, hbits t]
      rw [Bool.eq_iff_iff, Bool.or_eq_true, decide_eq_true_eq, decide_eq_true_eq, decide_eq_true_eq]
      omega
  · -- the end
    intro listed a' w' hs hJ hr
    obtain ⟨hcl, hJ⟩ := hJ
    rcases hJ with ⟨htail, hCw, rfl⟩ | ⟨k, hnk, hkl, hbits, hw⟩
    · have hdone : ∀ i, i < l.length → listed.getD i false = true := by
        intro i
        induction i using Nat.strongRecOn with
        | _ i ih =>
          intro hi
          cases hl : listed.getD i false with
          | true => rfl
          | false =>
            have := hnext listed i hs hi hl (fun j hj => ih j hj (by omega))
            rw [hr] at this
            cases this
      have hnl : n = l.length := by
        rcases Nat.lt_or_ge n l.length with h1 | h1
        · have h2 := hdone n h1
          rw [htail n (Nat.le_refl _)] at h2
          cases h2
        · have := G.le; omega
      rw [hfull listed (fun i hi => hdone i (by omega))]
      have hw := hT w' hCw
      rw [show l.drop n = [] by rw [hnl]; simp] at hw
      exact hw
    · have hkk : k = l.length := by
        rcases Nat.lt_or_ge k l.length with h1 | h1
        · have := hnext listed k hs h1 (by rw [hbits]; simp) (fun j hj => by rw [hbits]; simp [hj])
          rw [hr] at this
          cases this
        · omega
      rw [show l.drop k = [] by rw [hkk]; simp] at hw
      exact hw
  · rw [rep_ff] at hl; cases hl
  · exact rep_ff _ _
  · have gen : ∀ (l' : List Oper) (k : Nat) (p : Nat → Bool), (∀ i, p i = false) → fr vs p l' k a = a := by
      intro l'
      induction l' with
      | nil => intro k p _; rfl
      | cons o' l' ih =>
        intro k p hp
        show fr vs p l' (k + 1) (if p k then _ else a) = a
        rw [hp k]
        exact ih (k + 1) p hp
    exact (gen _ 0 _ (fun i => rep_ff _ _)).symm
end

/-! the class 'w, but for new blocks' -/
def Ext (w : World) : Type := { w' : World // Mods No w w' }
instance (w : World) : Nonempty (Ext w) := ⟨⟨w, Mods.refl _ _⟩⟩
def Ext.w {w : World} (x : Ext w) : World := x.1
theorem Ext.m {w : World} (x : Ext w) : Mods No w x.w := x.2
theorem Ext.cell {w : World} (x : Ext w) {p : Addr} {v : Value} (h : w.cell? p = some v) : x.w.cell? p = some v := x.m.cell h id
theorem Ext.free {w : World} (x : Ext w) {p : Addr} {v : Value} (h : w.cell? p = some v) (hf : w.frozen? p = false) : x.w.frozen? p = false := x.m.free h hf id
theorem Ext.call {P : Program} {w : World} {f : FuncId} {args : Array Value} {v : Value} (x : Ext w) (h : Calls P f args x.w fun e w' => e = .returned v ∧ Mods No x.w w') :
    Calls P f args x.w fun e w' => e = .returned v ∧ ∃ y : Ext w, w' = y.w :=
  h.mono fun e w' ⟨he, hm⟩ => ⟨he, ⟨w', x.m.no hm⟩, rfl⟩
theorem Ext.call_same {P : Program} {w : World} {f : FuncId} {args : Array Value} {v : Value} (x : Ext w) (h : Calls P f args x.w fun e w' => e = .returned v ∧ w' = x.w) :
    Calls P f args x.w fun e w' => e = .returned v ∧ ∃ y : Ext w, w' = y.w :=
  h.mono fun e w' ⟨he, hm⟩ => ⟨he, x, hm⟩

theorem wp_region_ext {P : Program} {Q : Exit → Act → World → Prop} {id : Nat} {a : Act} {w : World} {l : List Oper} (n : Nat) (hm : P.follows .mixedOrders = true) (hB : goodB .any l n = true)
    (h : wpQuiet P l.toArray (fun w' => ∃ x : Ext w, w' = x.w) (fun a' => ∀ x : Ext w, wpList P l.toArray Q (l.drop n) a' x.w) (l.take n) a) : (Code.region id l.toArray true).wp P Q a w :=
  wp_region_class (fun w' => ∃ x : Ext w, w' = x.w) n hm hB ⟨⟨_, (Mods.refl No w).drew⟩, rfl⟩ (by
    have e : (fun a' => ∀ w', (∃ x : Ext w, w' = x.w) → wpList P l.toArray Q (l.drop n) a' w') = fun a' => ∀ x : Ext w, wpList P l.toArray Q (l.drop n) a' x.w :=
      funext fun a' => propext ⟨fun h x => h _ ⟨x, rfl⟩, fun h w' ⟨x, e⟩ => by subst e; exact h x⟩
    rw [e]
    exact h)
end Go.PF
