/- The rule of Rf for a statement whose order is open, with one kind of operation more: a plain one that LOOKS AT something new (one such thing) and yields a known value, whatever the new thing is. Nothing of the program is named here. -/
import Derived.Test.YtamdanpkkcdhbaaRf
set_option linter.unusedVariables false
set_option linter.unusedSimpArgs false
namespace Go.PF
section
variable {P : Program} {ops : Array Oper} {md : Region.Mode} {W : World} {D : List Tmp} {Q : Exit → Act → World → Prop}

/-- o looks at no slot of D, but perhaps at d -/
def freeOf (ops : Array Oper) (D : List Tmp) (o : Oper) (d : Option Tmp) : Bool := D.all fun t => !(o.looksAt ops).contains t || some t == d
/-- o looks at slot d, and at no other slot of D -/
def seesOf (ops : Array Oper) (D : List Tmp) (o : Oper) (d : Tmp) : Bool := (o.looksAt ops).contains d && freeOf ops D o (some d)
theorem freeOf_none {ops : Array Oper} {D : List Tmp} {o : Oper} (h : freeOf ops D o none = true) {t : Tmp} (ht : t ∈ D) : t ∉ o.looksAt ops := by
  have := List.all_eq_true.1 h t ht
  simpa using this
theorem freeOf_some {ops : Array Oper} {D : List Tmp} {o : Oper} {d : Tmp} (h : freeOf ops D o (some d) = true) {t : Tmp} (ht : t ∈ D) (hl : t ∈ o.looksAt ops) : t = d := by
  have := List.all_eq_true.1 h t ht
  simpa [hl] using this
/-- o looks at the new thing in slot d, and yields v -/
def Seen (P : Program) (ops : Array Oper) (W : World) (D : List Tmp) (o : Oper) (v : Value) (acc : List (Option Tmp × New)) (a : Act) : Prop :=
  plainOp o.op = true ∧ ∃ (d : Tmp) (R : New), (some d, R) ∈ acc ∧ seesOf ops D o d = true ∧
    ∀ (x : Ext W) u lo hi, R u x.w lo hi → W.heap.size ≤ lo → lo ≤ hi → hi ≤ x.w.heap.size → Region.wanted o (yielded ops (a.put (some d) u).tmps) = true ∧ (execOp (a.put (some d) u).eval o).run P x.w = .ok (.value v) x.w
def wpSeen (P : Program) (ops : Array Oper) (W : World) (D : List Tmp) (Qh : Act → List (Option Tmp × New) → Prop) : List Oper → Act → List (Option Tmp × New) → Prop
  | [], a, acc => Qh a acc
  | o :: rest, a, acc =>
    (freeOf ops D o none = true ∧ plainOp o.op = true ∧ if Region.wanted o (yielded ops a.tmps) then o.quiet P a (inExt W) (fun a' => wpSeen P ops W D Qh rest a' acc) else wpSeen P ops W D Qh rest (a.put o.dst undef) acc) ∨
    (freeOf ops D o none = true ∧ plainOp o.op = false ∧ Region.wanted o (yielded ops a.tmps) = true ∧ ∃ v : Value, (∀ x : Ext W, newAt P o a x.w (fun u _ _ _ => u = v)) ∧ wpSeen P ops W D Qh rest (a.put o.dst v) acc) ∨
    (freeOf ops D o none = true ∧ Region.wanted o (yielded ops a.tmps) = true ∧ dstIn o.dst D = true ∧ ∃ R : New, R.Stable ∧ (∀ x : Ext W, newAt P o a x.w R) ∧ wpSeen P ops W D Qh rest a (acc ++ [(o.dst, R)])) ∨
    (∃ v : Value, Seen P ops W D o v acc a ∧ wpSeen P ops W D Qh rest (a.put o.dst v) acc)

theorem wpSeen_nil {Qh : Act → List (Option Tmp × New) → Prop} {a : Act} {acc : List (Option Tmp × New)} (h : Qh a acc) : wpSeen P ops W D Qh [] a acc := h
theorem wpSeen_quiet {Qh : Act → List (Option Tmp × New) → Prop} {a : Act} {acc : List (Option Tmp × New)} {o : Oper} {rest : List Oper}
    (hf : freeOf ops D o none = true) (hp : plainOp o.op = true) (h : wpQuiet P ops (inExt W) (fun a' => wpSeen P ops W D Qh rest a' acc) [o] a) : wpSeen P ops W D Qh (o :: rest) a acc := .inl ⟨hf, hp, h⟩
theorem wpSeen_new {Qh : Act → List (Option Tmp × New) → Prop} {a : Act} {acc : List (Option Tmp × New)} {o : Oper} {rest : List Oper} (R : New) (hR : R.Stable) (hf : freeOf ops D o none = true)
    (hd : dstIn o.dst D = true) (hw : Region.wanted o (yielded ops a.tmps) = true) (h : ∀ x : Ext W, newAt P o a x.w R) (hk : wpSeen P ops W D Qh rest a (acc ++ [(o.dst, R)])) : wpSeen P ops W D Qh (o :: rest) a acc := .inr (.inr (.inl ⟨hf, hw, hd, R, hR, h, hk⟩))
theorem wpSeen_known {Qh : Act → List (Option Tmp × New) → Prop} {a : Act} {acc : List (Option Tmp × New)} {o : Oper} {rest : List Oper} (v : Value) (hf : freeOf ops D o none = true) (hp : plainOp o.op = false)
    (hw : Region.wanted o (yielded ops a.tmps) = true) (h : ∀ x : Ext W, newAt P o a x.w (fun u _ _ _ => u = v)) (hk : wpSeen P ops W D Qh rest (a.put o.dst v) acc) : wpSeen P ops W D Qh (o :: rest) a acc := .inr (.inl ⟨hf, hp, hw, v, h, hk⟩)
theorem wpSeen_seen {Qh : Act → List (Option Tmp × New) → Prop} {a : Act} {acc : List (Option Tmp × New)} {o : Oper} {rest : List Oper} (v : Value) (d : Tmp) (R : New) (hp : plainOp o.op = true) (hi : (some d, R) ∈ acc) (hf : seesOf ops D o d = true)
    (h : ∀ (x : Ext W) u lo hi, R u x.w lo hi → W.heap.size ≤ lo → lo ≤ hi → hi ≤ x.w.heap.size → Region.wanted o (yielded ops (a.put (some d) u).tmps) = true ∧ (execOp (a.put (some d) u).eval o).run P x.w = .ok (.value v) x.w)
    (hk : wpSeen P ops W D Qh rest (a.put o.dst v) acc) : wpSeen P ops W D Qh (o :: rest) a acc := .inr (.inr (.inr ⟨v, ⟨hp, d, R, hi, hf, h⟩, hk⟩))

def KnownS (P : Program) (ops : Array Oper) (W : World) (D : List Tmp) (o : Oper) (v : Value) (acc : List (Option Tmp × New)) (a : Act) : Prop :=
  (freeOf ops D o none = true ∧ Known P ops W o v a) ∨ Seen P ops W D o v acc a
structure WalkS (P : Program) (ops : Array Oper) (W : World) (D : List Tmp) (l : List Oper) (k : Nat) (a : Act) (acc : List (Option Tmp × New)) (vs : Nat → Value) (nw : Nat → Option New) : Prop where
  quiet : ∀ i o, l[i]? = some o → nw (k + i) = none → KnownS P ops W D o (vs (k + i)) (acc ++ accOf nw (l.take i) k) (fr vs (fun j => decide (j < k + i) && (nw j).isNone) l k a)
  fresh : ∀ i o R, l[i]? = some o → nw (k + i) = some R → (R.Stable ∧ freeOf ops D o none = true) ∧ dstIn o.dst D = true ∧ Region.wanted o (yielded ops (fr vs (fun j => decide (j < k + i) && (nw j).isNone) l k a).tmps) = true ∧
    ∀ x : Ext W, newAt P o (fr vs (fun j => decide (j < k + i) && (nw j).isNone) l k a) x.w R
theorem accOf_ne (nw nw' : Nat → Option New) : ∀ (l : List Oper) (m : Nat), (∀ j, m ≤ j → nw j = nw' j) → accOf nw l m = accOf nw' l m
  | [], _, _ => rfl
  | o :: l, m, h => by
    show (match nw m with | some R => [(o.dst, R)] | none => []) ++ accOf nw l (m + 1) = (match nw' m with | some R => [(o.dst, R)] | none => []) ++ accOf nw' l (m + 1)
    rw [h m (Nat.le_refl _), accOf_ne nw nw' l (m + 1) (fun j hj => h j (by omega))]
theorem accOf_mem {nw : Nat → Option New} {d : Option Tmp} {R : New} : ∀ (l : List Oper) (m : Nat), (d, R) ∈ accOf nw l m → ∃ j o, l[j]? = some o ∧ o.dst = d ∧ nw (m + j) = some R
  | [], m, h => by cases h
  | o :: l, m, h => by
    simp only [accOf] at h
    rcases List.mem_append.1 h with h | h
    · cases hn : nw m with
      | none => rw [hn] at h; cases h
      | some R' =>
        rw [hn] at h
        have h1 := List.mem_singleton.1 h
        cases h1
        exact ⟨0, o, rfl, rfl, hn⟩
    · obtain ⟨j, o', h1, h2, h3⟩ := accOf_mem l (m + 1) h
      exact ⟨j + 1, o', by simpa using h1, h2, by rw [← h3]; congr 1; omega⟩

theorem seen_vals {Qh : Act → List (Option Tmp × New) → Prop} : ∀ (l : List Oper) (k : Nat) (a : Act) (acc : List (Option Tmp × New)), wpSeen P ops W D Qh l a acc →
    ∃ (vs : Nat → Value) (nw : Nat → Option New), WalkS P ops W D l k a acc vs nw ∧ Qh (fr vs (fun j => (nw j).isNone) l k a) (acc ++ accOf nw l k)
  | [], k, a, acc, h => ⟨fun _ => undef, fun _ => none, ⟨fun i o hi => by simp at hi, fun i o R hi => by simp at hi⟩, by show Qh a (acc ++ []); rw [List.append_nil]; exact h⟩
  | o :: l, k, a, acc, h => by
    have h' : (∃ v, KnownS P ops W D o v acc a ∧ wpSeen P ops W D Qh l (a.put o.dst v) acc) ∨ (freeOf ops D o none = true ∧ Region.wanted o (yielded ops a.tmps) = true ∧ dstIn o.dst D = true ∧ ∃ R : New, R.Stable ∧ (∀ x : Ext W, newAt P o a x.w R) ∧ wpSeen P ops W D Qh l a (acc ++ [(o.dst, R)])) := by
      rcases h with ⟨hf, hpl, h⟩ | ⟨hf, hpf, hw, v, hn, hr⟩ | ⟨hf, h⟩ | ⟨v, hs, hr⟩
      · by_cases hw : Region.wanted o (yielded ops a.tmps) = true
        · simp only [hw, if_true] at h
          obtain ⟨v, h1, h2⟩ := h
          exact .inl ⟨v, .inl ⟨hf, .inl ⟨hpl, .inl ⟨hw, h1⟩⟩⟩, h2⟩
        · simp only [hw] at h
          exact .inl ⟨undef, .inl ⟨hf, .inl ⟨hpl, .inr ⟨by simpa using hw, rfl⟩⟩⟩, h⟩
      · exact .inl ⟨v, .inl ⟨hf, .inr ⟨hpf, hw, hn⟩⟩, hr⟩
      · exact .inr ⟨hf, h⟩
      · exact .inl ⟨v, .inr hs, hr⟩
    rcases h' with ⟨v, hv, hr⟩ | ⟨hfr, hw, hD, R, hR, hn, hr⟩
    · skip
      obtain ⟨vs, nw, hW, hQ⟩ := seen_vals l (k + 1) _ acc hr
      have e1 : ∀ (p : Nat → Bool) (a' : Act), fr (fun j => if j = k then v else vs j) p l (k + 1) a' = fr vs p l (k + 1) a' := fun p a' => fr_of _ _ p l (k + 1) a' (fun j hj _ => if_neg (by omega))
      have e2 : ∀ (q : Nat → Bool) (a' : Act), fr vs (fun j => q j && (if j = k then (none : Option New) else nw j).isNone) l (k + 1) a' = fr vs (fun j => q j && (nw j).isNone) l (k + 1) a' :=
        fun q a' => fr_congr _ _ _ _ _ _ (fun j _ => by simp [show k + 1 + j ≠ k by omega])
      refine ⟨fun j => if j = k then v else vs j, fun j => if j = k then none else nw j, ⟨fun i o' hi hno => ?_, fun i o' R hi hno => ?_⟩, ?_⟩
      · cases i with
        | zero =>
          have : o = o' := by simpa using hi
          subst this
          show KnownS P ops _ D o (if k + 0 = k then v else vs (k + 0)) (acc ++ []) (fr _ _ l (k + 1) (if (decide (k < k + 0) && _) then _ else a))
          rw [List.append_nil, if_pos (Nat.add_zero k), show decide (k < k + 0) = false by simp, Bool.false_and, if_neg (by simp), e1, fr_none vs _ l (k + 1) a (fun j hj => by simp; omega)]
          exact hv
        | succ i =>
          have hi' : l[i]? = some o' := by simpa using hi
          have hne : k + (i + 1) ≠ k := by omega
          have hno' : nw (k + 1 + i) = none := by have h := hno; simp only [if_neg hne] at h; rwa [show k + (i + 1) = k + 1 + i by omega] at h
          have h3 := hW.quiet i o' hi' hno'
          have hacc : acc ++ accOf (fun j => if j = k then none else nw j) ((o :: l).take (i + 1)) k = acc ++ accOf nw (l.take i) (k + 1) := by
            show acc ++ ((match (if k = k then (none : Option New) else nw k) with | some R => [(o.dst, R)] | none => []) ++ accOf _ (l.take i) (k + 1)) = _
            rw [if_pos rfl, accOf_ne _ nw (l.take i) (k + 1) (fun j hj => if_neg (by omega))]
            rfl
          rw [hacc]
          show KnownS P ops _ D o' (if k + (i + 1) = k then v else vs (k + (i + 1))) _ (fr _ _ l (k + 1) (if (decide (k < k + (i + 1)) && (if k = k then (none : Option New) else nw k).isNone) then a.put o.dst (if k = k then v else vs k) else a))
          rw [if_neg hne, show decide (k < k + (i + 1)) = true by simp, if_pos rfl, if_pos rfl, Option.isNone_none, Bool.and_self, if_pos rfl, e1, e2 (fun j => decide (j < k + (i + 1))), show k + (i + 1) = k + 1 + i by omega]
          exact h3
      · cases i with
        | zero => simp at hno
        | succ i =>
          have hi' : l[i]? = some o' := by simpa using hi
          have hne : k + (i + 1) ≠ k := by omega
          have hno' : nw (k + 1 + i) = some R := by have h := hno; simp only [if_neg hne] at h; rwa [show k + (i + 1) = k + 1 + i by omega] at h
          have h3 := hW.fresh i o' R hi' hno'
          have ef : fr (fun j => if j = k then v else vs j) (fun j => decide (j < k + (i + 1)) && (if j = k then (none : Option New) else nw j).isNone) (o :: l) k a = fr vs (fun j => decide (j < k + 1 + i) && (nw j).isNone) l (k + 1) (a.put o.dst v) := by
            show fr _ _ l (k + 1) (if (decide (k < k + (i + 1)) && (if k = k then (none : Option New) else nw k).isNone) then a.put o.dst (if k = k then v else vs k) else a) = _
            rw [show decide (k < k + (i + 1)) = true by simp, if_pos rfl, if_pos rfl, Option.isNone_none, Bool.and_self, if_pos rfl, e1, e2 (fun j => decide (j < k + (i + 1))), show k + (i + 1) = k + 1 + i by omega]
          rw [ef]
          exact h3
      · have ef : fr (fun j => if j = k then v else vs j) (fun j => (if j = k then (none : Option New) else nw j).isNone) (o :: l) k a = fr vs (fun j => (nw j).isNone) l (k + 1) (a.put o.dst v) := by
          show fr _ _ l (k + 1) (if (if k = k then (none : Option New) else nw k).isNone then a.put o.dst (if k = k then v else vs k) else a) = _
          rw [if_pos rfl, if_pos rfl, Option.isNone_none, if_pos rfl, e1]
          exact fr_congr _ _ _ _ _ _ (fun j _ => by simp [show k + 1 + j ≠ k by omega])
        rw [ef]
        have ea : ∀ (l' : List Oper) (m : Nat), k < m → accOf (fun j => if j = k then none else nw j) l' m = accOf nw l' m := by
          intro l'
          induction l' with
          | nil => intro m _; rfl
          | cons o' l' ih =>
            intro m hm
            simp only [accOf]
            rw [if_neg (show ¬ m = k by omega), ih (m + 1) (by omega)]
        show Qh _ (acc ++ ((match (if k = k then (none : Option New) else nw k) with | some R => [(o.dst, R)] | none => []) ++ accOf _ l (k + 1)))
        rw [if_pos rfl, ea l (k + 1) (by omega)]
        exact hQ
    · obtain ⟨vs, nw, hW, hQ⟩ := seen_vals l (k + 1) _ _ hr
      have e2 : ∀ (q : Nat → Bool) (a' : Act), fr vs (fun j => q j && (if j = k then some R else nw j).isNone) l (k + 1) a' = fr vs (fun j => q j && (nw j).isNone) l (k + 1) a' :=
        fun q a' => fr_congr _ _ _ _ _ _ (fun j _ => by simp [show k + 1 + j ≠ k by omega])
      have ef : ∀ (q : Nat → Bool), fr vs (fun j => q j && (if j = k then some R else nw j).isNone) (o :: l) k a = fr vs (fun j => q j && (nw j).isNone) l (k + 1) a := by
        intro q
        show fr _ _ l (k + 1) (if (q k && (if k = k then some R else nw k).isNone) then a.put o.dst (vs k) else a) = _
        rw [if_pos rfl, Option.isNone_some, Bool.and_false, if_neg (by simp), e2]
      refine ⟨vs, fun j => if j = k then some R else nw j, ⟨fun i o' hi hno => ?_, fun i o' R' hi hno => ?_⟩, ?_⟩
      · cases i with
        | zero => simp at hno
        | succ i =>
          have hi' : l[i]? = some o' := by simpa using hi
          have hne : k + (i + 1) ≠ k := by omega
          have hno' : nw (k + 1 + i) = none := by have h := hno; simp only [if_neg hne] at h; rwa [show k + (i + 1) = k + 1 + i by omega] at h
          have h3 := hW.quiet i o' hi' hno'
          have hacc : acc ++ accOf (fun j => if j = k then some R else nw j) ((o :: l).take (i + 1)) k = (acc ++ [(o.dst, R)]) ++ accOf nw (l.take i) (k + 1) := by
            show acc ++ ((match (if k = k then some R else nw k) with | some R => [(o.dst, R)] | none => []) ++ accOf _ (l.take i) (k + 1)) = _
            rw [if_pos rfl, accOf_ne _ nw (l.take i) (k + 1) (fun j hj => if_neg (by omega)), List.append_assoc]
          rw [hacc, ef (fun j => decide (j < k + (i + 1))), show k + (i + 1) = k + 1 + i by omega]
          exact h3
      · cases i with
        | zero =>
          have : o = o' := by simpa using hi
          subst this
          have : R = R' := by simpa using hno
          subst this
          rw [ef (fun j => decide (j < k + 0)), fr_none vs _ l (k + 1) a (fun j hj => by simp; omega)]
          exact ⟨⟨hR, hfr⟩, hD, hw, hn⟩
        | succ i =>
          have hi' : l[i]? = some o' := by simpa using hi
          have hne : k + (i + 1) ≠ k := by omega
          have hno' : nw (k + 1 + i) = some R' := by have h := hno; simp only [if_neg hne] at h; rwa [show k + (i + 1) = k + 1 + i by omega] at h
          have h3 := hW.fresh i o' R' hi' hno'
          rw [ef (fun j => decide (j < k + (i + 1))), show k + (i + 1) = k + 1 + i by omega]
          exact h3
      · have ef' := ef (fun _ => true)
        simp only [Bool.true_and] at ef'
        rw [ef']
        have ea : ∀ (l' : List Oper) (m : Nat), k < m → accOf (fun j => if j = k then some R else nw j) l' m = accOf nw l' m := by
          intro l'
          induction l' with
          | nil => intro m _; rfl
          | cons o' l' ih =>
            intro m hm
            simp only [accOf]
            rw [if_neg (show ¬ m = k by omega), ih (m + 1) (by omega)]
        show Qh _ (acc ++ ((match (if k = k then some R else nw k) with | some R => [(o.dst, R)] | none => []) ++ accOf _ l (k + 1)))
        rw [if_pos rfl, ea l (k + 1) (by omega)]
        simpa [List.append_assoc] using hQ
/-- each slot of D is written once -/
def oneB (l : List Oper) (n : Nat) (D : List Tmp) : Bool :=
  D.all fun t =>
    (List.range n).all fun i => match l[i]? with
      | none => true
      | some oi => (List.range i).all fun j => match l[j]? with
        | none => true
        | some oj => !(oi.dst == some t && oj.dst == some t)
theorem oneB_spec {l : List Oper} {n : Nat} {D : List Tmp} (h2 : oneB l n D = true) : ∀ (t : Tmp) (i j : Nat) (oi oj : Oper), t ∈ D → i < n → j < n → l[i]? = some oi → l[j]? = some oj → oi.dst = some t → oj.dst = some t → i = j := by
  have h3 : ∀ t ∈ D, ∀ i < n, ∀ oi, l[i]? = some oi → ∀ j < i, ∀ oj, l[j]? = some oj → ¬ (oi.dst = some t ∧ oj.dst = some t) := by
    intro t ht i hi oi ho j hj oj hoj
    have h4 := List.all_eq_true.1 h2 t ht
    have h5 := List.all_eq_true.1 h4 i (List.mem_range.2 hi)
    rw [ho] at h5
    have h6 := List.all_eq_true.1 h5 j (List.mem_range.2 hj)
    rw [hoj] at h6
    intro hh
    simp [hh.1, hh.2] at h6
  intro t i j oi oj ht hi hj ho hoj hd hdj
  rcases Nat.lt_trichotomy i j with h | h | h
  · exact absurd ⟨hdj, hd⟩ (h3 t ht j hj oj hoj i h oi ho)
  · exact h
  · exact absurd ⟨hd, hdj⟩ (h3 t ht i hi oi ho j h oj hoj)
/-- **ONE WALK, IN THE ORDER OF THE TEXT**, with new things, some of which are looked at. -/
theorem wp_region_seen {id : Nat} {a : Act} {w : World} {l : List Oper} (n : Nat) (D : List Tmp) (hm : P.follows .mixedOrders = true) (hB : (goodB .any l n && oneB l n D) = true)
    (h : wpSeen P l.toArray w D (fun a' acc => ∀ x : Ext w, finNew (fun a'' => wpList P l.toArray Q (l.drop n) a'' x.w) w.heap.size x.w acc [] a') (l.take n) a []) : (Code.region id l.toArray true).wp P Q a w := by
  rw [Bool.and_eq_true] at hB
  have G := goodB_spec hB.1
  have G' := oneB_spec hB.2
  obtain ⟨vs, nw, hy, hT⟩ := seen_vals (l.take n) 0 a [] h
  refine wp_region_any hm ?_
  have hlen : (l.take n).length = n := List.length_take_of_le G.le
  have hget : ∀ i : Nat, l.toArray[i]? = l[i]? := fun i => by simp
  have htake : ∀ i : Nat, i < n → (l.take n)[i]? = l[i]? := fun i hi => List.getElem?_take_of_lt hi
  -- the slots of new things
  have hDst : ∀ (i : Nat) (o : Oper), i < n → l[i]? = some o → (nw i).isSome = true → ∃ t, o.dst = some t ∧ t ∈ D := fun i o hi ho hs => by
    obtain ⟨R, hR⟩ := Option.isSome_iff_exists.1 hs
    have := (hy.fresh i o R (by rw [htake i hi]; exact ho) (by rw [Nat.zero_add]; exact hR)).2.1
    exact dstIn_iff.1 this
  let F : (Nat → Value) → (Nat → Bool) → Act := fun val p => fr (fun j => if (nw j).isSome then val j else vs j) p (l.take n) 0 a
  let J : Array Bool → Act → World → Prop := fun listed a' w' =>
    Closed .any l.toArray listed ∧
    (((∀ t, n ≤ t → listed.getD t false = false) ∧ Mods No w w' ∧ ∃ (val : Nat → Value) (lo hi : Nat → Nat), Told w n nw (fun i => listed.getD i false) w' val lo hi ∧ a' = F val (fun i => listed.getD i false)) ∨
     ∃ k, n < k ∧ k ≤ l.length ∧ (∀ t, listed.getD t false = decide (t < k)) ∧ wpList P l.toArray Q (l.drop k) a' w')
  have hfin : ∀ (listed : Array Bool) (w' : World) (val : Nat → Value) (lo hi : Nat → Nat), (∀ i, i < n → listed.getD i false = true) → Mods No w w' → Told w n nw (fun i => listed.getD i false) w' val lo hi →
      wpList P l.toArray Q (l.drop n) (F val (fun i => listed.getD i false)) w' := by
    intro listed w' val lo hi hl hM hTold
    have e1 : F val (fun i => listed.getD i false) = F val (fun _ => true) := fr_congr _ _ _ _ _ _ (fun j hj => by rw [hlen] at hj; simpa using hl j hj)
    have hT' : Told w n nw (fun _ => true) w' val lo hi := ⟨fun i R hi hn _ => hTold.rel i R hi hn (hl i hi), fun i j hi hj hne h1 h2 _ _ => hTold.apart i j hi hj hne h1 h2 (hl i hi) (hl j hj)⟩
    rw [e1]
    have e2 := fr_split vs val nw (l.take n) 0 a (fun i j oi oj hi hj h1 h2 t ht htj => by
      rw [Nat.zero_add] at h1 h2
      have hin : i < n := by rw [← hlen]; exact (List.getElem?_eq_some_iff.1 hi).1
      have hjn : j < n := by rw [← hlen]; exact (List.getElem?_eq_some_iff.1 hj).1
      rw [htake i hin] at hi
      rw [htake j hjn] at hj
      obtain ⟨t', ht', htD⟩ := hDst i oi hin hi h1
      rw [ht] at ht'
      cases ht'
      have := G' t i j oi oj htD hin hjn hi hj ht htj
      subst this
      cases hnn : nw i <;> simp [hnn] at h1 h2)
    show wpList P l.toArray Q (l.drop n) (fr _ _ (l.take n) 0 a) w'
    rw [e2]
    have hq := hT ⟨w', hM⟩
    rw [List.nil_append] at hq
    exact finNew_told (K := fun a'' => wpList P l.toArray Q (l.drop n) a'' w') hT' (l.take n) 0 [] _ (by rw [hlen]; omega) (fun u hu => by cases hu) hq
  have hnext : ∀ (listed : Array Bool) (k : Nat), listed.size = l.toArray.size → k < l.length → listed.getD k false = false → (∀ j, j < k → listed.getD j false = true) → k ∈ Region.ready .any l.toArray listed := by
    intro listed k hs hk hu hd
    obtain ⟨o, ho⟩ := some_at hk
    rw [mem_ready]
    exact ⟨getD_tf (by rw [hs]; simpa using hk) hu, o, by rw [hget]; exact ho, fun e he hb => hd _ (G.fwd k o ho e he hb)⟩
  refine any_of_inv J ?_ ?_ _ _ _ _ (by simp) (by simp) ⟨fun i o ho hl => ?_, .inl ⟨fun t _ => ?_, (Mods.refl No w).drew, fun _ => undef, fun _ => 0, fun _ => 0, ⟨fun i R _ _ hp => ?_, fun i j _ _ _ _ _ hp => ?_⟩, ?_⟩⟩
  · -- a step
    intro listed a' w' i hs hJ hi
    obtain ⟨hcl, hJ⟩ := hJ
    obtain ⟨hun, o, ho, hall⟩ := mem_ready.1 hi
    have ho' : l[i]? = some o := by rw [← hget]; exact ho
    have hlt : i < l.length := (List.getElem?_eq_some_iff.1 ho').1
    have hil : i < listed.size := by rw [hs]; simpa using hlt
    have hcl' := hcl.set hi
    have hbit : (fun j => (listed.setIfInBounds i true).getD j false) = fun j => decide (j = i) || listed.getD j false := funext fun j => getD_true_iff hil
    rcases hJ with ⟨htail, hM, val, lo, hiv, hTold, rfl⟩ | ⟨k, hnk, hkl, hbits, hw⟩
    · by_cases hin : i < n
      · have hti : (l.take n)[i]? = some o := by rw [htake i hin]; exact ho'
        have htail' : ∀ t, n ≤ t → (listed.setIfInBounds i true).getD t false = false := fun t ht => by
          rw [getD_true_iff hil, htail t ht, Bool.or_false, decide_eq_false_iff_not]; omega
        have agree : freeOf l.toArray D o none = true → ∀ t ∈ o.looksAt l.toArray, (F val (fun j => listed.getD j false)).tmps[t]? = (fr vs (fun j => decide (j < i) && (nw j).isNone) (l.take n) 0 a).tmps[t]? := by
          intro hfree t ht
          have e0 : fr vs (fun j => decide (j < i) && (nw j).isNone) (l.take n) 0 a = fr (fun j => if (nw j).isSome then val j else vs j) (fun j => decide (j < i) && (nw j).isNone) (l.take n) 0 a :=
            fr_of _ _ _ _ _ _ (fun j _ hp => by cases hj : nw j <;> simp [hj] at hp ⊢)
          rw [e0]
          refine fr_agree _ _ _ t _ 0 a a (fun j oj hj hd => ?_) rfl rfl
          simp only [Nat.zero_add]
          have hjn : j < n := by rw [← hlen]; exact (List.getElem?_eq_some_iff.1 hj).1
          have hj' : l[j]? = some oj := by rw [← htake j hjn]; exact hj
          have hjq : nw j = none := by
            cases hq : nw j with
            | none => rfl
            | some R =>
              obtain ⟨t', ht', htD⟩ := hDst j oj hjn hj' (by rw [hq]; rfl)
              rw [hd] at ht'
              cases ht'
              exact absurd ht (freeOf_none hfree htD)
          rw [hjq, Option.isNone_none, Bool.and_true]
          rcases Nat.lt_trichotomy j i with hji | hji | hji
          · have := G.anc i j o oj ho' hj' hji (.inl (by simp only [clash, Bool.or_eq_true]; exact .inl (.inl (dstIn_iff.2 ⟨t, hd, ht⟩))))
            rw [hcl.ready hi this]
            simp [hji]
          · subst hji
            cases ho'.symm.trans hj'
            exact absurd ht (G.own j o t ho' hd)
          · have := G.anc j i oj o hj' ho' hji (.inl (by simp only [clash, Bool.or_eq_true]; exact .inl (.inr (dstIn_iff.2 ⟨t, hd, ht⟩))))
            have hf : listed.getD j false = false := by
              cases hl : listed.getD j false with
              | false => rfl
              | true => have h1 := hcl.anc this hl; rw [getD_ff hun] at h1; cases h1
            rw [hf]
            simp; omega
        have hset : ∀ (val' : Nat → Value), fr (fun j => if (nw j).isSome then val' j else vs j) (fun j => decide (j = i) || listed.getD j false) (l.take n) 0 a = (fr (fun j => if (nw j).isSome then val' j else vs j) (fun j => listed.getD j false) (l.take n) 0 a).put o.dst (if (nw i).isSome then val' i else vs i) :=
          fun val' => fr_set _ _ i o (l.take n) 0 a (Nat.zero_le _) (by simpa using hti) (getD_ff hun) (fun j oj hj hij hp t hdi hdj => by
            simp only [Nat.zero_add] at hij hp
            have hjn : j < n := by rw [← hlen]; exact (List.getElem?_eq_some_iff.1 hj).1
            have hj' : l[j]? = some oj := by rw [← htake j hjn]; exact hj
            have := G.anc j i oj o hj' ho' hij (.inl (by simp only [clash, Bool.or_eq_true]; exact .inr (dstIn_iff.2 ⟨t, hdi, by simp [hdj]⟩)))
            have h1 := hcl.anc this hp
            rw [getD_ff hun] at h1
            cases h1)
        cases hq : nw i with
        | none =>
          have hk := hy.quiet i o hti (by rw [Nat.zero_add]; exact hq)
          simp only [Nat.zero_add] at hk
          have hstep : wpOp P l.toArray Q i (fun a'' w'' => a'' = (F val (fun j => listed.getD j false)).put o.dst (vs i) ∧ Mods No w' w'') (F val (fun j => listed.getD j false)) w' := by
            rcases hk with ⟨hf, hk⟩ | ⟨hpl, d, R, hmem, hf, hrun⟩
            · exact Known.wp ho hM (fun cs b => G.sel i o cs b ho') (agree hf) hk
            · rw [List.nil_append] at hmem
              obtain ⟨j, oj, hj, hjd, hjn⟩ := accOf_mem _ _ hmem
              rw [Nat.zero_add] at hjn
              simp only [seesOf, Bool.and_eq_true] at hf
              obtain ⟨hlk, hf⟩ := hf
              have hlk' : d ∈ o.looksAt l.toArray := by simpa using hlk
              have hji : j < i := by
                have := (List.getElem?_eq_some_iff.1 hj).1
                rw [List.length_take] at this
                omega
              have hjn' : j < n := by omega
              have hj2 : (l.take n)[j]? = some oj := by rw [← List.getElem?_take_of_lt (l := l.take n) hji]; exact hj
              have hj' : l[j]? = some oj := by rw [← htake j hjn']; exact hj2
              have hdD : d ∈ D := by
                obtain ⟨t', ht', htD⟩ := hDst j oj hjn' hj' (by rw [hjn]; rfl)
                rw [hjd] at ht'
                cases ht'
                exact htD
              have hanc := G.anc i j o oj ho' hj' hji (.inl (by simp only [clash, Bool.or_eq_true]; exact .inl (.inl (dstIn_iff.2 ⟨d, hjd, hlk'⟩))))
              have hlj : listed.getD j false = true := hcl.ready hi hanc
              obtain ⟨r1, r2, r3, r4⟩ := hTold.rel j R hjn' hjn hlj
              obtain ⟨hw1, hw2⟩ := hrun ⟨w', hM⟩ (val j) (lo j) (hiv j) r1 r2 r3 r4
              have e0 : fr vs (fun j => decide (j < i) && (nw j).isNone) (l.take n) 0 a = fr (fun j => if (nw j).isSome then val j else vs j) (fun j => decide (j < i) && (nw j).isNone) (l.take n) 0 a :=
                fr_of _ _ _ _ _ _ (fun j _ hp => by cases hj : nw j <;> simp [hj] at hp ⊢)
              have e1 : (fr vs (fun j => decide (j < i) && (nw j).isNone) (l.take n) 0 a).put (some d) (val j) = fr (fun j => if (nw j).isSome then val j else vs j) (fun q => decide (q = j) || (decide (q < i) && (nw q).isNone)) (l.take n) 0 a := by
                rw [e0, fr_set _ (fun q => decide (q < i) && (nw q).isNone) j oj (l.take n) 0 a (Nat.zero_le _) (by simpa using hj2) (by simp [hjn]) (fun q oq hq hjq hp t hdi hdj => by
                  simp only [Nat.zero_add] at hjq hp
                  rw [hjd] at hdi
                  cases hdi
                  have hqn : q < n := by rw [← hlen]; exact (List.getElem?_eq_some_iff.1 hq).1
                  have := G' _ j q oj oq hdD hjn' hqn hj' (by rw [← htake q hqn]; exact hq) hjd hdj
                  omega)]
                rw [hjd, hjn, Option.isSome_some, if_pos rfl]
              have agree2 : ∀ t ∈ o.looksAt l.toArray, (F val (fun j => listed.getD j false)).tmps[t]? = ((fr vs (fun j => decide (j < i) && (nw j).isNone) (l.take n) 0 a).put (some d) (val j)).tmps[t]? := by
                intro t ht
                rw [e1]
                refine fr_agree _ _ _ t _ 0 a a (fun q oq hq hd => ?_) rfl rfl
                simp only [Nat.zero_add]
                have hqn : q < n := by rw [← hlen]; exact (List.getElem?_eq_some_iff.1 hq).1
                have hq' : l[q]? = some oq := by rw [← htake q hqn]; exact hq
                cases hnq : nw q with
                | some R' =>
                  obtain ⟨t', ht', htD⟩ := hDst q oq hqn hq' (by rw [hnq]; rfl)
                  rw [hd] at ht'
                  cases ht'
                  have htd := freeOf_some hf htD ht
                  subst htd
                  have := G' _ j q oj oq hdD hjn' hqn hj' hq' hjd hd
                  subst this
                  rw [hlj]
                  simp
                | none =>
                  have hqj : q ≠ j := fun e => by rw [e, hjn] at hnq; cases hnq
                  rw [Option.isNone_none, Bool.and_true, show decide (q = j) = false by simp [hqj], Bool.false_or]
                  rcases Nat.lt_trichotomy q i with hqi | hqi | hqi
                  · have := G.anc i q o oq ho' hq' hqi (.inl (by simp only [clash, Bool.or_eq_true]; exact .inl (.inl (dstIn_iff.2 ⟨t, hd, ht⟩))))
                    rw [hcl.ready hi this]
                    simp [hqi]
                  · subst hqi
                    cases ho'.symm.trans hq'
                    exact absurd ht (G.own q o t ho' hd)
                  · have := G.anc q i oq o hq' ho' hqi (.inl (by simp only [clash, Bool.or_eq_true]; exact .inl (.inr (dstIn_iff.2 ⟨t, hd, ht⟩))))
                    have hff : listed.getD q false = false := by
                      cases hl : listed.getD q false with
                      | false => rfl
                      | true => have h1 := hcl.anc this hl; rw [getD_ff hun] at h1; cases h1
                    rw [hff]
                    simp; omega
              obtain ⟨ea, ew⟩ := exec_agree (ops := l.toArray) (fun cs b => G.sel i o cs b ho') agree2
              unfold wpOp
              simp only [ho]
              rw [if_pos (by rw [ew]; exact hw1)]
              refine .inl ?_
              unfold Oper.wp
              have hw3 : (execOp ((fr vs (fun j => decide (j < i) && (nw j).isNone) (l.take n) 0 a).put (some d) (val j)).eval o).run P w' = .ok (.value (vs i)) w' := hw2
              rw [ea, hw3]
              exact ⟨rfl, Mods.refl _ _⟩
          refine wpOp_mono (fun a'' w'' ⟨h1, hm⟩ => ?_) hstep
          subst h1
          refine ⟨hcl', .inl ⟨htail', hM.no hm, val, lo, hiv, ⟨fun q R hqn hqr hp => ?_, fun q r hqn hrn hne h1 h2 hp1 hp2 => ?_⟩, ?_⟩⟩
          · have : q ≠ i := fun e => by rw [e, hq] at hqr; cases hqr
            rw [getD_true_iff hil, show decide (q = i) = false by simp [this], Bool.false_or] at hp
            obtain ⟨h1, h2, h3, h4⟩ := hTold.rel q R hqn hqr hp
            obtain ⟨⟨hst, _⟩, _⟩ := hy.fresh q _ R (by rw [htake q hqn]; exact (some_at (Nat.lt_of_lt_of_le hqn G.le)).choose_spec) (by rw [Nat.zero_add]; exact hqr)
            exact ⟨hst _ _ _ _ _ hm h1, h2, h3, Nat.le_trans h4 hm.size⟩
          · have n1 : q ≠ i := fun e => by rw [e, hq] at h1; cases h1
            have n2 : r ≠ i := fun e => by rw [e, hq] at h2; cases h2
            rw [getD_true_iff hil, show decide (q = i) = false by simp [n1], Bool.false_or] at hp1
            rw [getD_true_iff hil, show decide (r = i) = false by simp [n2], Bool.false_or] at hp2
            exact hTold.apart q r hqn hrn hne h1 h2 hp1 hp2
          · show _ = fr _ (fun j => (listed.setIfInBounds i true).getD j false) (l.take n) 0 a
            rw [hbit, hset val, hq, Option.isSome_none, if_neg (by simp)]
        | some R =>
          obtain ⟨⟨hRs, hRf⟩, hRd, hRw, hRn⟩ := hy.fresh i o R hti (by rw [Nat.zero_add]; exact hq)
          simp only [Nat.zero_add] at hRw hRn
          obtain ⟨ea, ew⟩ := exec_agree (ops := l.toArray) (fun cs b => G.sel i o cs b ho') (agree hRf)
          unfold wpOp
          simp only [ho]
          rw [if_pos (by rw [ew]; exact hRw)]
          refine .inl (newAt.wp (hRn ⟨w', hM⟩) ea (fun v w'' hm hr => ?_))
          have hsz := hm.size
          refine ⟨hcl', .inl ⟨htail', hM.no hm, fun j => if j = i then v else val j, fun j => if j = i then w'.heap.size else lo j, fun j => if j = i then w''.heap.size else hiv j, ⟨fun q R' hqn hqr hp => ?_, fun q r hqn hrn hne h1 h2 hp1 hp2 => ?_⟩, ?_⟩⟩
          · by_cases e : q = i
            · subst e
              rw [hq] at hqr
              cases hqr
              simp only [if_true]
              exact ⟨hr, hM.size, hsz, Nat.le_refl _⟩
            · simp only [if_neg e]
              rw [getD_true_iff hil, show decide (q = i) = false by simp [e], Bool.false_or] at hp
              obtain ⟨h1, h2, h3, h4⟩ := hTold.rel q R' hqn hqr hp
              obtain ⟨⟨hst, _⟩, _⟩ := hy.fresh q _ R' (by rw [htake q hqn]; exact (some_at (Nat.lt_of_lt_of_le hqn G.le)).choose_spec) (by rw [Nat.zero_add]; exact hqr)
              exact ⟨hst _ _ _ _ _ hm h1, h2, h3, Nat.le_trans h4 hsz⟩
          · by_cases e1 : q = i
            · by_cases e2 : r = i
              · exact absurd (e1.trans e2.symm) hne
              · rw [getD_true_iff hil, show decide (r = i) = false by simp [e2], Bool.false_or] at hp2
                obtain ⟨R', hR'⟩ := Option.isSome_iff_exists.1 h2
                obtain ⟨_, _, _, h4⟩ := hTold.rel r R' hrn hR' hp2
                simp only [if_pos e1, if_neg e2]
                exact .inr h4
            · by_cases e2 : r = i
              · rw [getD_true_iff hil, show decide (q = i) = false by simp [e1], Bool.false_or] at hp1
                obtain ⟨R', hR'⟩ := Option.isSome_iff_exists.1 h1
                obtain ⟨_, _, _, h4⟩ := hTold.rel q R' hqn hR' hp1
                simp only [if_pos e2, if_neg e1]
                exact .inl h4
              · rw [getD_true_iff hil, show decide (q = i) = false by simp [e1], Bool.false_or] at hp1
                rw [getD_true_iff hil, show decide (r = i) = false by simp [e2], Bool.false_or] at hp2
                simp only [if_neg e1, if_neg e2]
                exact hTold.apart q r hqn hrn hne h1 h2 hp1 hp2
          · show _ = fr _ (fun j => (listed.setIfInBounds i true).getD j false) (l.take n) 0 a
            rw [hbit, hset, hq, Option.isSome_some, if_pos rfl, if_pos rfl]
            have e5 : fr (fun j => if (nw j).isSome then (if j = i then v else val j) else vs j) (fun j => listed.getD j false) (l.take n) 0 a = fr (fun j => if (nw j).isSome then val j else vs j) (fun j => listed.getD j false) (l.take n) 0 a :=
              fr_of _ _ _ _ _ _ (fun j _ hp => by
                have hne : j ≠ i := fun e => by
                  subst e
                  rw [getD_ff hun] at hp
                  cases hp
                simp only [if_neg hne])
            rw [e5]
      · -- the tail begins
        have hdone : ∀ j, j < i → listed.getD j false = true := fun j hj => by
          obtain ⟨oj, hoj⟩ := some_at (Nat.lt_trans hj hlt)
          exact hcl.ready hi (G.anc i j o oj ho' hoj hj (.inr (by omega)))
        have hin' : i = n := by
          rcases Nat.lt_or_ge n i with h1 | h1
          · have h2 := hdone n h1
            rw [htail n (Nat.le_refl _)] at h2
            cases h2
          · omega
        subst hin'
        have hw := hfin listed w' val lo hiv hdone hM hTold
        rw [List.drop_eq_getElem_cons hlt, show l[i] = o from (List.getElem?_eq_some_iff.1 ho').2] at hw
        have hw2 : wpOp P l.toArray Q i (wpList P l.toArray Q (l.drop (i + 1))) (F val (fun j => listed.getD j false)) w' := by unfold wpOp; simp only [ho]; exact hw
        refine wpOp_mono (fun a'' w'' h' => ⟨hcl', .inr ⟨i + 1, by omega, by omega, fun t => ?_, h'⟩⟩) hw2
        rw [getD_true_iff hil]
        rcases Nat.lt_trichotomy t i with h1 | h1 | h1
        · rw [hdone t h1, Bool.or_true, eq_comm, decide_eq_true_eq]; omega
        · subst h1; simp
        · rw [htail t (by omega), Bool.or_false, Bool.eq_iff_iff, decide_eq_true_eq, decide_eq_true_eq]; omega
    · -- further on in the tail
      have hik : k ≤ i := by
        rcases Nat.lt_or_ge i k with h1 | h1
        · have h2 := hbits i
          rw [getD_ff hun] at h2
          simp at h2
          omega
        · exact h1
      have hik' : i = k := by
        rcases Nat.lt_or_ge k i with h1 | h1
        · obtain ⟨ok, hok⟩ := some_at (Nat.lt_trans h1 hlt)
          have h2 := hcl.ready hi (G.anc i k o ok ho' hok h1 (.inr (by omega)))
          rw [hbits k] at h2
          simp at h2
        · omega
      subst hik'
      rw [List.drop_eq_getElem_cons hlt, show l[i] = o from (List.getElem?_eq_some_iff.1 ho').2] at hw
      have hw2 : wpOp P l.toArray Q i (wpList P l.toArray Q (l.drop (i + 1))) a' w' := by unfold wpOp; simp only [ho]; exact hw
      refine wpOp_mono (fun a'' w'' h' => ⟨hcl', .inr ⟨i + 1, by omega, by omega, fun t => ?_, h'⟩⟩) hw2
      rw [getD_true_iff hil, hbits t]
      rw [Bool.eq_iff_iff, Bool.or_eq_true, decide_eq_true_eq, decide_eq_true_eq, decide_eq_true_eq]
      omega
  · -- the end
    intro listed a' w' hs hJ hr
    obtain ⟨hcl, hJ⟩ := hJ
    rcases hJ with ⟨htail, hM, val, lo, hiv, hTold, rfl⟩ | ⟨k, hnk, hkl, hbits, hw⟩
    · have hdone : ∀ i, i < l.length → listed.getD i false = true := by
        intro i
        induction i using Nat.strongRecOn with
        | _ i ih =>
          intro hi
          cases hl : listed.getD i false with
          | true => rfl
          | false =>
            have := hnext listed i hs hi hl (fun j hj => ih j hj (by omega))
            rw [hr] at this
            cases this
      have hnl : n = l.length := by
        rcases Nat.lt_or_ge n l.length with h1 | h1
        · have h2 := hdone n h1
          rw [htail n (Nat.le_refl _)] at h2
          cases h2
        · have := G.le; omega
      have hw := hfin listed w' val lo hiv (fun i hi => hdone i (by omega)) hM hTold
      rw [show l.drop n = [] by rw [hnl]; simp] at hw
      exact hw
    · have hkk : k = l.length := by
        rcases Nat.lt_or_ge k l.length with h1 | h1
        · have := hnext listed k hs h1 (by rw [hbits]; simp) (fun j hj => by rw [hbits]; simp [hj])
          rw [hr] at this
          cases this
        · omega
      rw [show l.drop k = [] by rw [hkk]; simp] at hw
      exact hw
  · rw [rep_ff] at hl; cases hl
  · exact rep_ff _ _
  · rw [rep_ff] at hp; cases hp
  · rw [rep_ff] at hp; cases hp
  · exact (fr_none _ _ _ 0 a (fun i _ => rep_ff _ _)).symm
end
end Go.PF
