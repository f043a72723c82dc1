/- A rule for a statement whose order is open and whose calls change the world: the operations that change something (calls, ..) wait for one another, and what only reads yields one value in every world of a class C. The walk goes through them in an order pi of one's own choice. Nothing of the program is named here. -/
import Derived.Test.YtamdanpkkcdhbaaRg
set_option linter.unusedVariables false
set_option linter.unusedSimpArgs false
namespace Go.PF
section
variable {P : Program} {ops : Array Oper} {md : Region.Mode} {z : Bool} {C : World → Prop} {Q : Exit → Act → World → Prop}

def nowhere (K : Act → World → Prop) : Exit → Act → World → Prop := fun e a w => match e with
  | .normal => K a w
  | _ => False
theorem nowhere_up {K : Act → World → Prop} {a : Act} {w : World} (h : K a w) : nowhere K .normal a w := h
def dummyOper : Oper := { dst := none, op := .move (.tmp 0), type := 0, pos := "", after := #[], guard := none }
def pickL (l : List Oper) (pi : List (Nat × Bool)) : List (Oper × Bool) := pi.map fun e => ((l[e.1]?).getD dummyOper, e.2)
def wpSt (P : Program) (ops : Array Oper) (z : Bool) (C : World → Prop) (Q : Exit → Act → World → Prop) : List (Oper × Bool) → Act → World → Prop
  | [], a, w => Q .normal a w
  | (o, true) :: r, a, w => wpList P ops (nowhere fun a' w' => a'.defers = a.defers ∧ ((r.isEmpty && z) = true ∨ C w') ∧ wpSt P ops z C Q r a' w') [o] a w
  | (o, false) :: r, a, w => plainOp o.op = true ∧ if Region.wanted o (yielded ops a.tmps) then o.quiet P a C (fun a' => wpSt P ops z C Q r a' w) else wpSt P ops z C Q r (a.put o.dst undef) w
theorem wpSt_nil {a : Act} {w : World} (h : Q .normal a w) : wpSt P ops z C Q [] a w := h
theorem wpSt_quiet {o : Oper} {r : List (Oper × Bool)} {a : Act} {w : World} (hp : plainOp o.op = true) (h : wpQuiet P ops C (fun a' => wpSt P ops z C Q r a' w) [o] a) : wpSt P ops z C Q ((o, false) :: r) a w := ⟨hp, h⟩
theorem wpSt_step {o : Oper} {r : List (Oper × Bool)} {a : Act} {w : World} (h : wpList P ops (nowhere fun a' w' => a'.defers = a.defers ∧ ((r.isEmpty && z) = true ∨ C w') ∧ wpSt P ops z C Q r a' w') [o] a w) : wpSt P ops z C Q ((o, true) :: r) a w := h

theorem state_step {o : Oper} {a b : Act} {w : World} {i : Nat} {K : Act → World → Prop} (ho : ops[i]? = some o) (ea : execOp a.eval o = execOp b.eval o) (ew : Region.wanted o (yielded ops a.tmps) = Region.wanted o (yielded ops b.tmps))
    (h : wpList P ops (nowhere fun b' w' => b'.defers = b.defers ∧ K b' w') [o] b w) : wpOp P ops Q i (fun a' w' => ∃ v, a' = a.put o.dst v ∧ K (b.put o.dst v) w') a w := by
  unfold wpOp
  simp only [ho]
  unfold wpList at h
  rw [ew]
  split
  · rename_i hw
    rw [if_pos hw] at h
    refine .inl ?_
    rcases h with h | ⟨_, a0, w0, h⟩
    · unfold Oper.wp at h ⊢
      rw [ea]
      generalize (execOp b.eval o).run P w = r at h
      cases r with
      | ok n w' =>
        cases n with
        | value v => exact ⟨v, rfl, h.2⟩
        | skip => exact ⟨undef, rfl, h.2⟩
        | defer d =>
          have h1 := h.1
          rw [put_defers] at h1
          exact absurd (congrArg List.length h1) (by simp)
        | enter f args =>
          refine Calls.mono h (fun e w'' h' => ?_)
          cases e with
          | returned v => exact ⟨v, rfl, h'.2⟩
          | panicked c => exact h'.elim
          | outgrown => obtain ⟨_, _, h'⟩ := h'; exact h'.elim
        | row row args => exact Rows.mono h (fun v w'' h' => ⟨v, rfl, h'.2⟩)
        | _ => exact h.elim
      | halt x w' =>
        cases x <;> exact h.elim
    · exact h.elim
  · rename_i hw
    rw [if_neg hw] at h
    exact ⟨undef, rfl, h.2⟩
/-- the walk goes on to the next step that may change the world -/
theorem wpSt_adv {lpf : List (Oper × Bool)} {a : Act} : ∀ (n k : Nat) (vs : Nat → Value) (w : World), k + n = lpf.length → wpSt P ops z C Q (lpf.drop k) (fr vs (fun q => decide (q < k)) (lpf.map Prod.fst) 0 a) w →
    ∃ (k' : Nat) (vs' : Nat → Value), k ≤ k' ∧ k' ≤ lpf.length ∧ (∀ q, q < k → vs' q = vs q) ∧ (∀ s, lpf[k']? = some s → s.2 = true) ∧
      (∀ j o b, k ≤ j → j < k' → lpf[j]? = some (o, b) → b = false ∧ plainOp o.op = true ∧ YieldsIn P ops C o (vs' j) (fr vs' (fun q => decide (q < j)) (lpf.map Prod.fst) 0 a)) ∧
      wpSt P ops z C Q (lpf.drop k') (fr vs' (fun q => decide (q < k')) (lpf.map Prod.fst) 0 a) w := by
  intro n
  induction n with
  | zero =>
    intro k vs w hk h
    exact ⟨k, vs, Nat.le_refl _, by omega, fun _ _ => rfl, (fun s hs => by rw [List.getElem?_eq_none (by omega)] at hs; cases hs), fun j o b h1 h2 => by omega, h⟩
  | succ n ih =>
    intro k vs w hk h
    have hlt : k < lpf.length := by omega
    obtain ⟨o, b, hob⟩ : ∃ o b, lpf[k] = (o, b) := ⟨_, _, rfl⟩
    have hob' : lpf[k]? = some (o, b) := by rw [List.getElem?_eq_getElem hlt, hob]
    cases b with
    | true => exact ⟨k, vs, Nat.le_refl _, by omega, fun _ _ => rfl, (fun s hs => by rw [hob'] at hs; cases hs; rfl), fun j o b h1 h2 => by omega, h⟩
    | false =>
      have h0 := h
      rw [List.drop_eq_getElem_cons hlt, hob] at h0
      obtain ⟨hpl, h1⟩ := h0
      obtain ⟨v, hv, hr⟩ : ∃ v, YieldsIn P ops C o v (fr vs (fun q => decide (q < k)) (lpf.map Prod.fst) 0 a) ∧ wpSt P ops z C Q (lpf.drop (k + 1)) ((fr vs (fun q => decide (q < k)) (lpf.map Prod.fst) 0 a).put o.dst v) w := by
        by_cases hw : Region.wanted o (yielded ops (fr vs (fun q => decide (q < k)) (lpf.map Prod.fst) 0 a).tmps) = true
        · rw [if_pos hw] at h1
          obtain ⟨v, h2, h3⟩ := h1
          exact ⟨v, .inl ⟨hw, h2⟩, h3⟩
        · rw [if_neg hw] at h1
          exact ⟨undef, .inr ⟨by simpa using hw, rfl⟩, h1⟩
      have hlp : (lpf.map Prod.fst)[k]? = some o := by rw [List.getElem?_map, hob']; rfl
      have e1 : ∀ p : Nat → Bool, (∀ q, p q = true → q < k) → fr (fun q => if q = k then v else vs q) p (lpf.map Prod.fst) 0 a = fr vs p (lpf.map Prod.fst) 0 a :=
        fun p hp => fr_of _ _ p _ _ _ (fun q _ hq => if_neg (by have := hp q hq; omega))
      have e2 : fr (fun q => if q = k then v else vs q) (fun q => decide (q < k + 1)) (lpf.map Prod.fst) 0 a = (fr vs (fun q => decide (q < k)) (lpf.map Prod.fst) 0 a).put o.dst v := by
        have e3 : fr (fun q => if q = k then v else vs q) (fun q => decide (q < k + 1)) (lpf.map Prod.fst) 0 a = fr (fun q => if q = k then v else vs q) (fun q => decide (q = k) || decide (q < k)) (lpf.map Prod.fst) 0 a :=
          fr_congr _ _ _ _ _ _ (fun q _ => by rw [Bool.eq_iff_iff, Bool.or_eq_true, decide_eq_true_eq, decide_eq_true_eq, decide_eq_true_eq]; omega)
        rw [e3, fr_set _ (fun q => decide (q < k)) k o _ 0 a (Nat.zero_le _) (by simpa using hlp) (by simp) (fun j o' _ hj hp => by simp at hp; omega), e1 _ (fun q hq => by simpa using hq), if_pos rfl]
      obtain ⟨k', vs', g1, g2, g3, g4, g5, g6⟩ := ih (k + 1) (fun q => if q = k then v else vs q) w (by omega) (by rw [e2]; exact hr)
      have g3' : ∀ q, q < k → vs' q = vs q := fun q hq => by rw [g3 q (by omega), if_neg (by omega)]
      refine ⟨k', vs', by omega, g2, g3', g4, fun j o' b' hj1 hj2 hj3 => ?_, g6⟩
      by_cases e : j = k
      · subst e
        rw [hob'] at hj3
        cases hj3
        refine ⟨rfl, hpl, ?_⟩
        have e4 : fr vs' (fun q => decide (q < j)) (lpf.map Prod.fst) 0 a = fr vs (fun q => decide (q < j)) (lpf.map Prod.fst) 0 a := fr_of _ _ _ _ _ _ (fun q _ hq => g3' q (by simpa using hq))
        rw [e4, g3 j (by omega), if_pos rfl]
        exact hv
      · exact g5 j o' b' (by omega) hj2 hj3

/-! the check -/
def stB (md : Region.Mode) (z : Bool) (l : List Oper) (pi : List (Nat × Bool)) : Bool :=
  let ops := l.toArray
  let A := ancTab md l []
  Region.noSelect ops && decide (pi.length = l.length) && ((List.range l.length).all fun i => (pi.map (·.1)).contains i) &&
  (List.range pi.length).all fun j => match pi[j]? with
    | none => true
    | some e => match l[e.1]? with
      | none => false
      | some oi =>
        (oi.after.toList.all fun ed => !Region.binds md ed || ((pi.take j).map (·.1)).contains ed.on) && !dstIn oi.dst (oi.looksAt ops) &&
        (List.range j).all fun j' => match pi[j']? with
          | none => true
          | some e' => match l[e'.1]? with
            | none => false
            | some oj => e'.1 != e.1 && (!(clash ops oj oi || e'.2 || (z && decide (j + 1 = pi.length))) || (A.getD e.1 0).testBit e'.1)
structure GoodSt (md : Region.Mode) (z : Bool) (l : List Oper) (pi : List (Nat × Bool)) : Prop where
  sel : ∀ (j : Nat) (o : Oper) cs b, l[j]? = some o → o.op ≠ .select cs b
  len : pi.length = l.length
  cover : ∀ i, i < l.length → ∃ (j : Nat) (e : Nat × Bool), pi[j]? = some e ∧ e.1 = i
  at_ : ∀ (j : Nat) (e : Nat × Bool), pi[j]? = some e → ∃ o, l[e.1]? = some o
  inj : ∀ (j j' : Nat) (e e' : Nat × Bool), pi[j]? = some e → pi[j']? = some e' → e.1 = e'.1 → j = j'
  fwd : ∀ (j : Nat) (e : Nat × Bool) (o : Oper), pi[j]? = some e → l[e.1]? = some o → ∀ ed ∈ o.after, Region.binds md ed = true → ∃ (j' : Nat) (e' : Nat × Bool), j' < j ∧ pi[j']? = some e' ∧ e'.1 = ed.on
  own : ∀ (j : Nat) (e : Nat × Bool) (o : Oper) (t : Tmp), pi[j]? = some e → l[e.1]? = some o → o.dst = some t → t ∉ o.looksAt l.toArray
  anc : ∀ (j j' : Nat) (e e' : Nat × Bool) (o o' : Oper), pi[j]? = some e → pi[j']? = some e' → l[e.1]? = some o → l[e'.1]? = some o' → j' < j → (clash l.toArray o' o = true ∨ e'.2 = true ∨ z = true ∧ j + 1 = pi.length) → Anc md l.toArray e.1 e'.1
theorem stB_spec {l : List Oper} {pi : List (Nat × Bool)} (h : stB md z l pi = true) : GoodSt md z l pi := by
  simp only [stB, Bool.and_eq_true, decide_eq_true_eq, List.all_eq_true, List.mem_range] at h
  obtain ⟨⟨⟨h1, h2⟩, h3⟩, h4⟩ := h
  have hat : ∀ (j : Nat) (e : Nat × Bool), pi[j]? = some e → ∃ o, l[e.1]? = some o := fun j e hj => by
    have h5 := h4 j (List.getElem?_eq_some_iff.1 hj).1
    rw [hj] at h5
    cases ho : l[e.1]? with
    | none => simp [ho] at h5
    | some o => exact ⟨o, rfl⟩
  have hin : ∀ (j j' : Nat) (e e' : Nat × Bool) (o o' : Oper), pi[j]? = some e → pi[j']? = some e' → l[e.1]? = some o → l[e'.1]? = some o' → j' < j → (e'.1 != e.1 && (!(clash l.toArray o' o || e'.2 || (z && decide (j + 1 = pi.length))) || ((ancTab md l []).getD e.1 0).testBit e'.1)) = true := by
    intro j j' e e' o o' hj hj' ho ho' hlt
    have h5 := h4 j (List.getElem?_eq_some_iff.1 hj).1
    rw [hj] at h5
    simp only [ho, Bool.and_eq_true, List.all_eq_true, List.mem_range] at h5
    have h6 := h5.2 j' hlt
    rw [hj'] at h6
    simp only [ho', Bool.and_eq_true] at h6
    simp only [Bool.and_eq_true]
    exact h6
  refine ⟨fun j o cs b hj => Region.noSelect_spec h1 j o cs b (by simpa using hj), h2, fun i hi => ?_, hat, fun j j' e e' hj hj' he => ?_, fun j e o hj ho ed hed hb => ?_, fun j e o t hj ho hd hm => ?_, fun j j' e e' o o' hj hj' ho ho' hlt hc => ?_⟩
  · have h5 := h3 i hi
    have h6 : i ∈ pi.map (·.1) := by simpa using h5
    obtain ⟨e, he, rfl⟩ := List.mem_map.1 h6
    obtain ⟨j, hj⟩ := List.mem_iff_getElem?.1 he
    exact ⟨j, e, hj, rfl⟩
  · obtain ⟨o, ho⟩ := hat j e hj
    obtain ⟨o', ho'⟩ := hat j' e' hj'
    rcases Nat.lt_trichotomy j j' with h5 | h5 | h5
    · have := hin j' j e' e o' o hj' hj ho' ho h5
      simp [he] at this
    · exact h5
    · have := hin j j' e e' o o' hj hj' ho ho' h5
      simp [he] at this
  · have h5 := h4 j (List.getElem?_eq_some_iff.1 hj).1
    rw [hj] at h5
    simp only [ho, Bool.and_eq_true, List.all_eq_true] at h5
    have h6 := h5.1.1 ed (Array.mem_toList_iff.2 hed)
    rw [hb] at h6
    have h7 : ed.on ∈ (pi.take j).map (·.1) := by simpa using h6
    obtain ⟨e', he', h8⟩ := List.mem_map.1 h7
    obtain ⟨j', hj'⟩ := List.mem_iff_getElem?.1 he'
    have hlt : j' < j := by
      have := (List.getElem?_eq_some_iff.1 hj').1
      rw [List.length_take] at this
      omega
    rw [List.getElem?_take_of_lt hlt] at hj'
    exact ⟨j', e', hlt, hj', h8⟩
  · have h5 := h4 j (List.getElem?_eq_some_iff.1 hj).1
    rw [hj] at h5
    simp only [ho, Bool.and_eq_true, List.all_eq_true] at h5
    have := h5.1.2
    rw [hd] at this
    simp [dstIn, hm] at this
  · have h5 := hin j j' e e' o o' hj hj' ho ho' hlt
    rw [Bool.and_eq_true] at h5
    have h6 := h5.2
    have hc' : (clash l.toArray o' o || e'.2 || (z && decide (j + 1 = pi.length))) = true := by
      rcases hc with hc | hc | ⟨hc, hc2⟩
      · simp [hc]
      · simp [hc]
      · simp [hc, hc2]
    simp only [hc', Bool.not_true, Bool.false_or] at h6
    exact ancTab_spec l [] (fun j => by simp) (fun k j hb => by simp at hb) e.1 e'.1 h6

/-- which of the positions have been carried out -/
def atPi (pi : List (Nat × Bool)) (listed : Array Bool) (j : Nat) : Bool := match pi[j]? with | some e => listed.getD e.1 false | none => false
theorem atPi_some {pi : List (Nat × Bool)} {listed : Array Bool} {j : Nat} {e : Nat × Bool} (h : pi[j]? = some e) : atPi pi listed j = listed.getD e.1 false := by unfold atPi; rw [h]

/-- **ONE WALK, IN AN ORDER OF ONE'S OWN**, with steps that change the world. -/
theorem wp_region_state {id : Nat} {a : Act} {w : World} {l : List Oper} (z : Bool) (C : World → Prop) (pi : List (Nat × Bool)) (hm : P.follows .mixedOrders = true) (hB : stB .any z l pi = true) (hC : C { w with drawn := w.drawn + 1 })
    (h : wpSt P l.toArray z C Q (pickL l pi) a { w with drawn := w.drawn + 1 }) : (Code.region id l.toArray true).wp P Q a w := by
  have G := stB_spec hB
  refine wp_region_any hm ?_
  have hget : ∀ i : Nat, l.toArray[i]? = l[i]? := fun i => by simp
  have hlenp : (pickL l pi).length = pi.length := List.length_map ..
  have hpk : ∀ (j : Nat) (e : Nat × Bool) (o : Oper), pi[j]? = some e → l[e.1]? = some o → (pickL l pi)[j]? = some (o, e.2) := fun j e o hj ho => by
    unfold pickL
    rw [List.getElem?_map, hj]
    simp [ho]
  obtain ⟨lp, hlp⟩ : ∃ lp, (pickL l pi).map Prod.fst = lp := ⟨_, rfl⟩
  have hlpj : ∀ (j : Nat) (e : Nat × Bool) (o : Oper), pi[j]? = some e → l[e.1]? = some o → lp[j]? = some o := fun j e o hj ho => by
    rw [← hlp, List.getElem?_map, hpk j e o hj ho]
    rfl
  have hlpi : ∀ (j : Nat) (o : Oper), lp[j]? = some o → ∃ e, pi[j]? = some e ∧ l[e.1]? = some o := fun j o hj => by
    have hlt : j < pi.length := by
      have := (List.getElem?_eq_some_iff.1 hj).1
      rw [← hlp, List.length_map, hlenp] at this
      exact this
    obtain ⟨o', ho'⟩ := G.at_ j _ (List.getElem?_eq_getElem hlt)
    have := hlpj j _ o' (List.getElem?_eq_getElem hlt) ho'
    rw [hj] at this
    cases this
    exact ⟨_, List.getElem?_eq_getElem hlt, ho'⟩
  let J : Array Bool → Act → World → Prop := fun listed a' w' =>
    Closed .any l.toArray listed ∧ (C w' ∨ ∀ (j : Nat) (e : Nat × Bool), pi[j]? = some e → listed.getD e.1 false = true) ∧ ∃ (k : Nat) (vs : Nat → Value), k ≤ pi.length ∧ (∀ e, pi[k]? = some e → e.2 = true) ∧
      (∀ j e, pi[j]? = some e → j < k → e.2 = true → listed.getD e.1 false = true) ∧ (∀ j e, pi[j]? = some e → k ≤ j → listed.getD e.1 false = false) ∧
      (∀ j e o, pi[j]? = some e → l[e.1]? = some o → j < k → e.2 = false → plainOp o.op = true ∧ YieldsIn P l.toArray C o (vs j) (fr vs (fun q => decide (q < j)) lp 0 a)) ∧
      wpSt P l.toArray z C Q ((pickL l pi).drop k) (fr vs (fun q => decide (q < k)) lp 0 a) w' ∧ a' = fr vs (atPi pi listed) lp 0 a
  refine any_of_inv J ?_ ?_ _ _ _ _ (by simp) (by simp) ?_
  · -- a step
    intro listed a' w' i hs hJ hi
    obtain ⟨hcl, hCw, k, vs, hk, hadv, hdone, hrest, hquiet, hwp, rfl⟩ := hJ
    obtain ⟨hun, o, ho, hall⟩ := mem_ready.1 hi
    have ho' : l[i]? = some o := by rw [← hget]; exact ho
    have hlt : i < l.length := (List.getElem?_eq_some_iff.1 ho').1
    have hil : i < listed.size := by rw [hs]; simpa using hlt
    have hcl' := hcl.set hi
    obtain ⟨j, e, hj, rfl⟩ := G.cover i hlt
    have hjl := hlpj j e o hj ho'
    have hCw := hCw.resolve_right (fun h => by have := h j e hj; rw [getD_ff hun] at this; cases this)
    have hpj : atPi pi listed j = false := by rw [atPi_some hj]; exact getD_ff hun
    have hbit : ∀ q, atPi pi (listed.setIfInBounds e.1 true) q = (decide (q = j) || atPi pi listed q) := fun q => by
      cases hq : pi[q]? with
      | none =>
        have : q ≠ j := fun h => by rw [h, hj] at hq; cases hq
        unfold atPi
        rw [hq]
        simp [this]
      | some eq =>
        rw [atPi_some hq, atPi_some hq, getD_true_iff hil]
        congr 1
        rw [Bool.eq_iff_iff, decide_eq_true_eq, decide_eq_true_eq]
        exact ⟨fun h => G.inj q j eq e hq hj h, fun h => by subst h; rw [hj] at hq; cases hq; rfl⟩
    have agree : ∀ t ∈ o.looksAt l.toArray, (fr vs (atPi pi listed) lp 0 a).tmps[t]? = (fr vs (fun q => decide (q < j)) lp 0 a).tmps[t]? := by
      intro t ht
      refine fr_agree vs _ _ t _ 0 a a (fun q oq hq hd => ?_) rfl rfl
      simp only [Nat.zero_add]
      obtain ⟨eq, hpq, hoq⟩ := hlpi q oq hq
      rw [atPi_some hpq]
      rcases Nat.lt_trichotomy q j with hqj | hqj | hqj
      · have := G.anc j q e eq o oq hj hpq ho' hoq hqj (.inl (by simp only [clash, Bool.or_eq_true]; exact .inl (.inl (dstIn_iff.2 ⟨t, hd, ht⟩))))
        rw [hcl.ready hi this]
        simp [hqj]
      · subst hqj
        rw [hj] at hpq
        cases hpq
        rw [ho'] at hoq
        cases hoq
        exact absurd ht (G.own q e o t hj ho' hd)
      · have := G.anc q j eq e oq o hpq hj hoq ho' hqj (.inl (by simp only [clash, Bool.or_eq_true]; exact .inl (.inr (dstIn_iff.2 ⟨t, hd, ht⟩))))
        have hf : listed.getD eq.1 false = false := by
          cases hl : listed.getD eq.1 false with
          | false => rfl
          | true => have h1 := hcl.anc this hl; rw [getD_ff hun] at h1; cases h1
        rw [hf]
        simp; omega
    have hset : ∀ vs' : Nat → Value, fr vs' (fun q => decide (q = j) || atPi pi listed q) lp 0 a = (fr vs' (atPi pi listed) lp 0 a).put o.dst (vs' j) := fun vs' =>
      fr_set vs' _ j o lp 0 a (Nat.zero_le _) (by simpa using hjl) hpj (fun q oq hq hlt2 hp t hdi hdj => by
        simp only [Nat.zero_add] at hlt2 hp
        obtain ⟨eq, hpq, hoq⟩ := hlpi q oq hq
        rw [atPi_some hpq] at hp
        have := G.anc q j eq e oq o hpq hj hoq ho' hlt2 (.inl (by simp only [clash, Bool.or_eq_true]; exact .inr (dstIn_iff.2 ⟨t, hdi, by simp [hdj]⟩)))
        have h1 := hcl.anc this hp
        rw [getD_ff hun] at h1
        cases h1)
    by_cases hjk : j < k
    · -- a quiet one
      have he2 : e.2 = false := by
        cases h2 : e.2 with
        | false => rfl
        | true => have := hdone j e hj hjk h2; rw [getD_ff hun] at this; cases this
      obtain ⟨hpl, hyi⟩ := hquiet j e o hj ho' hjk he2
      have hyi' := YieldsIn.agree (fun cs b => G.sel e.1 o cs b ho') agree hyi
      have hstep : wpOp P l.toArray Q e.1 (fun a'' w'' => a'' = (fr vs (atPi pi listed) lp 0 a).put o.dst (vs j) ∧ w'' = w') (fr vs (atPi pi listed) lp 0 a) w' := by
        unfold wpOp
        simp only [ho]
        rcases hyi' with ⟨h1, h2⟩ | ⟨h1, h2⟩
        · rw [if_pos h1]
          refine .inl ?_
          unfold Oper.wp
          rw [plain_value hpl (h2 w' hCw)]
          exact ⟨rfl, rfl⟩
        · rw [if_neg (by rw [h1]; simp)]
          exact ⟨by rw [h2], trivial⟩
      refine wpOp_mono (fun a'' w'' ⟨h1, h2⟩ => ?_) hstep
      subst h1 h2
      refine ⟨hcl', .inl hCw, k, vs, hk, hadv, fun q eq hq hqk h2 => ?_, fun q eq hq hqk => ?_, hquiet, hwp, ?_⟩
      · rw [getD_true_iff hil, hdone q eq hq hqk h2, Bool.or_true]
      · rw [getD_true_iff hil, hrest q eq hq hqk, Bool.or_false, decide_eq_false_iff_not]
        intro h3
        have := G.inj q j eq e hq hj h3
        omega
      · rw [funext hbit, hset vs]
    · -- a step
      have hjk' : j = k := by
        rcases Nat.lt_or_ge k j with h1 | h1
        · have hkl : k < pi.length := Nat.lt_trans h1 (List.getElem?_eq_some_iff.1 hj).1
          have hkk := List.getElem?_eq_getElem hkl
          obtain ⟨ok, hok⟩ := G.at_ k _ hkk
          have := G.anc j k e _ o ok hj hkk ho' hok h1 (.inr (.inl (hadv _ hkk)))
          have h2 := hcl.ready hi this
          rw [hrest k _ hkk (Nat.le_refl _)] at h2
          cases h2
        · omega
      subst hjk'
      have he2 := hadv e hj
      have hjlt : j < (pickL l pi).length := by rw [hlenp]; exact (List.getElem?_eq_some_iff.1 hj).1
      have hpkj := hpk j e o hj ho'
      rw [he2] at hpkj
      have hw := hwp
      rw [List.drop_eq_getElem_cons hjlt, show (pickL l pi)[j] = (o, true) from (List.getElem?_eq_some_iff.1 hpkj).2] at hw
      obtain ⟨ea, ew⟩ := exec_agree (ops := l.toArray) (fun cs b => G.sel e.1 o cs b ho') agree
      refine wpOp_mono (fun a'' w'' ⟨v, h1, hCw', hw'⟩ => ?_) (state_step (Q := Q) ho ea ew hw)
      subst h1
      have e1 : ∀ p : Nat → Bool, (∀ q, p q = true → q < j) → fr (fun q => if q = j then v else vs q) p lp 0 a = fr vs p lp 0 a :=
        fun p hp => fr_of _ _ p _ _ _ (fun q _ hq => if_neg (by have := hp q hq; omega))
      have e2 : fr (fun q => if q = j then v else vs q) (fun q => decide (q < j + 1)) lp 0 a = (fr vs (fun q => decide (q < j)) lp 0 a).put o.dst v := by
        have e3 : fr (fun q => if q = j then v else vs q) (fun q => decide (q < j + 1)) lp 0 a = fr (fun q => if q = j then v else vs q) (fun q => decide (q = j) || decide (q < j)) lp 0 a :=
          fr_congr _ _ _ _ _ _ (fun q _ => by rw [Bool.eq_iff_iff, Bool.or_eq_true, decide_eq_true_eq, decide_eq_true_eq, decide_eq_true_eq]; omega)
        rw [e3, fr_set _ (fun q => decide (q < j)) j o _ 0 a (Nat.zero_le _) (by simpa using hjl) (by simp) (fun q o' _ hq hp => by simp at hp; omega), e1 _ (fun q hq => by simpa using hq), if_pos rfl]
      obtain ⟨k', vs', g1, g2, g3, g4, g5, g6⟩ := wpSt_adv (lpf := pickL l pi) (a := a) ((pickL l pi).length - (j + 1)) (j + 1) (fun q => if q = j then v else vs q) w'' (by omega) (by rw [hlp, e2]; exact hw')
      rw [hlp] at g5 g6
      have g3' : ∀ q, q < j → vs' q = vs q := fun q hq => by rw [g3 q (by omega), if_neg (by omega)]
      have g3j : vs' j = v := by rw [g3 j (by omega), if_pos rfl]
      have efr : ∀ p : Nat → Bool, (∀ q, p q = true → q < j) → fr vs' p lp 0 a = fr vs p lp 0 a := fun p hp => fr_of _ _ p _ _ _ (fun q _ hq => g3' q (hp q hq))
      have hpast : ∀ q, atPi pi listed q = true → q < j := fun q hq => by
        rcases Nat.lt_or_ge q j with h1 | h1
        · exact h1
        · cases hpq : pi[q]? with
          | none => unfold atPi at hq; rw [hpq] at hq; cases hq
          | some eq => rw [atPi_some hpq, hrest q eq hpq h1] at hq; cases hq
      have hCw2 : C w'' ∨ ∀ (q : Nat) (eq : Nat × Bool), pi[q]? = some eq → (listed.setIfInBounds e.1 true).getD eq.1 false = true := by
        rcases hCw' with h1 | h1
        · refine .inr fun q eq hq => ?_
          rw [Bool.and_eq_true, List.isEmpty_iff] at h1
          have h2 : j + 1 = pi.length := by
            have := congrArg List.length h1.1
            rw [List.length_drop, hlenp] at this
            have := (List.getElem?_eq_some_iff.1 hj).1
            simp at *
            omega
          rw [getD_true_iff hil]
          by_cases h3 : q = j
          · subst h3
            rw [hj] at hq
            cases hq
            simp
          · obtain ⟨oq, hoq⟩ := G.at_ q eq hq
            have := G.anc j q e eq o oq hj hq ho' hoq (by have := (List.getElem?_eq_some_iff.1 hq).1; omega) (.inr (.inr ⟨h1.2, h2⟩))
            rw [hcl.ready hi this, Bool.or_true]
        · exact .inl h1
      refine ⟨hcl', hCw2, k', vs', by rw [← hlenp]; exact g2, fun ek hek => ?_, fun q eq hq hqk h2 => ?_, fun q eq hq hqk => ?_, fun q eq oq hq hoq hqk h2 => ?_, g6, ?_⟩
      · obtain ⟨ok, hok⟩ := G.at_ k' ek hek
        exact g4 _ (hpk k' ek ok hek hok)
      · rw [getD_true_iff hil]
        rcases Nat.lt_trichotomy q j with h3 | h3 | h3
        · rw [hdone q eq hq h3 h2, Bool.or_true]
        · subst h3
          rw [hj] at hq
          cases hq
          simp
        · obtain ⟨oq, hoq⟩ := G.at_ q eq hq
          have := (g5 q oq eq.2 (by omega) hqk (hpk q eq oq hq hoq)).1
          rw [h2] at this
          cases this
      · rw [getD_true_iff hil, hrest q eq hq (by omega), Bool.or_false, decide_eq_false_iff_not]
        intro h3
        have := G.inj q j eq e hq hj h3
        omega
      · rcases Nat.lt_trichotomy q j with h3 | h3 | h3
        · obtain ⟨h4, h5⟩ := hquiet q eq oq hq hoq h3 h2
          refine ⟨h4, ?_⟩
          rw [efr _ (fun r hr => Nat.lt_trans (show r < q by simpa using hr) h3), g3' q h3]
          exact h5
        · subst h3
          rw [hj] at hq
          cases hq
          rw [he2] at h2
          cases h2
        · have h4 := g5 q oq eq.2 (by omega) hqk (hpk q eq oq hq hoq)
          exact h4.2
      · rw [funext hbit, hset vs', g3j, efr _ hpast]
  · -- the end
    intro listed a' w' hs hJ hr
    obtain ⟨hcl, hCw, k, vs, hk, hadv, hdone, hrest, hquiet, hwp, rfl⟩ := hJ
    have hall : ∀ (j : Nat) (e : Nat × Bool), pi[j]? = some e → listed.getD e.1 false = true := by
      intro j
      induction j using Nat.strongRecOn with
      | _ j ih =>
        intro e hj
        cases hl : listed.getD e.1 false with
        | true => rfl
        | false =>
          obtain ⟨o, ho⟩ := G.at_ j e hj
          have : e.1 ∈ Region.ready .any l.toArray listed := by
            rw [mem_ready]
            refine ⟨getD_tf (by rw [hs]; simpa using (List.getElem?_eq_some_iff.1 ho).1) hl, o, by rw [hget]; exact ho, fun ed hed hb => ?_⟩
            obtain ⟨j', e', h1, h2, h3⟩ := G.fwd j e o hj ho ed hed hb
            rw [← h3]
            exact ih j' h1 e' h2
          rw [hr] at this
          cases this
    have hkk : k = pi.length := by
      rcases Nat.lt_or_ge k pi.length with h1 | h1
      · have h2 := hrest k _ (List.getElem?_eq_getElem h1) (Nat.le_refl _)
        rw [hall k _ (List.getElem?_eq_getElem h1)] at h2
        cases h2
      · omega
    rw [show (pickL l pi).drop k = [] by rw [hkk, ← hlenp]; simp] at hwp
    have e1 : fr vs (atPi pi listed) lp 0 a = fr vs (fun q => decide (q < k)) lp 0 a := fr_congr _ _ _ _ _ _ (fun q hq => by
      have hql : q < pi.length := by rw [← hlp, List.length_map, hlenp] at hq; exact hq
      rw [Nat.zero_add, atPi_some (List.getElem?_eq_getElem hql), hall q _ (List.getElem?_eq_getElem hql)]
      simp; omega)
    rw [e1]
    exact hwp
  · -- the start
    have e0 : ∀ vs : Nat → Value, fr vs (atPi pi (Array.replicate l.toArray.size false)) lp 0 a = a := fun vs => fr_none _ _ _ 0 a (fun q _ => by
      unfold atPi
      cases pi[q]? with
      | none => rfl
      | some e => exact rep_ff _ _)
    have e1 : fr (fun _ => undef) (fun q => decide (q < 0)) lp 0 a = a := fr_none _ _ _ 0 a (fun q _ => by simp)
    obtain ⟨k', vs', g1, g2, g3, g4, g5, g6⟩ := wpSt_adv (lpf := pickL l pi) (a := a) (pickL l pi).length 0 (fun _ => undef) _ (by omega) (by rw [hlp, e1]; exact h)
    rw [hlp] at g5 g6
    refine ⟨(fun i o ho hl => by rw [rep_ff] at hl; cases hl), .inl hC, k', vs', by rw [← hlenp]; exact g2, fun ek hek => ?_, fun q eq hq hqk h2 => ?_, fun q eq hq hqk => rep_ff _ _, fun q eq oq hq hoq hqk h2 => ?_, g6, (e0 vs').symm⟩
    · obtain ⟨ok, hok⟩ := G.at_ k' ek hek
      exact g4 _ (hpk k' ek ok hek hok)
    · obtain ⟨oq, hoq⟩ := G.at_ q eq hq
      have := (g5 q oq eq.2 (by omega) hqk (hpk q eq oq hq hoq)).1
      rw [h2] at this
      cases this
    · exact (g5 q oq eq.2 (by omega) hqk (hpk q eq oq hq hoq)).2
end
/-- a step whose run is known -/
theorem wpSt_value {P : Program} {ops : Array Oper} {z : Bool} {C : World → Prop} {Q : Exit → Act → World → Prop} {o : Oper} {r : List (Oper × Bool)} {a : Act} {w : World} (v : Value) (w' : World) (hw : Region.wanted o (yielded ops a.tmps) = true) (hr : (execOp a.eval o).run P w = .ok (.value v) w')
    (hC : (r.isEmpty && z) = true ∨ C w') (h : wpSt P ops z C Q r (a.put o.dst v) w') : wpSt P ops z C Q ((o, true) :: r) a w := by
  unfold wpSt wpList
  rw [if_pos hw]
  refine .inl ?_
  unfold Oper.wp
  rw [hr]
  exact ⟨put_defers _ _ _, hC, h⟩
/-! the class 'S holds' -/
def Sub (S : World → Prop) : Type := { w : World // S w }
def Sub.w {S : World → Prop} (x : Sub S) : World := x.1
theorem Sub.s {S : World → Prop} (x : Sub S) : S x.w := x.2
abbrev inSub (S : World → Prop) : World → Prop := fun w' => ∃ x : Sub S, w' = x.w
theorem inSub_mk {S : World → Prop} {w : World} (h : S w) : inSub S w := ⟨⟨w, h⟩, rfl⟩
theorem wp_region_sub {P : Program} {Q : Exit → Act → World → Prop} {id : Nat} {a : Act} {w : World} {l : List Oper} (z : Bool) (S : World → Prop) (pi : List (Nat × Bool)) (hm : P.follows .mixedOrders = true) (hB : stB .any z l pi = true) (hC : S w.drew)
    (h : wpSt P l.toArray z (inSub S) Q (pickL l pi) a w.drew) : (Code.region id l.toArray true).wp P Q a w := wp_region_state z (inSub S) pi hm hB (inSub_mk hC) h
end Go.PF
