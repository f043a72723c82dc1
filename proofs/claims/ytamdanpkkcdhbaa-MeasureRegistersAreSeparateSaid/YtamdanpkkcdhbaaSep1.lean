/- Registers do not depend on how measurements of different registers are interleaved: the plain law. -/
import Derived.Test.YtamdanpkkcdhbaaMs1
set_option linter.unusedVariables false
set_option linter.unusedSimpArgs false
namespace Go.Proofs.Ytamdanpkkcdhbaa
open Go.RowKit Go.PF

def evOf (c : MCall) : Ev := ⟨modZ c.reg 8, shaL c.data, c.text⟩
def goodC (c : MCall) : Bool := decide (c.text.size ≤ 64)
theorem meas1_eq (evs : List Ev) (c : MCall) (h : evs.length < 256) : meas1 evs c = if goodC c = true then evs ++ [evOf c] else evs := by
  have hz := modZ_range c.reg (m := 8) (by omega)
  unfold meas1 measRes goodC
  by_cases ht : c.text.size ≤ 64
  · rw [if_neg (by unfold measBad; omega), if_neg (by omega), if_pos (by simpa using ht)]
    rfl
  · rw [if_pos (by unfold measBad; omega), if_neg (by simpa using ht)]
theorem fold_good (l : List MCall) : ∀ evs : List Ev, evs.length + l.length ≤ 256 → l.foldl meas1 evs = evs ++ (l.filter goodC).map evOf := by
  induction l with
  | nil => intro evs _; simp
  | cons c l ih =>
    intro evs h
    simp only [List.length_cons] at h
    rw [List.foldl_cons, meas1_eq _ _ (by omega)]
    by_cases hg : goodC c = true
    · rw [if_pos hg, ih _ (by rw [List.length_append]; simp; omega), List.filter_cons_of_pos hg, List.map_cons, List.append_assoc]
      rfl
    · rw [if_neg hg, ih _ (by omega), List.filter_cons_of_neg hg]
theorem measAll_good (l : List MCall) (h : l.length ≤ 256) : measAll l = (l.filter goodC).map evOf := by
  unfold measAll
  rw [fold_good l [] (by simpa using h), List.nil_append]

/-- those of one register -/
def sepStep (r : Int) (evs : List Ev) (c : MCall) : List Ev := if modZ c.reg 8 = r then meas1 evs c else evs
def sepR (r : Int) (evs : List Ev) (l : List MCall) : List Ev := l.foldl (sepStep r) evs
theorem sepR_push (r : Int) (evs : List Ev) (l : List MCall) (c : MCall) : sepR r evs (l ++ [c]) = sepStep r (sepR r evs l) c := by simp [sepR, List.foldl_append]
def sepAll : Nat → List MCall → List Ev
  | 0, _ => []
  | n + 1, l => sepR n (sepAll n l) l
theorem sepR_len (r : Int) (l : List MCall) : ∀ evs : List Ev, (sepR r evs l).length ≤ evs.length + l.length := by
  induction l with
  | nil => intro evs; simp [sepR]
  | cons c l ih =>
    intro evs
    have h1 := ih (sepStep r evs c)
    have h2 : (sepStep r evs c).length ≤ evs.length + 1 := by
      unfold sepStep
      split
      · exact meas1_len _ _
      · omega
    simp only [sepR, List.foldl_cons, List.length_cons] at h1 ⊢
    omega
theorem sepAll_len (n : Nat) (l : List MCall) : (sepAll n l).length ≤ n * l.length := by
  induction n with
  | zero => simp [sepAll]
  | succ n ih =>
    have := sepR_len n l (sepAll n l)
    rw [Nat.succ_mul]
    simp only [sepAll]
    omega
theorem sepR_good (r : Int) (l : List MCall) : ∀ evs : List Ev, evs.length + l.length ≤ 256 → sepR r evs l = evs ++ ((l.filter goodC).filter fun c => decide (modZ c.reg 8 = r)).map evOf := by
  induction l with
  | nil => intro evs _; simp [sepR]
  | cons c l ih =>
    intro evs h
    simp only [List.length_cons] at h
    have e : sepR r evs (c :: l) = sepR r (sepStep r evs c) l := rfl
    rw [e]
    unfold sepStep
    by_cases hr : modZ c.reg 8 = r
    · rw [if_pos hr, meas1_eq _ _ (by omega)]
      by_cases hg : goodC c = true
      · rw [if_pos hg, ih _ (by rw [List.length_append]; simp; omega), List.filter_cons_of_pos hg, List.filter_cons_of_pos (by simpa using hr), List.map_cons, List.append_assoc]
        rfl
      · rw [if_neg hg, ih _ (by omega), List.filter_cons_of_neg hg]
    · rw [if_neg hr, ih _ (by omega)]
      by_cases hg : goodC c = true
      · rw [List.filter_cons_of_pos hg, List.filter_cons_of_neg (by simpa using hr)]
      · rw [List.filter_cons_of_neg hg]
theorem sepAll_good (n : Nat) (l : List MCall) (hn : n ≤ 8) (h : l.length ≤ 12) : sepAll n l = (List.range n).flatMap fun (r : Nat) => ((l.filter goodC).filter fun c => decide (modZ c.reg 8 = (r : Int))).map evOf := by
  induction n with
  | zero => rfl
  | succ n ih =>
    have hl := sepAll_len n l
    have hm : n * l.length ≤ 8 * 12 := Nat.mul_le_mul (by omega) h
    simp only [sepAll]
    rw [sepR_good _ _ _ (by omega), ih (by omega), List.range_succ, List.flatMap_append]
    simp

theorem count_part {α : Type} (f : α → Int) (L : List α) : ∀ n : Nat, ((List.range n).flatMap fun (r : Nat) => L.filter fun c => decide (f c = (r : Int))).length = (L.filter fun c => decide (0 ≤ f c ∧ f c < (n : Int))).length := by
  intro n
  induction n with
  | zero =>
    have : L.filter (fun c => decide (0 ≤ f c ∧ f c < ((0 : Nat) : Int))) = [] := by
      rw [List.filter_eq_nil_iff]
      intro a _
      simp only [decide_eq_true_eq]
      omega
    rw [this]
    rfl
  | succ n ih =>
    rw [List.range_succ, List.flatMap_append, List.length_append, ih]
    simp only [List.flatMap_cons, List.flatMap_nil, List.append_nil]
    clear ih
    induction L with
    | nil => rfl
    | cons x L ih =>
      simp only [List.filter_cons]
      by_cases h1 : f x = (n : Int)
      · rw [if_neg (show ¬ (decide (0 ≤ f x ∧ f x < (n : Int)) = true) by simp; omega), if_pos (show decide (f x = (n : Int)) = true by simpa using h1), if_pos (show decide (0 ≤ f x ∧ f x < ((n + 1 : Nat) : Int)) = true by simp; omega), List.length_cons, List.length_cons]
        omega
      · rw [if_neg (show ¬ (decide (f x = (n : Int)) = true) by simpa using h1)]
        by_cases h2 : 0 ≤ f x ∧ f x < (n : Int)
        · rw [if_pos (show decide (0 ≤ f x ∧ f x < (n : Int)) = true by simpa using h2), if_pos (show decide (0 ≤ f x ∧ f x < ((n + 1 : Nat) : Int)) = true by simp; omega), List.length_cons, List.length_cons]
          omega
        · rw [if_neg (show ¬ (decide (0 ≤ f x ∧ f x < (n : Int)) = true) by simpa using h2), if_neg (show ¬ (decide (0 ≤ f x ∧ f x < ((n + 1 : Nat) : Int)) = true) by simp; omega)]
          exact ih

theorem sep_length (l : List MCall) (h : l.length ≤ 12) : (measAll l).length = (sepAll 8 l).length := by
  rw [measAll_good l (by omega), sepAll_good 8 l (by omega) h]
  have h1 := count_part (fun c : MCall => modZ c.reg 8) (l.filter goodC) 8
  have h2 : (l.filter goodC).filter (fun c => decide (0 ≤ modZ c.reg 8 ∧ modZ c.reg 8 < ((8 : Nat) : Int))) = l.filter goodC := by
    rw [List.filter_eq_self]
    intro c _
    have := modZ_range c.reg (m := 8) (by omega)
    simp
    omega
  rw [h2] at h1
  rw [List.length_map, ← h1, List.length_flatMap, List.length_flatMap]
  simp only [List.length_map]

theorem replay_reg (evs : List Ev) (r : Nat) (hr : r < 8) : ∀ regs : List (List Int), Regs regs → inRegs evs → (evs.foldl stepE regs).getD r [] = (evs.filter fun e => decide (e.reg = (r : Int))).foldl (fun x e => extL x e.dig) (regs.getD r []) := by
  induction evs with
  | nil => intro regs _ _; rfl
  | cons e evs ih =>
    intro regs hR hin
    have he := hin e (by simp)
    rw [List.foldl_cons, ih _ (stepE_ok hR e) (fun x hx => hin x (by simp [hx]))]
    have h8 := hR.eight
    by_cases h : e.reg = (r : Int)
    · rw [List.filter_cons_of_pos (by simpa using h), List.foldl_cons]
      have : (stepE regs e).getD r [] = extL (regs.getD r []) e.dig := by
        unfold stepE
        rw [show e.reg.toNat = r by omega]
        simp [List.getD, List.getElem?_set, h8, hr]
      rw [this]
    · rw [List.filter_cons_of_neg (by simpa using h)]
      have : (stepE regs e).getD r [] = regs.getD r [] := by
        unfold stepE
        have hne : e.reg.toNat ≠ r := by omega
        simp [List.getD, List.getElem?_set, hne]
      rw [this]
theorem filter_flat {α β : Type} (g : α → List β) (p : β → Bool) (L : List α) : (L.flatMap g).filter p = L.flatMap fun x => (g x).filter p := by
  induction L with
  | nil => rfl
  | cons x L ih => simp [List.flatMap_cons, List.filter_append, ih]
theorem flat_one {β : Type} (g : Nat → List β) (r : Nat) (h0 : ∀ x, x ≠ r → g x = []) : ∀ n, r < n → (List.range n).flatMap g = g r := by
  have h1 : ∀ n, n ≤ r → (List.range n).flatMap g = [] := by
    intro n
    induction n with
    | zero => intro _; rfl
    | succ n ih => intro h; rw [List.range_succ, List.flatMap_append, ih (by omega)]; simp [h0 n (by omega)]
  intro n
  induction n with
  | zero => intro h; omega
  | succ n ih =>
    intro h
    rw [List.range_succ, List.flatMap_append]
    by_cases e : n = r
    · subst e
      rw [h1 n (Nat.le_refl _)]
      simp
    · rw [ih (by omega)]
      simp [h0 n e]
theorem sep_filter (l : List MCall) (h : l.length ≤ 12) (r : Nat) (hr : r < 8) : (measAll l).filter (fun e => decide (e.reg = (r : Int))) = (sepAll 8 l).filter fun e => decide (e.reg = (r : Int)) := by
  rw [measAll_good l (by omega), sepAll_good 8 l (by omega) h, filter_flat, flat_one _ r _ 8 hr]
  · rw [List.filter_map, List.filter_map, List.filter_filter, List.filter_filter, List.filter_filter]
    congr 1
    apply List.filter_congr
    intro c _
    have e1 : ((fun e : Ev => decide (e.reg = (r : Int))) ∘ evOf) c = decide (modZ c.reg 8 = (r : Int)) := rfl
    rw [e1]
    simp only [Bool.and_self]
  · intro x hx
    rw [List.filter_eq_nil_iff]
    intro e he
    rw [List.mem_map] at he
    obtain ⟨c, hc, rfl⟩ := he
    have := (List.mem_filter.1 hc).2
    simp only [decide_eq_true_eq] at this ⊢
    simp only [evOf]
    omega
theorem sepAll_inRegs (n : Nat) (l : List MCall) : inRegs (sepAll n l) := by
  have hR : ∀ (r : Int) (l : List MCall) (evs : List Ev), inRegs evs → inRegs (sepR r evs l) := by
    intro r l
    induction l with
    | nil => intro evs h; exact h
    | cons c l ih =>
      intro evs h
      refine ih _ ?_
      unfold sepStep
      split
      · exact measRes_inRegs _ _ _ _ _ h
      · exact h
  induction n with
  | zero => intro e he; cases he
  | succ n ih => exact hR _ _ _ ih
theorem sep_regs (l : List MCall) (h : l.length ≤ 12) (r : Nat) (hr : r < 8) : (replayL (measAll l)).getD r [] = (replayL (sepAll 8 l)).getD r [] := by
  unfold replayL
  rw [replay_reg _ r hr _ zeroRegs_ok (measAll_inRegs l), replay_reg _ r hr _ zeroRegs_ok (sepAll_inRegs 8 l), sep_filter l h r hr]
theorem sep_regRes (l : List MCall) (h : l.length ≤ 12) (r : Nat) (hr : r < 8) : regRes (replayL (measAll l)) r = regRes (replayL (sepAll 8 l)) r := by
  unfold regRes
  rw [if_pos (by omega), if_pos (by omega)]
  have := sep_regs l h r hr
  simp only [Int.toNat_natCast]
  rw [this]
end Go.Proofs.Ytamdanpkkcdhbaa
