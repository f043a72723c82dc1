/- Words for the statements over given events: a copy of them, one of them changed, and what Replay answers whatever they are. -/
import Derived.Test.YtamdanpkkcdhbaaEqd
import Derived.Test.YtamdanpkkcdhbaaVq1
import Derived.Test.YtamdanpkkcdhbaaMs1
import Derived.Test.YtamdanpkkcdhbaaOpenD
set_option linter.unusedVariables false
set_option linter.unusedSimpArgs false
namespace Go.Proofs.Ytamdanpkkcdhbaa
open Go.RowKit Go.PF

theorem flat_set (L : List Ev) (hok : ∀ e ∈ L, Ev.Ok e) : ∀ (k : Nat) (e : Ev) (r : Int), L[k]? = some e → (L.flatMap evV).set (k * 34) (.int .i64 r) = (L.set k ⟨r, e.dig, e.text⟩).flatMap evV := by
  induction L with
  | nil => intro k e r h; simp at h
  | cons x L ih =>
    intro k e r h
    cases k with
    | zero =>
      simp at h
      subst h
      rfl
    | succ k =>
      have hx := evV_length (hok x (by simp)).dig
      rw [List.getElem?_cons_succ] at h
      rw [List.flatMap_cons, List.set_append, if_neg (by rw [hx]; omega), hx, show (k + 1) * 34 - 34 = k * 34 by omega, ih (fun y hy => hok y (by simp [hy])) k e r h, List.set_cons_succ, List.flatMap_cons]
theorem Ok.reg {e : Ev} (h : Ev.Ok e) {r : Int} (h1 : -9223372036854775808 ≤ r) (h2 : r ≤ 9223372036854775807) : Ev.Ok ⟨r, e.dig, e.text⟩ := ⟨h1, h2, h.dig⟩
theorem ok_set {L : List Ev} (hok : ∀ e ∈ L, Ev.Ok e) (k : Nat) {e : Ev} (he : Ev.Ok e) : ∀ x ∈ L.set k e, Ev.Ok x := fun x hx => by
  rcases List.mem_or_eq_of_mem_set hx with h | h
  · exact hok x h
  · subst h; exact he
/-- what Replay answers -/
def resRp (evs : List Ev) : List (List Int) × Int := if regB evs = true then (replayL evs, 0) else ([], 1)
theorem resRp_ok (evs : List Ev) : ∀ r ∈ (resRp evs).1, r.length = 32 := by
  unfold resRp
  split
  · exact (replayL_ok evs).all
  · intro r h; cases h
theorem resRp_len (evs : List Ev) : (resRp evs).1.length ≤ 8 := by
  unfold resRp
  split
  · rw [(replayL_ok evs).eight]; omega
  · simp
theorem RpPost.uni {evs : List Ev} {w w' : World} {e : Ending} (p : RpPost evs w e w') : ∃ A c, e = .returned (.tuple #[.slice A (resRp evs).1.length c, .int .i64 (resRp evs).2]) ∧ RegsSl w' A (resRp evs).1 ∧ Mods No w w' := by
  by_cases hg : regB evs = true
  · obtain ⟨B, hB, rfl, hA⟩ := p.good (regB_true.1 hg)
    refine ⟨some ⟨B, 0, none⟩, 8, ?_, ?_, p.mods⟩
    · unfold resRp
      rw [if_pos hg, (replayL_ok evs).eight]
    · unfold resRp
      rw [if_pos hg]
      exact hA.regsSl
  · refine ⟨none, 0, ?_, ?_, p.mods⟩
    · rw [p.bad (fun h => hg (regB_true.2 h))]
      unfold resRp
      rw [if_neg hg]
      rfl
    · unfold resRp
      rw [if_neg hg]
      intro k r h
      simp at h
/-- events of an argument -/
theorem ev_args {w : World} {A : Option Addr} {n : Nat} {l : List EvW} (hl : l.length = n) (hS : Sl w 34 A n (l.flatMap evW)) : ∃ evs : List Ev, evs.length = n ∧ (∀ e ∈ evs, Ev.Ok e) ∧ Sl w 34 A n (evs.flatMap evV) := by
  refine ⟨l.map (·.1), by rw [List.length_map]; exact hl, fun e he => ?_, by rw [flat_ev]; exact hS⟩
  rw [List.mem_map] at he
  obtain ⟨y, _, rfl⟩ := he
  exact y.2
/-- append of nothing -/
theorem run_append_empty {P : Program} (w : World) (t ty e : TypeId) (i : TypeInfo) (ht : P.underlying t = some (.slice e)) (hi : P.info? e = some i) (A : Option Addr) (n c c' : Nat) (hn : n ≤ c) :
    (Builtin.append_ #[t, t] ty #[.slice A n c, .slice none 0 c']).run P w = .ok (.slice A n c) w := by
  cases A with
  | none => simp [Builtin.append_, run_underlying ht, sizeOf, typeInfo, hi, Builtin.lenOf, hn, Builtin.firstCells]
  | some a => simp [Builtin.append_, run_underlying ht, sizeOf, typeInfo, hi, Builtin.lenOf, hn, Builtin.firstCells, storeCells]
theorem wpList_append_nil {P : Program} {ops : Array Oper} {rest : List Oper} {o : Oper} {a : Act} {w : World} {Q : Exit → Act → World → Prop}
    (hg : o.guard = none) (s x : Operand) (t : TypeId) (hop : o.op = Op.call { callee := Callee.builtin Builtin.append, args := #[s, x], argTypes := #[t, t] })
    (e : TypeId) (i : TypeInfo) (ht : P.underlying t = some (.slice e)) (hi : P.info? e = some i)
    (A : Option Addr) (n c c' : Nat) (hn : n ≤ c) (hs : a.eval s = .slice A n c) (hx : a.eval x = .slice none 0 c') (hK : wpList P ops Q rest (a.put o.dst (.slice A n c)) w) : wpList P ops Q (o :: rest) a w := by
  refine wpList_plain hg fun K hK' => ?_
  have hrun := run_append_empty (P := P) w t o.type e i ht hi A n c c' hn
  unfold Oper.wp
  simp [execOp, hop, resolve, invoke, builtin, hs, hx, hrun, Result.andThen]
  exact hK' _ _ hK
/-- append of an argument (whatever slice) onto an empty slice of one's own -/
theorem wpList_append_arg_new {P : Program} {ops : Array Oper} {rest : List Oper} {o : Oper} {a : Act} {w : World} {Q : Exit → Act → World → Prop}
    (hg : o.guard = none) (s x : Operand) (t : TypeId) (hop : o.op = Op.call { callee := Callee.builtin Builtin.append, args := #[s, x], argTypes := #[t, t] })
    (e : TypeId) (i : TypeInfo) (z : Value) (size bytes : Nat) (h1 : P.underlying t = some (.slice e)) (h2 : P.info? e = some i) (h3 : i.zero = some z) (h4 : i.size = size) (h5 : i.bytes = bytes) (h6 : z.cells.size = size) (h7 : 0 < size)
    (g : Nat) (hs : a.eval s = .slice (some ⟨g, 0, none⟩) 0 0)
    (A : Option Addr) (m c : Nat) (news : List Value) (hx : a.eval x = .slice A m c) (hS : Sl w size A m news) (hA : A = none → m = 0) (h1c : ∀ u ∈ news, u.oneCell' = true)
    (b1 : m ≤ maxLen) (b2 : m * bytes ≤ 140737488355328)
    (hK : ∀ A' c' w', m ≤ c' → Row w' size (.slice A' m c') m news → Mods (fun k => k = g) w w' → (∀ q, (Value.slice A' m c').ownBlock = some q → q = g ∨ w.heap.size ≤ q) → wpList P ops Q rest (a.put o.dst (.slice A' m c')) w') :
    wpList P ops Q (o :: rest) a w := by
  cases A with
  | none =>
    have hm := hA rfl
    subst hm
    have hn : news = [] := List.eq_nil_of_length_eq_zero (by have := hS.1; omega)
    subst hn
    refine wpList_append_nil hg s x t hop e i h1 h2 (some ⟨g, 0, none⟩) 0 0 c (Nat.le_refl _) hs hx ?_
    refine hK _ _ _ (Nat.le_refl _) (Row.empty _ _ _) (Mods.refl _ _) (fun q hq => ?_)
    simp only [Value.ownBlock, Option.some.injEq] at hq
    exact .inl hq.symm
  | some ad =>
    refine wpList_append_row hg s x t hop e i z size bytes h1 h2 h3 h4 h5 h6 h7 _ 0 [] hs (Row.empty _ _ _) ad m c news hx hS.1 (fun j u hu => ?_) h1c (by omega) (by rw [Nat.zero_add]; exact b2) (fun v' w' hr hm hb => ?_)
    · have hp : 0 < m := by
        rcases Nat.eq_zero_or_pos m with h | h
        · rw [List.eq_nil_of_length_eq_zero (l := news) (by rw [hS.1, h, Nat.zero_mul])] at hu; simp at hu
        · exact h
      obtain ⟨g', o', h2, h3⟩ := hS.2.2 hp
      cases h2
      rw [Addr.add_lit]
      exact h3 j u hu
    · rw [Nat.zero_add, List.nil_append] at hr
      obtain ⟨A1, c1, rfl, hnc1, -, -⟩ := hr.shape
      refine hK A1 c1 w' hnc1 hr (hm.mono (fun k hk => ?_)) (fun q hq => ?_)
      · simp only [Value.ownBlock, Option.some.injEq] at hk
        exact hk.symm
      · rcases hb with h | ⟨g', h1, h2⟩
        · rw [hq] at h
          simp only [Value.ownBlock, Option.some.injEq] at h
          exact .inl h
        · rw [hq] at h1
          cases h1
          exact .inr h2
end Go.Proofs.Ytamdanpkkcdhbaa
