/- Words for a row: what an argument that can be read is, cell by cell. No condition. -/
import Derived.Test.YtamdanpkkcdhbaaBase
import Derived.ProofKit
import Derived.Deep.Slices
import Derived.Deep.Fields
import Derived.SizedLaws
set_option linter.unusedVariables false
set_option linter.unusedSimpArgs false
namespace Go.PF
open Go.RowKit Go.ChangeShapes Go.WideShapes

theorem wf_i64 {n : Int} (h : (Lit.int .i64 n).wf = true) : -9223372036854775808 ≤ n ∧ n < 9223372036854775808 := by
  simp [Lit.wf, IntKind.min, IntKind.max, IntKind.bits, IntKind.signed] at h
  omega
theorem wf_u64 {n : Int} (h : (Lit.int .u64 n).wf = true) : 0 ≤ n ∧ n < 18446744073709551616 := by
  simp [Lit.wf, IntKind.min, IntKind.max, IntKind.bits, IntKind.signed] at h
  omega
theorem wf_u8 {n : Int} (h : (Lit.int .u8 n).wf = true) : 0 ≤ n ∧ n < 256 := by
  simp [Lit.wf, IntKind.min, IntKind.max, IntKind.bits, IntKind.signed] at h
  omega

section
variable {H : Type} {enc : TypeId × Value → H} {P : Program} {w : World} {base : Nat} {spare : Nat → Bool} {held : Bool}

/-- one cell that reads at a type of numbers, bools or strings -/
theorem cell_int {t : TypeId} {k : IntKind} (ht : P.underlying t = some (.int k)) {m : Nat} {v : Value} {y : DataW H × List MemPlace} (h : DataW.trod enc P w base spare held m t [v] = some y) : ∃ n, v = .int k n ∧ (Lit.int k n).wf = true := by
  obtain ⟨n, h1, _, h2⟩ := DataW.trod_int ht h
  exact ⟨n, by simpa using h1, h2⟩
theorem cell_bool {t : TypeId} (ht : P.underlying t = some .bool) {m : Nat} {v : Value} {y : DataW H × List MemPlace} (h : DataW.trod enc P w base spare held m t [v] = some y) : ∃ n, v = .bool n := by
  obtain ⟨n, h1, _⟩ := DataW.trod_bool ht h
  exact ⟨n, by simpa using h1⟩
theorem cell_string {t : TypeId} (ht : P.underlying t = some .string) {m : Nat} {v : Value} {y : DataW H × List MemPlace} (h : DataW.trod enc P w base spare held m t [v] = some y) : ∃ n, v = .string n ∧ n.size ≤ maxLen := by
  obtain ⟨n, h1, _, h2⟩ := DataW.trod_string ht h
  exact ⟨n, by simpa using h1, h2⟩

/-- a struct of fields of one cell each: the reading of each cell -/
theorem struct_cells {t : TypeId} {fs : Array Field} (ht : P.underlying t = some (.struct fs)) (ho : Go.Deep.oneCellFields P fs = true) {m : Nat} {cs : List Value} {x : DataW H × List MemPlace} (h : DataW.trod enc P w base spare held m t cs = some x) :
    ∃ n, cs.length = P.cellsOf t ∧ ∀ (j : Nat) (f : Field), fs[j]? = some f → ∀ v, cs[j]? = some v → ∃ y, DataW.trod enc P w base spare held n f.type [v] = some y := by
  obtain ⟨xs, n, _, _, hl, hxl, hf⟩ := DataW.trod_struct ht h
  refine ⟨n, hl, fun j f hj v hv => ?_⟩
  obtain ⟨h1, h2⟩ := Go.Deep.hone_of ho j f hj
  have h3 := hf j f hj
  have hjx : j < xs.length := by rw [hxl]; exact (Array.getElem?_eq_some_iff.1 hj).1
  have hjc := (List.getElem?_eq_some_iff.1 hv)
  rw [h1, h2, List.drop_eq_getElem_cons hjc.1, hjc.2, List.getElem?_eq_getElem hjx] at h3
  exact ⟨_, h3⟩

/-- a slice of whatever: nil, or each element's cells and its reading -/
theorem slice_elems {t e : TypeId} (ht : P.underlying t = some (.slice e)) {A : Option Addr} {len cap : Nat} {d : DataW H} {p : List MemPlace} (h : DataW.Trod enc P w base (fun _ => true) held t (.slice A len cap) d p) :
    (A = none ∧ len = 0 ∧ cap = 0) ∨ ∃ a, A = some a ∧ len ≤ cap ∧ cap ≤ maxLen ∧ ∀ i, i < len → ∃ (cs : List Value) (n : Nat) (x : DataW H × List MemPlace), cs.length = P.cellsOf e ∧
      (∀ j, j < P.cellsOf e → w.cell? (a.add (i * P.cellsOf e + j)) = cs[j]?) ∧ DataW.trod enc P w base (fun _ => true) held n e cs = some x := by
  obtain ⟨fuel, hf⟩ := h
  rcases Go.Deep.open_slice ht hf with ⟨h0, _⟩ | ⟨a, l, c, m, n, D, Pl, hcs, _, hl, hm, hmm, _, hi⟩
  · simp [Value.cells] at h0
    exact .inl h0
  · simp [Value.cells] at hcs
    obtain ⟨rfl, rfl, rfl⟩ := hcs
    refine .inr ⟨a, rfl, hl, hm, fun i hil => ?_⟩
    obtain ⟨cs', hc, hr⟩ := hi i (by rw [hmm]; simp; omega)
    obtain ⟨_, h1, h2⟩ := World.cells?_some hc
    exact ⟨cs', n, _, h1, fun j hj => by rw [← Go.Deep.add_add]; exact h2 j hj, hr⟩

/-- elements one by one make a list -/
theorem sl_list {α : Type} (en : α → List Value) (m : Nat) (hm : ∀ x, (en x).length = m) (good : α → Prop) (w : World) (a : Addr) : ∀ (len : Nat), (∀ i, i < len → ∃ x, good x ∧ ∀ j v, (en x)[j]? = some v → w.cell? (a.add (i * m + j)) = some v) →
    ∃ l : List α, l.length = len ∧ (∀ x ∈ l, good x) ∧ ∀ k v, (l.flatMap en)[k]? = some v → w.cell? (a.add k) = some v
  | 0, _ => ⟨[], rfl, fun x h => (by cases h), fun k v h => (by simp at h)⟩
  | len + 1, h => by
    obtain ⟨l, hl, hg, hc⟩ := sl_list en m hm good w a len (fun i hi => h i (by omega))
    obtain ⟨x, gx, hx⟩ := h len (by omega)
    have hfl : ∀ l : List α, (l.flatMap en).length = l.length * m := by
      intro l
      induction l with
      | nil => simp
      | cons y r ih => rw [List.flatMap_cons, List.length_append, ih, hm, List.length_cons, Nat.succ_mul, Nat.add_comm]
    refine ⟨l ++ [x], by simp [hl], fun y hy => ?_, fun k v hk => ?_⟩
    · rcases List.mem_append.1 hy with hy | hy
      · exact hg y hy
      · rw [List.mem_singleton.1 hy]; exact gx
    · rw [List.flatMap_append] at hk
      by_cases hkl : k < len * m
      · rw [List.getElem?_append_left (by rw [hfl, hl]; exact hkl)] at hk
        exact hc k v hk
      · rw [List.getElem?_append_right (by rw [hfl, hl]; omega), hfl, hl, List.flatMap_cons, List.flatMap_nil, List.append_nil] at hk
        have := hx _ v hk
        rwa [show len * m + (k - len * m) = k by omega] at this

/-- a slice of elements that 'en' lays in m cells each -/
theorem slice_sl {α : Type} (en : α → List Value) (m : Nat) (hm : ∀ x, (en x).length = m) (hm0 : 0 < m) (good : α → Prop) {t e : TypeId} (ht : P.underlying t = some (.slice e)) (hC : P.cellsOf e = m) {A : Option Addr} {len cap : Nat} {d : DataW H} {p : List MemPlace}
    (h : DataW.Trod enc P w base (fun _ => true) held t (.slice A len cap) d p)
    (he : ∀ (cs : List Value) (n : Nat) (x : DataW H × List MemPlace), cs.length = m → DataW.trod enc P w base (fun _ => true) held n e cs = some x → ∃ y, good y ∧ en y = cs) :
    ∃ l : List α, l.length = len ∧ (∀ x ∈ l, good x) ∧ len ≤ cap ∧ cap ≤ 9223372036854775807 ∧ Sl w m A len (l.flatMap en) := by
  have hfl : ∀ l : List α, (l.flatMap en).length = l.length * m := by
    intro l
    induction l with
    | nil => simp
    | cons y r ih => rw [List.flatMap_cons, List.length_append, ih, hm, List.length_cons, Nat.succ_mul, Nat.add_comm]
  rcases slice_elems ht h with ⟨rfl, rfl, rfl⟩ | ⟨a, rfl, hl, hc, hi⟩
  · exact ⟨[], rfl, fun x h => (by cases h), Nat.le_refl _, by omega, by simp, by omega, fun h => absurd h (by omega)⟩
  · obtain ⟨l, h1, h2, h3⟩ := sl_list en m hm good w a len (fun i hil => by
      obtain ⟨cs, n, x, hcl, hcell, hr⟩ := hi i hil
      rw [hC] at hcl hcell
      obtain ⟨y, gy, rfl⟩ := he cs n x hcl hr
      refine ⟨y, gy, fun j v hj => ?_⟩
      have hjm : j < m := by rw [← hm y]; exact (List.getElem?_eq_some_iff.1 hj).1
      rw [hcell j hjm]; exact hj)
    have hc' : cap ≤ 9223372036854775807 := by simpa [maxLen] using hc
    refine ⟨l, h1, h2, hl, hc', by rw [hfl, h1], Nat.le_trans hl hc', fun hp => ?_⟩
    have hsp : a.spot = none := by
      cases l with
      | nil => simp at h1; omega
      | cons x r =>
        have h0 : 0 < (en x).length := by rw [hm]; exact hm0
        have hx := h3 0 ((en x)[0]'h0) (by rw [List.flatMap_cons, List.getElem?_append_left h0, List.getElem?_eq_getElem h0])
        have ha : a.add 0 = a := by unfold Addr.add; rw [if_pos rfl]
        rw [ha] at hx
        unfold World.cell? at hx
        cases hs : a.spot with
        | none => rfl
        | some s =>
          rw [hs] at hx
          split at hx <;> simp at hx
    obtain ⟨g, o, s⟩ := a
    simp only at hsp
    subst hsp
    refine ⟨g, o, rfl, fun j u hu => ?_⟩
    have := h3 j u hu
    have e : (⟨g, o, none⟩ : Addr).add j = ⟨g, o + j, none⟩ := by unfold Addr.add; split <;> simp_all
    rwa [e] at this
end
end Go.PF
