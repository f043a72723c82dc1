/- Arrays that lie in a block of their own, cell by cell. Nothing of the program is named here. -/
import Derived.Test.YtamdanpkkcdhbaaRq
import Derived.Deep.MidRow
import Derived.Laws.IdiomCopy
import Derived.Lib.Hide
set_option linter.unusedVariables false
set_option linter.unusedSimpArgs false
namespace Go.PF
open Go.RowKit

def Arr (w : World) (B : Nat) (cs : List Value) : Prop := ∀ j v, cs[j]? = some v → w.cell? ⟨B, j, none⟩ = some v ∧ w.frozen? ⟨B, j, none⟩ = false
theorem Arr.range {w : World} {B : Nat} {cs : List Value} (h : Arr w B cs) : w.rangeAt B 0 cs := fun j v hv => by rw [Nat.zero_add]; exact (h j v hv).1
theorem Arr.there {w : World} {B : Nat} {cs : List Value} (h : Arr w B cs) : w.there B 0 cs.length := fun j hj => by
  have := h j cs[j] (List.getElem?_eq_getElem hj)
  rw [Nat.zero_add, this.1]
  exact ⟨rfl, this.2⟩
theorem Arr.there' {w : World} {B : Nat} {cs : List Value} (h : Arr w B cs) {vs : Array Value} (hl : vs.size = cs.length) : w.there B 0 vs.size := by rw [hl]; exact h.there
theorem Arr.mods {F : Nat → Prop} {w w' : World} {B : Nat} {cs : List Value} (h : Arr w B cs) (hm : Mods F w w') (hn : ¬ F B) : Arr w' B cs :=
  fun j v hv => ⟨hm.cell (h j v hv).1 hn, hm.free (h j v hv).1 (h j v hv).2 hn⟩
theorem Arr.ext {w : World} {B : Nat} {cs : List Value} (h : Arr w B cs) (x : Ext w) : Arr x.w B cs := h.mods x.m id
theorem Arr.alloc {w : World} {B : Nat} {cs : List Value} (h : Arr w B cs) (o : Obj) : Arr (w.alloc o) B cs := h.mods ((Mods.refl No _).alloc o) id
theorem Arr.drew {w : World} {B : Nat} {cs : List Value} (h : Arr w B cs) : Arr w.drew B cs := h
theorem Arr.set {w : World} {B : Nat} {cs : List Value} (h : Arr w B cs) (i : Nat) (u : Value) : Arr (w.setCell ⟨B, i, none⟩ u) B (cs.set i u) := by
  intro j v hv
  rw [World.frozen?_setCell]
  rw [List.getElem?_set] at hv
  split at hv
  · rename_i e
    subst e
    split at hv
    · rename_i hl
      cases hv
      have := h i cs[i] (List.getElem?_eq_getElem hl)
      exact ⟨cell_eq w _ this.1, this.2⟩
    · cases hv
  · rename_i e
    exact ⟨(cell_ne w _ (.inr e)).trans (h j v hv).1, (h j v hv).2⟩
theorem Arr.far {w : World} {B : Nat} {cs : List Value} (h : Arr w B cs) (p : Addr) (hp : B ≠ p.block) (u : Value) : Arr (w.setCell p u) B cs :=
  h.mods (F := One p.block) ((Mods.refl (One p.block) _).setCell (.inl rfl) u) hp
theorem Arr.new (w : World) (cs : List Value) (T : TypeId) : Arr (w.alloc (.cells cs.toArray T)) w.heap.size cs := fun j v hv => by
  have h := heap_alloc_new w (.cells cs.toArray T)
  exact ⟨(heap_cell h j).trans (by rw [List.getElem?_toArray, hv]), heap_free h j⟩
theorem Arr.lt {w : World} {B : Nat} {cs : List Value} (h : Arr w B cs) (hp : 0 < cs.length) : B < w.heap.size :=
  World.block_lt_of_cell? w ⟨B, 0, none⟩ (h 0 cs[0] (List.getElem?_eq_getElem hp)).1
theorem mods_setCells {F : Nat → Prop} {a : World} (b : Nat) (hb : F b ∨ a.heap.size ≤ b) : ∀ (vs : List Value) (o : Nat) (c : World), Mods F a c → Mods F a (c.setCells b o vs)
  | [], o, c, h => h
  | v :: vs, o, c, h => mods_setCells b hb vs (o + 1) _ (h.setCell (p := ⟨b, o, none⟩) hb v)
theorem Arr.stored {w : World} {B : Nat} {cs : List Value} (h : Arr w B cs) (vs : List Value) (hl : vs.length = cs.length) : Arr (w.setCells B 0 vs) B vs := by
  have ht : w.there B 0 vs.length := by rw [hl]; exact h.there
  intro j v hv
  have h1 := World.rangeAt_setCells_same w B 0 vs ht j v hv
  rw [Nat.zero_add] at h1
  refine ⟨h1, ?_⟩
  have hj : j < cs.length := by rw [← hl]; exact (List.getElem?_eq_some_iff.1 hv).1
  rw [World.frozen?_setCells]
  exact (h j cs[j] (List.getElem?_eq_getElem hj)).2
/-- the first cells are written -/
theorem Arr.laid {w : World} {B : Nat} {cs : List Value} (h : Arr w B cs) (vs : List Value) (hl : vs.length ≤ cs.length) : Arr (w.setCells B 0 vs) B (vs ++ cs.drop vs.length) := by
  intro j v hv
  have hsome : ∀ j, j < vs.length → (w.cell? ⟨B, 0 + j, none⟩).isSome = true := fun j hj => by rw [Nat.zero_add, (h j cs[j] (List.getElem?_eq_getElem (by omega))).1]; rfl
  by_cases hj : j < vs.length
  · rw [List.getElem?_append_left hj] at hv
    have h1 := World.cell?_setCells_in B vs 0 w hsome j hj
    rw [Nat.zero_add] at h1
    refine ⟨by rw [h1, ← hv, List.getElem?_eq_getElem hj], ?_⟩
    rw [World.frozen?_setCells]
    exact (h j cs[j] (List.getElem?_eq_getElem (by omega))).2
  · rw [List.getElem?_append_right (by omega), List.getElem?_drop, show vs.length + (j - vs.length) = j by omega] at hv
    rw [World.cell?_setCells_out B vs 0 w _ (fun _ _ => .inr (by simp; omega)), World.frozen?_setCells]
    exact h j v hv
theorem Arr.farCells {w : World} {B : Nat} {cs : List Value} (h : Arr w B cs) (b : Nat) (hb : B ≠ b) (vs : List Value) : Arr (w.setCells b 0 vs) B cs :=
  h.mods (F := One b) (mods_setCells (F := One b) b (.inl rfl) vs 0 w (Mods.refl (One b) _)) hb

/-- an array that is read whole, in a drawn region -/
theorem quiet_load_row {P : Program} {C : World → Prop} {K : Act → Prop} {a : Act} {op : Oper} (ty : TypeId) (x : Operand) (ho : op.op = .load ty x)
    (b o : Nat) (hx : a.eval x = .pointer (some ⟨b, o, none⟩)) (cs : List Value) (d : TypeDesc) (hc : ∀ w, C w → w.rangeAt b o cs)
    (hu : P.underlying ty = some d) (hd : d.isRow = true) (hi : (P.info? ty).map (·.size) = some cs.length) (h : K (a.put op.dst (.agg cs.toArray))) : op.quiet P a C K :=
  ⟨_, fun w hw => by
    unfold Oper.quietAt execOp
    simp only [ho, hx, Instr.loadAt, Instr.sureAddr, Sem.run_bind, Sem.run_pure, Result.andThen_ok, run_loadVar_mid w b o ty cs d (hc w hw) hu hd hi]
    exact ⟨rfl, rfl⟩, h⟩

/-- a single result that lies in memory, in whatever way its variable is read -/
theorem results_cell1 {P : Program} {fn : Func} {t : Nat} {T : TypeId} {a : Array Value} {w : World} {p : Addr} {v : Value} (h : fn.results = #[.cell t T]) (hp : a.getD t undef = .pointer (some p)) (hl : (loadVar T p).run P w = .ok v w) : (results fn a).run P w = .ok v w := by
  simp [results, h, go_sem, Array.getD] at hp hl ⊢
  rw [hp]
  simpa [go_sem] using hl
end Go.PF
