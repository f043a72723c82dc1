/- Words on the machine's memory that all the proofs of this seat share: which blocks a call may have changed (Mods), and slices that are owned or read. No condition; nothing of the program is named here. -/
import Derived.WalkKit
import Derived.Maps.AppendAt
import Derived.Deep.QuietTactic
import Derived.BigQuiet
import Derived.WalkSpells
set_option linter.unusedVariables false
set_option linter.unusedSimpArgs false
namespace Go.PF
open Go.RowKit

/-- Of the blocks that are there in w only those of F may have turned in w'. -/
structure Mods (F : Nat → Prop) (w w' : World) : Prop where
  os : w'.os = w.os
  tape : w'.tape = w.tape
  output : w'.output = w.output
  size : w.heap.size ≤ w'.heap.size
  block : ∀ k, k < w.heap.size → ¬ F k → w'.heap[k]? = w.heap[k]?

def No : Nat → Prop := fun _ => False
def One (b : Nat) : Nat → Prop := fun k => k = b

theorem Mods.refl (F : Nat → Prop) (w : World) : Mods F w w := ⟨rfl, rfl, rfl, Nat.le_refl _, fun _ _ _ => rfl⟩
theorem Mods.trans {F G : Nat → Prop} {a b c : World} (h : Mods F a b) (k : Mods G b c) (hs : ∀ i, G i → F i ∨ a.heap.size ≤ i) : Mods F a c :=
  ⟨k.os.trans h.os, k.tape.trans h.tape, k.output.trans h.output, Nat.le_trans h.size k.size, fun i hi hn =>
    (k.block i (Nat.lt_of_lt_of_le hi h.size) (fun hg => (hs i hg).elim hn (fun hl => Nat.lt_irrefl _ (Nat.lt_of_lt_of_le hi hl)))).trans (h.block i hi hn)⟩
theorem Mods.mono {F G : Nat → Prop} {a b : World} (h : Mods F a b) (hs : ∀ i, F i → G i) : Mods G a b :=
  ⟨h.os, h.tape, h.output, h.size, fun i hi hn => h.block i hi (fun hf => hn (hs i hf))⟩
theorem Mods.drew {F : Nat → Prop} {a b : World} (h : Mods F a b) : Mods F a b.drew := ⟨h.os, h.tape, h.output, h.size, h.block⟩
theorem Mods.undrew {F : Nat → Prop} {a b : World} (h : Mods F a.drew b) : Mods F a b := ⟨h.os, h.tape, h.output, h.size, h.block⟩
theorem Mods.no {F : Nat → Prop} {a b c : World} (h : Mods F a b) (k : Mods No b c) : Mods F a c := h.trans k (fun _ h => h.elim)
theorem Mods.drewN {F : Nat → Prop} {a b : World} (h : Mods F a b) (n : Nat) : Mods F a (b.drewN n) := ⟨h.os, h.tape, h.output, h.size, h.block⟩
theorem Mods.alloc {F : Nat → Prop} {a b : World} (h : Mods F a b) (o : Obj) : Mods F a (b.alloc o) :=
  h.trans (G := No) ⟨rfl, rfl, rfl, by simp, fun k hk _ => Below.heap_alloc _ _ _ hk⟩ (fun _ h => h.elim)
theorem Mods.setCell {F : Nat → Prop} {a b : World} (h : Mods F a b) {p : Addr} (hp : F p.block ∨ a.heap.size ≤ p.block) (u : Value) : Mods F a (b.setCell p u) :=
  h.trans (G := One p.block) ⟨rfl, rfl, rfl, by simp [World.setCell], fun k _ hn => Below.heap_setCell _ _ _ _ hn⟩ (fun i hi => by cases hi; exact hp)
theorem Mods.grown {F : Nat → Prop} {a b c : World} {row : Option Nat} (h : Mods F a b) (hg : b.grownBy c row) (hr : ∀ k, row = some k → F k ∨ a.heap.size ≤ k) : Mods F a c :=
  h.trans (G := fun k => row = some k) ⟨hg.os, hg.tape, hg.output, hg.size, fun k hk hn => hg.block k hk (fun e => hn e.symm)⟩ hr
theorem Mods.below {F : Nat → Prop} {a b c : World} (h : Mods F a b) (hb : Below b.heap.size b c) : Mods F a c :=
  h.trans (G := No) ⟨hb.os, hb.tape, hb.output, hb.size, fun k hk _ => hb.block k hk⟩ (fun _ h => h.elim)
theorem Mods.of_below {w w' : World} (h : Below w.heap.size w w') (F : Nat → Prop) : Mods F w w' := ⟨h.os, h.tape, h.output, h.size, fun k hk _ => h.block k hk⟩
theorem Mods.toBelow {F : Nat → Prop} {B : Nat} {w w' : World} (h : Mods F w w') (hF : ∀ k, F k → B ≤ k) (hB : B ≤ w.heap.size) : Below B w w' :=
  ⟨h.os, h.tape, h.output, h.size, fun k hk => h.block k (Nat.lt_of_lt_of_le hk hB) (fun hf => Nat.lt_irrefl _ (Nat.lt_of_lt_of_le hk (hF k hf)))⟩
theorem Mods.heap {F : Nat → Prop} {w w' : World} (h : Mods F w w') {k : Nat} {o : Obj} (hk : w.heap[k]? = some o) (hn : ¬ F k) : w'.heap[k]? = some o :=
  (h.block k (Array.getElem?_eq_some_iff.1 hk).1 hn).trans hk
theorem Mods.cell {F : Nat → Prop} {w w' : World} (h : Mods F w w') {p : Addr} {v : Value} (hv : w.cell? p = some v) (hn : ¬ F p.block) : w'.cell? p = some v :=
  (World.cell?_of_block (h.block _ (World.block_lt_of_cell? w p hv) hn)).trans hv

theorem Mods.free {F : Nat → Prop} {w w' : World} (h : Mods F w w') {p : Addr} {v : Value} (hv : w.cell? p = some v) (hf : w.frozen? p = false) (hn : ¬ F p.block) : w'.frozen? p = false :=
  (World.frozen?_of_block (h.block _ (World.block_lt_of_cell? w p hv) hn)).trans hf

/-! blocks -/
theorem heap_lt {w : World} {k : Nat} {o : Obj} (h : w.heap[k]? = some o) : k < w.heap.size := (Array.getElem?_eq_some_iff.1 h).1
theorem heap_ne {w : World} {b g : Nat} {cs ds : Array Value} {T U : TypeId} {f f' : Nat × Nat} (h : w.heap[b]? = some (.cells cs T f)) (k : w.heap[g]? = some (.cells ds U f')) (hT : T ≠ U) : b ≠ g := by
  intro e
  subst e
  rw [h] at k
  injection k with k
  injection k with _ k2
  exact hT k2
theorem heap_set {w : World} {b i : Nat} {cs : Array Value} {T : TypeId} {fr : Nat × Nat} (h : w.heap[b]? = some (.cells cs T fr)) (v : Value) : (w.setCell ⟨b, i, none⟩ v).heap[b]? = some (.cells (cs.setIfInBounds i v) T fr) := by
  have := heap_lt h
  simp only [World.setCell, Array.getElem?_modify, if_pos rfl, h, Option.map_some]
  rfl
theorem heap_far {w : World} {b : Nat} {o : Obj} {p : Addr} (h : w.heap[b]? = some o) (hn : b ≠ p.block) (v : Value) : (w.setCell p v).heap[b]? = some o := by rw [Below.heap_setCell _ _ _ _ hn]; exact h
theorem heap_old {w : World} {b : Nat} {o : Obj} (h : w.heap[b]? = some o) (o' : Obj) : (w.alloc o').heap[b]? = some o := by rw [Below.heap_alloc _ _ _ (heap_lt h)]; exact h
theorem heap_cell {w : World} {b : Nat} {cs : Array Value} {T : TypeId} {fr : Nat × Nat} (h : w.heap[b]? = some (.cells cs T fr)) (i : Nat) : w.cell? ⟨b, i, none⟩ = cs[i]? := cell_of_row w b i cs T fr h
theorem heap_free {w : World} {b : Nat} {cs : Array Value} {T : TypeId} (h : w.heap[b]? = some (.cells cs T (0, 0))) (i : Nat) : w.frozen? ⟨b, i, none⟩ = false := frozen_of_row w b i cs T h

theorem cell_ne (w : World) {b i c j : Nat} (v : Value) (h : b ≠ c ∨ i ≠ j) : (w.setCell ⟨b, i, none⟩ v).cell? ⟨c, j, none⟩ = w.cell? ⟨c, j, none⟩ :=
  World.cell?_setCell_other w (a := ⟨b, i, none⟩) (b := ⟨c, j, none⟩) (v := v) (fun e => by injection e with e1 e2 _; exact h.elim (fun h => h e1) (fun h => h e2))
theorem cell_eq (w : World) {b i : Nat} {u : Value} (v : Value) (h : w.cell? ⟨b, i, none⟩ = some u) : (w.setCell ⟨b, i, none⟩ v).cell? ⟨b, i, none⟩ = some v := World.cell?_setCell_same' w _ _ (by rw [h]; rfl)

/-! rows that are owned: the kit's 'ownsRow' from block 0 on -/
def Own (w : World) (e k : Nat) (v : Value) (n : Nat) (xs : List Value) : Prop := w.ownsRow 0 e k v n xs
theorem Own.nil (w : World) (e k : Nat) : Own w e k (.slice none 0 0) 0 [] := World.ownsRow_nil w 0 e k
theorem Own.of {w : World} {B e k : Nat} {v : Value} {n : Nat} {xs : List Value} (h : w.ownsRow B e k v n xs) : Own w e k v n xs := by
  refine ⟨h.1, ?_⟩
  rcases h.2 with h2 | ⟨g, cap, cur, rfl, _, r⟩
  · exact .inl h2
  · exact .inr ⟨g, cap, cur, rfl, Nat.zero_le _, r⟩
theorem Own.mods {F : Nat → Prop} {w w' : World} {e k : Nat} {v : Value} {n : Nat} {xs : List Value} (h : Own w e k v n xs) (hm : Mods F w w') (hn : ∀ g, v.ownBlock = some g → ¬ F g) : Own w' e k v n xs := by
  refine ⟨h.1, ?_⟩
  rcases h.2 with h2 | ⟨g, cap, cur, rfl, hb, hg, r⟩
  · exact .inl h2
  · exact .inr ⟨g, cap, cur, rfl, hb, hm.heap hg (hn g rfl), r⟩
theorem Own.block {w : World} {e k : Nat} {v : Value} {n : Nat} {xs : List Value} (h : Own w e k v n xs) {g : Nat} (hg : v.ownBlock = some g) : ∃ cur, w.heap[g]? = some (.cells cur e (0, 0)) := by
  rcases h.2 with ⟨rfl, _⟩ | ⟨g', cap, cur, rfl, _, hh, _⟩
  · simp [Value.ownBlock] at hg
  · simp [Value.ownBlock] at hg
    subst hg
    exact ⟨cur, hh⟩
theorem Own.lt {w : World} {e k : Nat} {v : Value} {n : Nat} {xs : List Value} (h : Own w e k v n xs) {g : Nat} (hg : v.ownBlock = some g) : g < w.heap.size := by
  obtain ⟨_, hh⟩ := h.block hg
  exact heap_lt hh
theorem Own.ne {w : World} {e k : Nat} {v : Value} {n : Nat} {xs : List Value} (h : Own w e k v n xs) {b : Nat} {cs : Array Value} {T : TypeId} {f : Nat × Nat} (hb : w.heap[b]? = some (.cells cs T f)) (hT : T ≠ e) : ∀ g, v.ownBlock = some g → g ≠ b := by
  intro g hg
  obtain ⟨_, hh⟩ := h.block hg
  exact fun e => heap_ne hb hh hT e.symm
theorem Own.ne' {w : World} {e k e' k' : Nat} {v v' : Value} {n n' : Nat} {xs xs' : List Value} (h : Own w e k v n xs) (h' : Own w e' k' v' n' xs') (hT : e ≠ e') : ∀ g, v.ownBlock = some g → v'.ownBlock ≠ some g := by
  intro g hg hg'
  obtain ⟨_, hh⟩ := h.block hg
  obtain ⟨_, hh'⟩ := h'.block hg'
  exact heap_ne hh hh' hT rfl
theorem Own.len {w : World} {e k : Nat} {v : Value} {n : Nat} {xs : List Value} (h : Own w e k v n xs) : xs.length = n * k := h.1
theorem Own.shape {w : World} {e k : Nat} {v : Value} {n : Nat} {xs : List Value} (h : Own w e k v n xs) : ∃ A c, v = .slice A n c ∧ n ≤ c ∧ c ≤ 9223372036854775807 ∧ (0 < n → ∃ g, A = some ⟨g, 0, none⟩) := by
  rcases h.2 with ⟨rfl, rfl⟩ | ⟨g, cap, cur, rfl, _, _, h1, h2, _⟩
  · exact ⟨none, 0, rfl, Nat.le_refl _, by omega, fun h => absurd h (by omega)⟩
  · exact ⟨_, cap, rfl, h1, by simpa [maxLen] using h2, fun _ => ⟨g, rfl⟩⟩
theorem Own.cell {w : World} {e k : Nat} {g n c : Nat} {xs : List Value} (h : Own w e k (.slice (some ⟨g, 0, none⟩) n c) n xs) {j : Nat} {u : Value} (hu : xs[j]? = some u) : w.cell? ⟨g, j, none⟩ = some u := by
  have hj : j < n * k := by rw [← h.1]; exact (List.getElem?_eq_some_iff.1 hu).1
  rw [World.ownsRow.cellAt h j hj, hu]
theorem Own.free {w : World} {e k : Nat} {g n c : Nat} {xs : List Value} (h : Own w e k (.slice (some ⟨g, 0, none⟩) n c) n xs) (j : Nat) : w.frozen? ⟨g, j, none⟩ = false := World.ownsRow.frozenAt h j
theorem Own.set {w : World} {e k : Nat} {g n c : Nat} {xs : List Value} (h : Own w e k (.slice (some ⟨g, 0, none⟩) n c) n xs) (j : Nat) (u : Value) : Own (w.setCell ⟨g, j, none⟩ u) e k (.slice (some ⟨g, 0, none⟩) n c) n (xs.set j u) := (World.ownsRow.stored h j u).1
theorem Own.alloc {w : World} {e k : Nat} {v : Value} {n : Nat} {xs : List Value} (h : Own w e k v n xs) (o : Obj) : Own (w.alloc o) e k v n xs := World.ownsRow.alloc h o
theorem Own.drew {w : World} {e k : Nat} {v : Value} {n : Nat} {xs : List Value} (h : Own w e k v n xs) : Own w.drew e k v n xs := h

/-! slices that are read -/
def Sl (w : World) (k : Nat) (A : Option Addr) (n : Nat) (xs : List Value) : Prop :=
  xs.length = n * k ∧ n ≤ 9223372036854775807 ∧ (0 < n → ∃ g o, A = some ⟨g, o, none⟩ ∧ ∀ j u, xs[j]? = some u → w.cell? ⟨g, o + j, none⟩ = some u)
theorem Own.sl {w : World} {e k : Nat} {v : Value} {n : Nat} {xs : List Value} (h : Own w e k v n xs) : ∃ A c, v = .slice A n c ∧ n ≤ c ∧ c ≤ 9223372036854775807 ∧ Sl w k A n xs ∧ (∀ g, (∃ o s, A = some ⟨g, o, s⟩) → v.ownBlock = some g) := by
  obtain ⟨A, c, rfl, h1, h2, h3⟩ := h.shape
  refine ⟨A, c, rfl, h1, h2, ⟨h.1, Nat.le_trans h1 h2, fun hp => ?_⟩, fun g hg => ?_⟩
  · obtain ⟨g, rfl⟩ := h3 hp
    exact ⟨g, 0, rfl, fun j u hu => by rw [Nat.zero_add]; exact h.cell hu⟩
  · obtain ⟨o, s, rfl⟩ := hg
    rfl
theorem Sl.mods {F : Nat → Prop} {w w' : World} {k : Nat} {A : Option Addr} {n : Nat} {xs : List Value} (h : Sl w k A n xs) (hm : Mods F w w') (hn : ∀ g o, A = some ⟨g, o, none⟩ → ¬ F g) : Sl w' k A n xs := by
  refine ⟨h.1, h.2.1, fun hp => ?_⟩
  obtain ⟨g, o, rfl, hc⟩ := h.2.2 hp
  exact ⟨g, o, rfl, fun j u hu => hm.cell (hc j u hu) (hn _ _ rfl)⟩

theorem flat_get {α : Type} (f : α → List Value) (m : Nat) (hf : ∀ x, (f x).length = m) : ∀ (l : List α) (i j : Nat), j < m → (l.flatMap f)[i * m + j]? = (l[i]?).bind fun x => (f x)[j]?
  | [], i, j, _ => by simp
  | x :: r, 0, j, hj => by
    simp only [List.flatMap_cons, Nat.zero_mul, Nat.zero_add, List.getElem?_cons_zero, Option.bind_some]
    rw [List.getElem?_append_left (by rw [hf]; exact hj)]
  | x :: r, i + 1, j, hj => by
    simp only [List.flatMap_cons, List.getElem?_cons_succ]
    rw [List.getElem?_append_right (by rw [hf, Nat.succ_mul]; omega), hf, show (i + 1) * m + j - m = i * m + j by rw [Nat.succ_mul]; omega]
    exact flat_get f m hf r i j hj
theorem map_get {α : Type} {f : α → Value} {l : List α} {i : Nat} {x : α} (h : l[i]? = some x) : (l.map f)[i]? = some (f x) := by rw [List.getElem?_map, h]; rfl
theorem some_at {α : Type} {l : List α} {i : Nat} (h : i < l.length) : ∃ x, l[i]? = some x := ⟨l[i], List.getElem?_eq_getElem h⟩
theorem take_succ_of {α : Type} {l : List α} {i : Nat} {x : α} (h : l[i]? = some x) : l.take (i + 1) = l.take i ++ [x] := by rw [List.take_add_one, h]; rfl

theorem madeCells1 (z : Value) (n : Nat) : madeCells #[z] n = (List.replicate n z).toArray := by
  apply Array.ext
  · simp [madeCells]
  · intro i h1 h2
    simp [madeCells, Nat.mod_one]

/-! numbers -/
theorem w64 {n : Int} (h0 : -9223372036854775808 ≤ n) (h1 : n < 9223372036854775808) : IntKind.i64.wrap n = n := by rw [IntKind.wrap_i64]; omega
end Go.PF
