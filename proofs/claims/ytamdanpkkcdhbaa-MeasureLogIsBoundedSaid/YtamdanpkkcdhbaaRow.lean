/- Slices that may be appended to, whatever block they lie in (a conversion's too): what their elements are, and that the cells up to the capacity may be written. Nothing of the program is named here. -/
import Derived.Test.YtamdanpkkcdhbaaArr
import Derived.Test.YtamdanpkkcdhbaaBase2
import Derived.ArgAppend
set_option linter.unusedVariables false
set_option linter.unusedSimpArgs false
namespace Go.PF
open Go.RowKit

def Row (w : World) (k : Nat) (v : Value) (n : Nat) (xs : List Value) : Prop :=
  xs.length = n * k ∧ ((v = .slice none 0 0 ∧ n = 0) ∨ ∃ g cap, v = .slice (some ⟨g, 0, none⟩) n cap ∧ n ≤ cap ∧ cap ≤ maxLen ∧
    (∀ j u, xs[j]? = some u → w.cell? ⟨g, j, none⟩ = some u) ∧ ∀ j, j < cap * k → (w.cell? ⟨g, j, none⟩).isSome = true ∧ w.frozen? ⟨g, j, none⟩ = false)

theorem Row.nil (w : World) (k : Nat) : Row w k (.slice none 0 0) 0 [] := ⟨by simp, .inl ⟨rfl, rfl⟩⟩
theorem Row.of {w : World} {B e k n : Nat} {v : Value} {xs : List Value} (h : w.ownsRow B e k v n xs) : Row w k v n xs := by
  refine ⟨h.1, ?_⟩
  rcases h.2 with h2 | ⟨g, cap, cur, rfl, hb, hg, h1, h2, h3, h4⟩
  · exact .inl h2
  · refine .inr ⟨g, cap, rfl, h1, h2, fun j u hu => ?_, fun j hj => ⟨?_, heap_free hg j⟩⟩
    · rw [heap_cell hg]
      rw [← h4, List.getElem?_take] at hu
      split at hu
      · simpa using hu
      · cases hu
    · rw [heap_cell hg, Array.getElem?_eq_getElem (by rw [h3]; exact hj)]; rfl
theorem Row.mods {F : Nat → Prop} {w w' : World} {k n : Nat} {v : Value} {xs : List Value} (h : Row w k v n xs) (hm : Mods F w w') (hn : ∀ g, v.ownBlock = some g → ¬ F g) : Row w' k v n xs := by
  refine ⟨h.1, ?_⟩
  rcases h.2 with h2 | ⟨g, cap, rfl, h1, h2, h3, h4⟩
  · exact .inl h2
  · refine .inr ⟨g, cap, rfl, h1, h2, fun j u hu => hm.cell (h3 j u hu) (hn g rfl), fun j hj => ?_⟩
    obtain ⟨h5, h6⟩ := h4 j hj
    obtain ⟨u, hu⟩ := Option.isSome_iff_exists.1 h5
    exact ⟨by rw [hm.cell hu (hn g rfl)]; rfl, hm.free hu h6 (hn g rfl)⟩
theorem Row.no {w w' : World} {k n : Nat} {v : Value} {xs : List Value} (h : Row w k v n xs) (hm : Mods No w w') : Row w' k v n xs := h.mods hm (fun _ _ h => h)
theorem Row.alloc {w : World} {k n : Nat} {v : Value} {xs : List Value} (h : Row w k v n xs) (o : Obj) : Row (w.alloc o) k v n xs := h.no ((Mods.refl No _).alloc o)
theorem Row.shape {w : World} {k n : Nat} {v : Value} {xs : List Value} (h : Row w k v n xs) : ∃ A c, v = .slice A n c ∧ n ≤ c ∧ c ≤ 9223372036854775807 ∧ (0 < n → ∃ g, A = some ⟨g, 0, none⟩) := by
  rcases h.2 with ⟨rfl, rfl⟩ | ⟨g, cap, rfl, h1, h2, _⟩
  · exact ⟨none, 0, rfl, Nat.le_refl _, by omega, fun h => absurd h (by omega)⟩
  · exact ⟨_, cap, rfl, h1, by simpa [maxLen] using h2, fun _ => ⟨g, rfl⟩⟩
theorem Row.cell {w : World} {k n g c : Nat} {xs : List Value} (h : Row w k (.slice (some ⟨g, 0, none⟩) n c) n xs) {j : Nat} {u : Value} (hu : xs[j]? = some u) : w.cell? ⟨g, j, none⟩ = some u := by
  rcases h.2 with ⟨h2, _⟩ | ⟨g', cap, h0, h1, h2, h3, h4⟩
  · cases h2
  · cases h0
    exact h3 j u hu
theorem Row.free {w : World} {k n g c : Nat} {xs : List Value} (h : Row w k (.slice (some ⟨g, 0, none⟩) n c) n xs) {j : Nat} (hj : j < n * k) : w.frozen? ⟨g, j, none⟩ = false := by
  rcases h.2 with ⟨h2, _⟩ | ⟨g', cap, h0, h1, h2, h3, h4⟩
  · cases h2
  · cases h0
    exact (h4 j (Nat.lt_of_lt_of_le hj (Nat.mul_le_mul_right _ h1))).2
theorem Row.lt {w : World} {k n : Nat} {v : Value} {xs : List Value} (h : Row w k v n xs) (hp : 0 < xs.length) : ∀ g, v.ownBlock = some g → g < w.heap.size := by
  intro g hg
  rcases h.2 with ⟨rfl, _⟩ | ⟨g', cap, rfl, h1, h2, h3, h4⟩
  · simp [Value.ownBlock] at hg
  · simp [Value.ownBlock] at hg
    subst hg
    exact World.block_lt_of_cell? w ⟨g', 0, none⟩ (h3 0 xs[0] (List.getElem?_eq_getElem hp))
theorem Row.sl {w : World} {k n g c : Nat} {xs : List Value} (h : Row w k (.slice (some ⟨g, 0, none⟩) n c) n xs) (hn : n ≤ 9223372036854775807) : Sl w k (some ⟨g, 0, none⟩) n xs :=
  ⟨h.1, hn, fun _ => ⟨g, 0, rfl, fun j u hu => by rw [Nat.zero_add]; exact h.cell hu⟩⟩
theorem Row.set {w : World} {k n g c : Nat} {xs : List Value} (h : Row w k (.slice (some ⟨g, 0, none⟩) n c) n xs) (i : Nat) (u : Value) : Row (w.setCell ⟨g, i, none⟩ u) k (.slice (some ⟨g, 0, none⟩) n c) n (xs.set i u) := by
  refine ⟨by rw [List.length_set]; exact h.1, ?_⟩
  rcases h.2 with ⟨h2, _⟩ | ⟨g', cap, h0, h1, h2, h3, h4⟩
  · cases h2
  · cases h0
    refine .inr ⟨g, c, rfl, h1, h2, fun j v hv => ?_, fun j hj => ?_⟩
    · rw [List.getElem?_set] at hv
      split at hv
      · rename_i e
        subst e
        split at hv
        · rename_i hl
          cases hv
          exact cell_eq w _ (h3 i xs[i] (List.getElem?_eq_getElem hl))
        · cases hv
      · rename_i e
        exact (cell_ne w _ (.inr e)).trans (h3 j v hv)
    · obtain ⟨h5, h6⟩ := h4 j hj
      obtain ⟨v, hv⟩ := Option.isSome_iff_exists.1 h5
      obtain ⟨v', hv'⟩ := cell?_setCell_some (w := w) (p := ⟨g, i, none⟩) (x := u) (q := ⟨g, j, none⟩) (v := v) hv
      exact ⟨by rw [hv']; rfl, by rw [World.frozen?_setCell]; exact h6⟩

/-- '[]byte(s)' -/
theorem Row.conv (w : World) (e : TypeId) (s : ByteArray) (hs : s.size ≤ 140737488355328) :
    Row (Lib.bytesWorld w e s) 1 (.slice (some ⟨w.heap.size, 0, none⟩) s.size (grownCap w s.size 0 e)) s.size (s.data.toList.map fun b => Value.int .u8 b.toNat) := by
  have hge := grownCap_ge w s.size 0 e
  have hat := Lib.bytesWorld_at_new w e s
  refine ⟨by simp, .inr ⟨_, _, rfl, hge, grownCap_le_maxLen w s.size 0 e (by unfold maxLen; omega), fun j u hu => ?_, fun j hj => ?_⟩⟩
  · have hj : j < s.size := by simpa using (List.getElem?_eq_some_iff.1 hu).1
    rw [Lib.bytesWorld_cell w e s j hj, ← hu]
    have hj' : j < s.data.toList.length := by simpa using hj
    simp [List.getD, List.getElem?_eq_getElem hj']
  · have hc : grownCap w s.size 0 e ≤ (Lib.bytesCells w e s).size := by simp [Lib.bytesCells]; omega
    refine ⟨?_, ?_⟩
    · simp only [World.cell?, hat]
      rw [Nat.mul_one] at hj
      have : j < (Lib.bytesCells w e s).size := by omega
      simp [this]
    · simp only [World.frozen?, hat]
      simp
      omega
theorem mods_conv (w : World) (e : TypeId) (s : ByteArray) : Mods No w (Lib.bytesWorld w e s) :=
  ⟨rfl, rfl, rfl, by rw [Lib.bytesWorld_size]; omega, fun k hk _ => Lib.bytesWorld_at_old w e s k hk⟩

theorem Row.grown {w w' : World} {B e k n : Nat} {v : Value} {xs : List Value} (h : w'.ownsRow B e k v n xs) : Row w' k v n xs := Row.of h

/-- append, for the walk -/
theorem wpList_append_row {P : Program} {ops : Array Oper} {rest : List Oper} {o : Oper} {a : Act} {w : World} {Q : Exit → Act → World → Prop}
    (hg : o.guard = none) (s x : Operand) (t : TypeId) (hop : o.op = Op.call { callee := Callee.builtin Builtin.append, args := #[s, x], argTypes := #[t, t] })
    (e : TypeId) (i : TypeInfo) (z : Value) (size bytes : Nat) (h1 : P.underlying t = some (.slice e)) (h2 : P.info? e = some i) (h3 : i.zero = some z) (h4 : i.size = size) (h5 : i.bytes = bytes) (h6 : z.cells.size = size) (h7 : 0 < size)
    (v : Value) (n : Nat) (xs : List Value) (hs : a.eval s = v) (hr : Row w size v n xs)
    (ad : Addr) (m c : Nat) (news : List Value) (hx : a.eval x = .slice (some ad) m c) (hn : news.length = m * size) (hc : ∀ j u, news[j]? = some u → w.cell? (ad.add j) = some u) (h1c : ∀ u ∈ news, u.oneCell' = true)
    (b1 : n + m ≤ maxLen) (b2 : (n + m) * bytes ≤ 140737488355328)
    (hK : ∀ v' w', Row w' size v' (n + m) (xs ++ news) → Mods (fun k => v.ownBlock = some k) w w' → (v'.ownBlock = v.ownBlock ∨ ∃ g, v'.ownBlock = some g ∧ w.heap.size ≤ g) → wpList P ops Q rest (a.put o.dst v') w') :
    wpList P ops Q (o :: rest) a w := by
  have ownNew : ∀ {w' : World} {v' : Value} {ys : List Value}, w'.ownsRow w.heap.size e size v' (n + m) ys → (v'.ownBlock = v.ownBlock ∨ ∃ g, v'.ownBlock = some g ∧ w.heap.size ≤ g) ∨ v' = .slice none 0 0 := by
    intro w' v' ys h
    rcases h.2 with ⟨rfl, _⟩ | ⟨g, cap, cur, rfl, hb, _⟩
    · exact .inr rfl
    · exact .inl (.inr ⟨g, rfl, hb⟩)
  rcases hr.2 with ⟨rfl, rfl⟩ | ⟨g, cap, rfl, g1, g2, g3, g4⟩
  · have hx0 : xs = [] := List.eq_nil_of_length_eq_zero (by simpa using hr.1)
    subst hx0
    refine wpList_append_own w hg s x t hop w.heap.size e i z size bytes h1 h2 h3 h4 h5 h6 h7 (.slice none 0 0) 0 [] hs (World.ownsRow_nil w _ e size) ad m c news hx hn hc h1c b1 b2 (Nat.le_refl _) (fun v' w' r1 r2 r3 => ?_)
    refine hK v' w' (Row.of r1) ((Mods.refl _ w).grown r2 (fun k hk => by simp [Value.ownBlock] at hk)) ?_
    rcases ownNew r1 with h | h
    · exact h
    · subst h; exact .inl rfl
  · refine wpList_append_arg w hg s x t hop e i z size bytes h1 h2 h3 h4 h5 h6 h7 g 0 n cap xs hs hr.1 (fun j u hu => by rw [Nat.zero_add]; exact g3 j u hu) ad m c news hx hn hc h1c (fun hroom j hj => ?_) b1 b2 (fun hroom => ?_) (fun hgrow v' w' r1 r2 => ?_)
    · have hlt : 0 + n * size + j < cap * size := by
        rw [hn] at hj
        have := Nat.mul_le_mul_right size hroom
        rw [Nat.add_mul] at this
        omega
      exact g4 _ hlt
    · have hsome : ∀ j, j < news.length → (w.cell? ⟨g, 0 + n * size + j, none⟩).isSome = true := fun j hj => (g4 _ (by
        rw [hn] at hj
        have := Nat.mul_le_mul_right size hroom
        rw [Nat.add_mul] at this
        omega)).1
      refine hK _ _ ⟨by rw [List.length_append, hr.1, hn, Nat.add_mul], .inr ⟨g, cap, rfl, hroom, g2, fun j u hu => ?_, fun j hj => ?_⟩⟩ (mods_setCells (F := fun k => (Value.slice (some ⟨g, 0, none⟩) n cap).ownBlock = some k) g (.inl rfl) _ _ _ (Mods.refl _ _)) (.inl rfl)
      · by_cases hlt : j < n * size
        · rw [List.getElem?_append_left (by rw [hr.1]; exact hlt)] at hu
          rw [World.cell?_setCells_out g news _ w _ (fun _ _ => .inl (by simpa using hlt))]
          exact g3 j u hu
        · rw [List.getElem?_append_right (by rw [hr.1]; omega), hr.1] at hu
          have hjl := (List.getElem?_eq_some_iff.1 hu).1
          have := World.cell?_setCells_in g news (0 + n * size) w hsome (j - n * size) hjl
          rw [show 0 + n * size + (j - n * size) = j by omega] at this
          rw [this, ← hu, List.getElem?_eq_getElem hjl]
      · obtain ⟨g5, g6⟩ := g4 j hj
        refine ⟨?_, by rw [World.frozen?_setCells]; exact g6⟩
        by_cases hin : n * size ≤ j ∧ j < n * size + news.length
        · have := World.cell?_setCells_in g news (0 + n * size) w hsome (j - n * size) (by omega)
          rw [show 0 + n * size + (j - n * size) = j by omega] at this
          rw [this]
          rfl
        · rw [World.cell?_setCells_out g news _ w _ (fun _ _ => by simp; omega)]
          exact g5
    · refine hK v' w' (Row.of r1) ((Mods.refl _ w).grown r2 (fun k hk => by cases hk)) ?_
      rcases ownNew r1 with h | h
      · exact h
      · subst h
        have := hr.2
        rcases r1.2 with ⟨_, h0⟩ | ⟨g', cap', cur', h0, _⟩
        · omega
        · cases h0
/-- one element, out of a block of its own -/
theorem wpList_append_one {P : Program} {ops : Array Oper} {rest : List Oper} {o : Oper} {a : Act} {w : World} {Q : Exit → Act → World → Prop}
    (hg : o.guard = none) (s x : Operand) (t : TypeId) (hop : o.op = Op.call { callee := Callee.builtin Builtin.append, args := #[s, x], argTypes := #[t, t] })
    (e : TypeId) (i : TypeInfo) (z : Value) (bytes : Nat) (h1 : P.underlying t = some (.slice e)) (h2 : P.info? e = some i) (h3 : i.zero = some z) (h4 : i.size = 1) (h5 : i.bytes = bytes) (h6 : z.cells.size = 1)
    (v : Value) (n : Nat) (xs : List Value) (hs : a.eval s = v) (hr : Row w 1 v n xs) (b c : Nat) (u : Value) (hx : a.eval x = .slice (some ⟨b, 0, none⟩) 1 c) (hc : w.cell? ⟨b, 0, none⟩ = some u) (hu : u.oneCell' = true)
    (b1 : n + 1 ≤ maxLen) (b2 : (n + 1) * bytes ≤ 140737488355328)
    (hK : ∀ v' w', Row w' 1 v' (n + 1) (xs ++ [u]) → Mods (fun k => v.ownBlock = some k) w w' → (v'.ownBlock = v.ownBlock ∨ ∃ g, v'.ownBlock = some g ∧ w.heap.size ≤ g) → wpList P ops Q rest (a.put o.dst v') w') :
    wpList P ops Q (o :: rest) a w :=
  wpList_append_row hg s x t hop e i z 1 bytes h1 h2 h3 h4 h5 h6 (by decide) v n xs hs hr ⟨b, 0, none⟩ 1 c [u] hx rfl (fun j v hj => by
    match j, hj with
    | 0, hj =>
      simp at hj
      subst hj
      simpa [Addr.add] using hc) (fun v hv => by simp at hv; subst hv; exact hu) b1 b2 hK
theorem Row.bytes {P : Program} {w : World} {g n c : Nat} {zs : List Int} (h : Row w 1 (.slice (some ⟨g, 0, none⟩) n c) n (zs.map (Value.int .u8))) (src e dst : TypeId) (hs : P.underlying src = some (.slice e)) (he : P.underlying e = some (.int .u8)) (hd : P.underlying dst = some .string) :
    (convert src dst (.slice (some ⟨g, 0, none⟩) n c)).run P w = .ok (.string (strOfNums zs)) w := by
  have hl : zs.length = n := by simpa using h.1
  refine run_convert_bytes_arg (P := P) w src e hs he g 0 n c zs hl (fun i hi => ?_) dst hd
  rw [Nat.zero_add]
  exact h.cell (by rw [List.getElem?_map, List.getElem?_eq_getElem (by omega)]; simp [List.getD, List.getElem?_eq_getElem (show i < zs.length by omega)])
end Go.PF
