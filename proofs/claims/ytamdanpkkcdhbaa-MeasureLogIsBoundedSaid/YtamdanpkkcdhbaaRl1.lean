/- The reference's log: New, Measure. -/
import Derived.Test.YtamdanpkkcdhbaaAm2
import Derived.Test.YtamdanpkkcdhbaaRs
set_option linter.unusedVariables false
set_option linter.unusedSimpArgs false
namespace Go.Proofs.Ytamdanpkkcdhbaa
open Go.RowKit Go.PF

/-- the reference's log at block b: its events' slice -/
structure RefAt (w : World) (b : Nat) (v : Value) (evs : List Ev) : Prop where
  good : ∀ e ∈ evs, Ev.Ok e
  cell : w.cell? ⟨b, 0, none⟩ = some v
  free : w.frozen? ⟨b, 0, none⟩ = false
  row : Row w 34 v evs.length (evs.flatMap evV)
  ne : v.ownBlock ≠ some b
  low : ∀ q, v.ownBlock = some q → q < w.heap.size
theorem RefAt.mods {F : Nat → Prop} {w w' : World} {b : Nat} {v : Value} {evs : List Ev} (h : RefAt w b v evs) (hm : Mods F w w') (hn : ∀ q, Foot b v q → ¬ F q) : RefAt w' b v evs :=
  ⟨h.good, hm.cell h.cell (hn b (.inl rfl)), hm.free h.cell h.free (hn b (.inl rfl)), h.row.mods hm (fun g hg => hn g (.inr hg)), h.ne, fun q hq => Nat.lt_of_lt_of_le (h.low q hq) hm.size⟩
theorem RefAt.no {w w' : World} {b : Nat} {v : Value} {evs : List Ev} (h : RefAt w b v evs) (hm : Mods No w w') : RefAt w' b v evs := h.mods hm (fun _ _ h => h)
theorem RefAt.lt {w : World} {b : Nat} {v : Value} {evs : List Ev} (h : RefAt w b v evs) : b < w.heap.size := World.block_lt_of_cell? w ⟨b, 0, none⟩ h.cell
theorem RefAt.push {w w4 : World} {b : Nat} {v : Value} {evs : List Ev} (h : RefAt w b v evs) (ev : Ev) (hok : Ev.Ok ev) (v' : Value) (hr : Row w4 34 v' (evs.length + 1) (evs.flatMap evV ++ evV ev))
    (hm : Mods (fun k => v.ownBlock = some k) w w4) (hb : v'.ownBlock = v.ownBlock ∨ ∃ g, v'.ownBlock = some g ∧ w.heap.size ≤ g) :
    RefAt (w4.setCell ⟨b, 0, none⟩ v') b v' (evs ++ [ev]) ∧ w4.cell? ⟨b, 0, none⟩ = some v ∧ w4.frozen? ⟨b, 0, none⟩ = false ∧ Mods (Foot b v) w (w4.setCell ⟨b, 0, none⟩ v') := by
  have hc4 := hm.cell h.cell (p := ⟨b, 0, none⟩) h.ne
  have hf4 := hm.free h.cell h.free (p := ⟨b, 0, none⟩) h.ne
  have hne : v'.ownBlock ≠ some b := by
    rcases hb with h1 | ⟨g, h1, h2⟩
    · rw [h1]; exact h.ne
    · rw [h1]
      intro e
      cases e
      have := h.lt
      omega
  have hM : Mods (Foot b v) w (w4.setCell ⟨b, 0, none⟩ v') := (hm.mono (G := Foot b v) (fun i hi => .inr hi)).setCell (p := ⟨b, 0, none⟩) (.inl (.inl rfl)) v'
  have hm1 : Mods (PF.One b) w4 (w4.setCell ⟨b, 0, none⟩ v') := (Mods.refl (PF.One b) w4).setCell (p := ⟨b, 0, none⟩) (.inl rfl) v'
  refine ⟨⟨fun e he => ?_, cell_eq w4 _ hc4, by rw [World.frozen?_setCell]; exact hf4, ?_, hne, fun q hq => ?_⟩, hc4, hf4, hM⟩
  · rcases List.mem_append.1 he with h1 | h1
    · exact h.good e h1
    · simp at h1; subst h1; exact hok
  · rw [List.length_append, List.flatMap_append]
    simp only [List.length_cons, List.length_nil, List.flatMap_cons, List.flatMap_nil, List.append_nil]
    exact hr.mods hm1 (fun g hg e => hne (by rw [hg, show g = b from e]))
  · have := hr.lt (by rw [List.length_append]; simp [evV]; omega) q hq
    exact Nat.lt_of_lt_of_le this hm1.size

theorem refNew_any (w : World) : Calls Try.prog 21 #[] w fun e w' => e = .returned (.pointer (some ⟨w.heap.size, 0, none⟩)) ∧ RefAt w' w.heap.size (.slice none 0 0) [] ∧ Mods No w w' := by
  go_enter Try.func21, Try.ntmps21
  go_wp2
  go_ret
  refine ⟨rfl, ?_, (Mods.refl _ _).alloc _⟩
  have h : Arr (w.alloc (.cells #[Value.slice none 0 0] 73)) w.heap.size [Value.slice none 0 0] := Arr.new _ _ _
  have h0 := h 0 _ rfl
  exact ⟨fun e he => (by cases he), h0.1, h0.2, Row.nil _ _, by simp [Value.ownBlock], fun q hq => by simp [Value.ownBlock] at hq⟩

structure RefPost (b : Nat) (v : Value) (r : Int) (evs : List Ev) (w : World) (e : Ending) (w' : World) : Prop where
  ret : e = .returned (.int .i64 r)
  log : ∃ v', RefAt w' b v' evs ∧ (v'.ownBlock = v.ownBlock ∨ ∃ g, v'.ownBlock = some g ∧ w.heap.size ≤ g)
  mods : Mods (Foot b v) w w'

theorem refMeasure_bad (b : Nat) (v : Value) (evs : List Ev) (k : Int) (text data : ByteArray) (w : World) (hL : RefAt w b v evs) (hb : measBad k text) :
    Calls Try.prog 25 #[.pointer (some ⟨b, 0, none⟩), .int .i64 k, .string text, .string data] w (RefPost b v 1 evs w) := by
  have HF := Lib.hid hL
  clear hL
  have hend : RefPost b v 1 evs w (.returned (.int .i64 1)) w := ⟨rfl, ⟨v, HF.out, .inl rfl⟩, Mods.refl _ _⟩
  by_cases hk0 : k < 0
  · go_enter Try.func25, Try.ntmps25
    go_wp2
    go_ret
    exact hend
  by_cases hk8 : 8 ≤ k
  · have hk0' : 0 ≤ k := by omega
    go_enter Try.func25, Try.ntmps25
    go_wp2
    go_ret
    exact hend
  · have hk0' : 0 ≤ k := by omega
    have hk8' : k < 8 := by omega
    have ht : (64 : Int) < text.size := by
      rcases hb with h | h
      · exact absurd ⟨hk0', hk8'⟩ h
      · omega
    clear hk0 hk8 hb
    go_enter Try.func25, Try.ntmps25
    go_wp2
    go_ret
    exact hend
theorem refMeasure_full (b : Nat) (v : Value) (evs : List Ev) (k : Int) (text data : ByteArray) (w : World) (hL : RefAt w b v evs) (hk0 : 0 ≤ k) (hk8 : k < 8) (ht : (text.size : Int) ≤ 64) (hn : (256 : Int) ≤ evs.length) :
    Calls Try.prog 25 #[.pointer (some ⟨b, 0, none⟩), .int .i64 k, .string text, .string data] w (RefPost b v 8 evs w) := by
  have HF := Lib.hid hL
  have hc := hL.cell
  obtain ⟨A, c, hv, -, -, -⟩ := hL.row.shape
  subst hv
  clear hL
  go_enter Try.func25, Try.ntmps25
  go_wp2
  go_ret
  exact ⟨rfl, ⟨_, HF.out, .inl rfl⟩, Mods.refl _ _⟩
end Go.Proofs.Ytamdanpkkcdhbaa
