/- Events, on both sides. -/
import Derived.Test.YtamdanpkkcdhbaaCl1
set_option linter.unusedVariables false
set_option linter.unusedSimpArgs false
namespace Go.Proofs.Ytamdanpkkcdhbaa
open Go.RowKit Go.PF

/-- a copy of the events is handed back -/
structure EvPost (evs : List Ev) (w : World) (e : Ending) (w' : World) : Prop where
  ret : ∃ u, e = .returned u ∧ Row w' 34 u evs.length (evs.flatMap evV) ∧ ∀ q, u.ownBlock = some q → w.heap.size ≤ q
  mods : Mods No w w'

set_option maxRecDepth 100000 in
theorem clone_nil (w : World) : Calls Try.prog 44 #[.slice none 0 0] w (EvPost [] w) := by
  have heq : ∀ w, (binOp .eql 46 (.slice none 0 0) (.slice none 0 0)).run Try.prog w = .ok (.bool true) w := fun w => by kernel_rfl
  go_enter Try.func44, Try.ntmps44
  go_wp2_with fail
  go_ret
  exact ⟨⟨_, rfl, Row.nil _ _, fun q hq => by simp [Value.ownBlock] at hq⟩, Mods.refl _ _⟩
set_option maxRecDepth 100000 in
theorem Row.empty (w : World) (k g : Nat) : Row w k (.slice (some ⟨g, 0, none⟩) 0 0) 0 [] := ⟨by simp, .inr ⟨g, 0, rfl, Nat.le_refl _, by unfold maxLen; omega, fun j u hu => by simp at hu, fun j hj => by omega⟩⟩
theorem clone_some (g c : Nat) (evs : List Ev) (w : World) (hok : ∀ e ∈ evs, Ev.Ok e) (hn : evs.length ≤ 1000) (hR : Row w 34 (.slice (some ⟨g, 0, none⟩) evs.length c) evs.length (evs.flatMap evV)) : Calls Try.prog 44 #[.slice (some ⟨g, 0, none⟩) evs.length c] w (EvPost evs w) := by
  have HR := Lib.hid hR
  have Hlen := Lib.hid (show (evs.flatMap evV).length = evs.length * 34 from hR.1)
  have H1 : Hid (∀ u ∈ evs.flatMap evV, u.oneCell' = true) := fun u hu => by
    obtain ⟨e, _, h⟩ := List.mem_flatMap.1 hu
    exact evV_one e u h
  clear hR
  obtain ⟨iE, hiE, hzE, hsE, hyE⟩ := info_parts infoEv3
  have heq : ∀ w, (binOp .eql 46 (.slice (some ⟨g, 0, none⟩) evs.length c) (.slice none 0 0)).run Try.prog w = .ok (.bool false) w := fun w => by kernel_rfl
  go_enter Try.func44, Try.ntmps44
  go_wp2_with (at_builtin; refine wpList_append_row rfl _ _ 46 rfl 45 iE _ 34 56 Try.underlying46 hiE hzE hsE hyE rfl (by decide) _ _ _ (by rfl) (Row.empty _ _ _) ⟨g, 0, none⟩ evs.length c (evs.flatMap evV) (by rfl) Hlen.out ?c1 H1.out ?c2 ?c3 ?_)
  case c1 =>
    intro j u hu
    rw [Addr.add_lit, Nat.zero_add]
    exact ((HR.out.alloc (.cells #[] 45)).cell hu)
  case c2 => unfold maxLen; omega
  case c3 => omega
  intro v' w' hr hm hb
  obtain ⟨A', c', rfl, -, -, -⟩ := hr.shape
  have hM : Mods No w w' := ((Mods.refl No w).alloc (.cells #[] 45)).trans hm (fun i h => .inr (by simp only [Value.ownBlock, Option.some.injEq] at h; omega))
  have hB : ∀ q, (Value.slice A' evs.length c').ownBlock = some q → w.heap.size ≤ q := fun q hq => by
    rcases hb with h | ⟨g', h1, h2⟩
    · rw [hq] at h
      simp only [Value.ownBlock, Option.some.injEq] at h
      omega
    · rw [hq] at h1
      cases h1
      omega
  have G1 := Lib.hid hr
  have G2 := Lib.hid hM
  have G3 := Lib.hid hB
  clear hr hm hb hM hB
  go_wp2_with fail
  go_ret
  exact ⟨⟨_, rfl, G1.out, G3.out⟩, G2.out⟩
theorem clone_any (v : Value) (evs : List Ev) (w : World) (hok : ∀ e ∈ evs, Ev.Ok e) (hn : evs.length ≤ 1000) (hR : Row w 34 v evs.length (evs.flatMap evV)) : Calls Try.prog 44 #[v] w (EvPost evs w) := by
  rcases hR.2 with ⟨rfl, h0⟩ | ⟨g, cap, rfl, h⟩
  · rw [List.eq_nil_of_length_eq_zero h0]
    exact clone_nil w
  · exact clone_some g cap evs w hok hn hR
theorem events_any (b : Nat) (v : Value) (regs : List (List Int)) (evs : List Ev) (w : World) (hL : LogAt w b v regs evs) (hn : evs.length ≤ 1000) : Calls Try.prog 27 #[.pointer (some ⟨b, 0, none⟩)] w (EvPost evs w) := by
  have HL := Lib.hid hL
  have hc := hL.cell
  obtain ⟨A, c, hv, -, -, -⟩ := hL.row.shape
  subst hv
  clear hL
  go_enter Try.func27, Try.ntmps27
  go_wp2_with fail
  refine (clone_any _ evs _ HL.out.good hn HL.out.row).mono ?_
  rintro e w' ⟨⟨u, rfl, h1, h2⟩, h3⟩
  have H1 := Lib.hid h1
  have H2 := Lib.hid h2
  have H3 := Lib.hid h3
  clear h1 h2 h3
  go_wp2_with fail
  go_ret
  exact ⟨⟨_, rfl, H1.out, H2.out⟩, H3.out⟩
theorem refEvents_nil (b : Nat) (w : World) (hc : w.cell? ⟨b, 0, none⟩ = some (.slice none 0 0)) : Calls Try.prog 28 #[.pointer (some ⟨b, 0, none⟩)] w (EvPost [] w) := by
  have hc2 : (w.alloc (.cells #[] 45)).cell? ⟨b, 0, none⟩ = some (.slice none 0 0) := ((Mods.refl No w).alloc _).cell hc id
  go_enter Try.func28, Try.ntmps28
  go_wp2_with fail
  go_ret
  exact ⟨⟨.slice (some ⟨w.heap.size, 0, none⟩) 0 0, rfl, Row.empty _ _ _, fun q hq => by simp only [Value.ownBlock, Option.some.injEq] at hq; omega⟩, (Mods.refl _ _).alloc _⟩
theorem refEvents_some (b g c : Nat) (evs : List Ev) (w : World) (hn : evs.length ≤ 1000) (hc : w.cell? ⟨b, 0, none⟩ = some (.slice (some ⟨g, 0, none⟩) evs.length c)) (hR : Row w 34 (.slice (some ⟨g, 0, none⟩) evs.length c) evs.length (evs.flatMap evV)) :
    Calls Try.prog 28 #[.pointer (some ⟨b, 0, none⟩)] w (EvPost evs w) := by
  have HR := Lib.hid hR
  have Hlen := Lib.hid (show (evs.flatMap evV).length = evs.length * 34 from hR.1)
  have H1 : Hid (∀ u ∈ evs.flatMap evV, u.oneCell' = true) := fun u hu => by
    obtain ⟨e, _, h⟩ := List.mem_flatMap.1 hu
    exact evV_one e u h
  clear hR
  have hc2 : (w.alloc (.cells #[] 45)).cell? ⟨b, 0, none⟩ = some (.slice (some ⟨g, 0, none⟩) evs.length c) := ((Mods.refl No w).alloc _).cell hc id
  obtain ⟨iE, hiE, hzE, hsE, hyE⟩ := info_parts infoEv3
  go_enter Try.func28, Try.ntmps28
  go_wp2_with (at_builtin; refine wpList_append_row rfl _ _ 46 rfl 45 iE _ 34 56 Try.underlying46 hiE hzE hsE hyE rfl (by decide) _ _ _ (by rfl) (Row.empty _ _ _) ⟨g, 0, none⟩ evs.length c (evs.flatMap evV) (by rfl) Hlen.out ?c1 H1.out ?c2 ?c3 ?_)
  case c1 =>
    intro j u hu
    rw [Addr.add_lit, Nat.zero_add]
    exact ((HR.out.alloc (.cells #[] 45)).cell hu)
  case c2 => unfold maxLen; omega
  case c3 => omega
  intro v' w' hr hm hb
  obtain ⟨A', c', rfl, -, -, -⟩ := hr.shape
  have hM : Mods No w w' := ((Mods.refl No w).alloc (.cells #[] 45)).trans hm (fun i h => .inr (by simp only [Value.ownBlock, Option.some.injEq] at h; omega))
  have hB : ∀ q, (Value.slice A' evs.length c').ownBlock = some q → w.heap.size ≤ q := fun q hq => by
    rcases hb with h | ⟨g', h1, h2⟩
    · rw [hq] at h
      simp only [Value.ownBlock, Option.some.injEq] at h
      omega
    · rw [hq] at h1
      cases h1
      omega
  have G1 := Lib.hid hr
  have G2 := Lib.hid hM
  have G3 := Lib.hid hB
  clear hr hm hb hM hB
  go_wp2_with fail
  go_ret
  exact ⟨⟨_, rfl, G1.out, G3.out⟩, G2.out⟩
theorem refEvents_any (b : Nat) (v : Value) (evs : List Ev) (w : World) (hL : RefAt w b v evs) (hn : evs.length ≤ 1000) : Calls Try.prog 28 #[.pointer (some ⟨b, 0, none⟩)] w (EvPost evs w) := by
  rcases hL.row.2 with ⟨rfl, h0⟩ | ⟨g, cap, rfl, h⟩
  · rw [List.eq_nil_of_length_eq_zero h0]
    exact refEvents_nil b w hL.cell
  · exact refEvents_some b g cap evs w hn hL.cell hL.row
end Go.Proofs.Ytamdanpkkcdhbaa
