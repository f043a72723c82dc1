/- Words for a row: digests and events as arguments. -/
import Derived.Test.YtamdanpkkcdhbaaOpen
import Derived.Test.YtamdanpkkcdhbaaLg1
import Derived.Test.YtamdanpkkcdhbaaSha15
import Derived.OpenShut
set_option linter.unusedVariables false
set_option linter.unusedSimpArgs false
namespace Go.Proofs.Ytamdanpkkcdhbaa
open Go.RowKit Go.PF Go.ChangeShapes Go.WideShapes

abbrev EvW := { e : Ev // Ev.Ok e }
def evW (e : EvW) : List Value := evV e.1
def EvW.Good (_ : EvW) : Prop := True
theorem evW_length (e : EvW) : (evW e).length = 34 := evV_length e.2.dig
abbrev D32 := { q : List Int // q.length = 32 }
def d32 (q : D32) : List Value := u8s q.1
def D32.Good (_ : D32) : Prop := True
theorem d32_length (q : D32) : (d32 q).length = 32 := by unfold d32; rw [u8s_length]; exact q.2
theorem flat_ev (l : List EvW) : (l.map (·.1)).flatMap evV = l.flatMap evW := by rw [List.flatMap_map]; rfl
theorem flat_d32 (l : List D32) : (l.map (·.1)).flatMap u8s = l.flatMap d32 := by rw [List.flatMap_map]; rfl
theorem okWide_array {P : Program} {W : World} {r : Reach} {base : Nat} {t : TypeId} {v : Value} {n : Nat} {e : TypeId} (ht : P.underlying t = some (.array n e)) (h : Value.okWide P W r base t v) : ∃ cs, v = .agg cs ∧ cs.size = P.cellsOf t := by
  simp only [Value.okWide, ht] at h
  obtain ⟨cs, h1, h2, _⟩ := h
  exact ⟨cs, h1, h2⟩

section
variable {H : Type} {enc : TypeId × Value → H} {w : World} {base : Nat} {spare : Nat → Bool} {held : Bool}
theorem open_d32 {n : Nat} {cs : List Value} {x : DataW H × List MemPlace} (h : DataW.trod enc Try.prog w base spare held n 26 cs = some x) : ∃ y : D32, D32.Good y ∧ d32 y = cs := by
  obtain ⟨xs, m, _, _, hl, hxl, hf⟩ := DataW.trod_array Try.underlying26 h
  rw [show Try.prog.cellsOf 26 = 32 by kernel_rfl] at hl
  have hc : ∀ i, i < 32 → ∃ a : Int, cs[i]? = some (.int .u8 a) := fun i hi => by
    have h1 := hf i hi
    rw [show Try.prog.cellsOf 5 = 1 by kernel_rfl, Nat.mul_one, List.drop_eq_getElem_cons (by rw [hl]; exact hi), List.getElem?_eq_getElem (show i < xs.length by rw [hxl]; exact hi)] at h1
    obtain ⟨a, ha, _⟩ := cell_int Try.underlying5 h1
    exact ⟨a, by rw [List.getElem?_eq_getElem (by rw [hl]; exact hi), ha]⟩
  refine ⟨⟨cs.map (fun v => match v with | .int _ a => a | _ => 0), by rw [List.length_map, hl]⟩, trivial, ?_⟩
  show u8s _ = cs
  apply List.ext_getElem?
  intro i
  unfold u8s
  rw [List.getElem?_map, List.getElem?_map]
  by_cases hi : i < 32
  · obtain ⟨a, ha⟩ := hc i hi
    rw [ha]
    rfl
  · rw [List.getElem?_eq_none (by rw [hl]; omega)]
    rfl
theorem open_digest {v : Value} {d : DataW H} {p : List MemPlace} (hv : ∃ cs, v = .agg cs ∧ cs.size = Try.prog.cellsOf 26) (h : DataW.Trod enc Try.prog w base spare held 26 v d p) : ∃ q : List Int, q.length = 32 ∧ v = .agg (u8s q).toArray := by
  obtain ⟨cs, rfl, hs⟩ := hv
  obtain ⟨n, hn⟩ := h
  have hcs : (Value.agg cs).cells.toList = cs.toList := by rfl
  obtain ⟨y, _, hy⟩ := open_d32 hn
  refine ⟨y.1, y.2, ?_⟩
  have : u8s y.1 = cs.toList := by rw [← hcs]; exact hy
  rw [this]
theorem open_ev {n : Nat} {cs : List Value} {x : DataW H × List MemPlace} (h : DataW.trod enc Try.prog w base spare held n 45 cs = some x) : ∃ y : EvW, EvW.Good y ∧ evW y = cs := by
  obtain ⟨xs, m, _, _, hl, hxl, hf⟩ := DataW.trod_struct Try.underlying45 h
  rw [show Try.prog.cellsOf 45 = 34 by kernel_rfl] at hl
  have hx : ∀ i, i < 3 → ∃ y, xs[i]? = some y := fun i hi => ⟨xs[i]'(by rw [hxl]; exact hi), List.getElem?_eq_getElem _⟩
  obtain ⟨y0, h0⟩ := hx 0 (by omega)
  obtain ⟨y1, h1⟩ := hx 1 (by omega)
  obtain ⟨y2, h2⟩ := hx 2 (by omega)
  have f0 : DataW.trod enc Try.prog w base spare held m 3 ((cs.drop 0).take (Try.prog.cellsOf 3)) = xs[0]? := hf 0 _ rfl
  have f1 : DataW.trod enc Try.prog w base spare held m 26 ((cs.drop 1).take (Try.prog.cellsOf 26)) = xs[1]? := hf 1 _ rfl
  have f2 : DataW.trod enc Try.prog w base spare held m 9 ((cs.drop 33).take (Try.prog.cellsOf 9)) = xs[2]? := hf 2 _ rfl
  simp only [show Try.prog.cellsOf 3 = 1 by kernel_rfl, show Try.prog.cellsOf 26 = 32 by kernel_rfl, show Try.prog.cellsOf 9 = 1 by kernel_rfl, h0, h1, h2] at f0 f1 f2
  match cs, hl with
  | c0 :: cs, hl =>
    have hl' : cs.length = 33 := by simpa using hl
    rw [List.drop_zero, List.take_succ_cons, List.take_zero] at f0
    obtain ⟨a, rfl, ha⟩ := cell_int Try.underlying3 f0
    rw [List.drop_succ_cons, List.drop_zero] at f1
    obtain ⟨q, _, hq⟩ := open_d32 f1
    rw [List.drop_succ_cons, List.drop_eq_getElem_cons (show 32 < cs.length by rw [hl']; omega), List.take_succ_cons, List.take_zero] at f2
    obtain ⟨t, ht, _⟩ := cell_string Try.underlying9 f2
    have wa := wf_i64 ha
    refine ⟨⟨⟨a, q.1, t⟩, ⟨wa.1, by show a ≤ _; omega, q.2⟩⟩, trivial, ?_⟩
    show Value.int .i64 a :: (u8s q.1 ++ [Value.string t]) = _
    congr 1
    have e : cs = cs.take 32 ++ cs.drop 32 := (List.take_append_drop 32 cs).symm
    have e2 : cs.drop 32 = [Value.string t] := by
      rw [List.drop_eq_getElem_cons (show 32 < cs.length by rw [hl']; omega), ht, List.drop_of_length_le (by rw [hl']; omega)]
    rw [e, e2]
    have : u8s q.1 = cs.take 32 := hq
    rw [this]
end
end Go.Proofs.Ytamdanpkkcdhbaa
