/- The row of the statement MeasureQuotes: for every input the law returns true, and its arguments read as before. It follows from the walk of module LawQ. -/
import Derived.Test.YtamdanpkkcdhbaaRows
import Derived.Test.YtamdanpkkcdhbaaOpen
import Derived.Test.YtamdanpkkcdhbaaOpenD
import Derived.Test.YtamdanpkkcdhbaaLawQ
import Derived.WalkKit
import Derived.ProofKit
import Derived.OpenShut
import Derived.ShutString
import Derived.ChangeOld
import Derived.Below
import Derived.SizedLaws
set_option linter.unusedVariables false
set_option linter.unusedSimpArgs false
namespace Go.Proofs.Ytamdanpkkcdhbaa.measureQuotes
open Go.ChangeShapes Go.WideShapes Go.ChangeAt Go.RowKit Go.PF
open Go.ChangeMaps (open_string shut_string)
theorem own : ownKnob Try.prog.godebug = none := by kernel_rfl
theorem laidOut : laidOutB Try.prog = true := by kernel_rfl
theorem list_4 {l : List Value} (h : l.length = 4) : ∃ x0 x1 x2 x3, l = [x0, x1, x2, x3] := by
  match l, h with
  | [x0, x1, x2, x3], _ => exact ⟨_, _, _, _, rfl⟩
set_option maxRecDepth 100000 in
theorem lifted (os : Os) (started : os.Started) (H : Type) (enc : TypeId × Value → H) :
    ReturnsInHanded {} Try.checked os 12 .any (Rows.measureQuotesSpec.pre6 enc Try.prog Try.f12 Rows.measureQuotesRow.domain false) (Rows.measureQuotesSpec.post enc Try.prog Try.f12 false true false false) := by
  refine returnsInHanded_of_change_sized (C := Try.checked) own started (by kernel_rfl) Try.func12
    (ChangeSpec.witness6 (enc := enc) (C := Try.checked) false ⟨#[], #[.string ByteArray.empty, .string ByteArray.empty, .slice none 0 0, .slice none 0 0], []⟩ 8 (by kernel_rfl) (by kernel_rfl) (by kernel_rfl) (by kernel_rfl)) ?_
  intro W base args ds gs before hval0 hW hcnd hsz0 _
  have hsz : (DataW.weightsEach Try.prog (Try.f12.params.toList ++ Rows.measureQuotesSpec.plain.varTypes Try.prog) (ds ++ gs)).all (· ≤ reachBytes) = true := hsz0
  have hval : ∀ (j : Nat) t v, Try.f12.params[j]? = some t → args[j]? = some v → Value.okWide Try.prog W .any base t v := hval0
  have hW' := hW
  obtain ⟨p, q, hA0, hV, rfl, hfz, hnd⟩ := hW
  have hA : DataW.TrodAll enc Try.prog W 0 (fun _ => true) true Try.f12.params.toList args.toList ds p := hA0
  rw [Try.params12] at hA hval hsz
  obtain ⟨v0, vs0, d0, ds0, p0, q0, hargs, rfl, rfl, h0, r0⟩ := trodAll_cons hA
  obtain ⟨v1, vs1, d1, ds1, p1, q1, rfl, rfl, rfl, h1, r1⟩ := trodAll_cons r0
  obtain ⟨v2, vs2, d2, ds2, p2, q2, rfl, rfl, rfl, h2, r2⟩ := trodAll_cons r1
  obtain ⟨v3, vs3, d3, ds3, p3, q3, rfl, rfl, rfl, h3, r3⟩ := trodAll_cons r2
  obtain ⟨rfl, rfl, rfl⟩ := trodAll_nil r3
  obtain rfl : args = #[v0, v1, v2, v3] := by cases args; simp_all
  obtain ⟨rfl, rfl⟩ := trodVars_none hV
  have k0 := h0
  have lt0 : ∀ x ∈ p0, x.block < W.heap.size := by obtain ⟨m, hm⟩ := k0; exact DataW.trod_lt m _ _ _ hm
  obtain ⟨a0, rfl, e0, _, y0⟩ := open_string Try.underlying9 (hval 0 9 v0 rfl rfl) h0
  have w0 : a0.size ≤ 140737488351232 := by
    have z := sized_string hsz (j := 0) (t := 9) rfl (by rw [e0]; rfl)
    rw [Array.length_toList] at z
    exact z
  have k1 := h1
  have lt1 : ∀ x ∈ p1, x.block < W.heap.size := by obtain ⟨m, hm⟩ := k1; exact DataW.trod_lt m _ _ _ hm
  obtain ⟨a1, rfl, e1, _, y1⟩ := open_string Try.underlying9 (hval 1 9 v1 rfl rfl) h1
  have w1 : a1.size ≤ 140737488351232 := by
    have z := sized_string hsz (j := 1) (t := 9) rfl (by rw [e1]; rfl)
    rw [Array.length_toList] at z
    exact z
  have k2 := h2
  have lt2 : ∀ x ∈ p2, x.block < W.heap.size := by obtain ⟨m, hm⟩ := k2; exact DataW.trod_lt m _ _ _ hm
  obtain ⟨A2, len2, cap2, rfl⟩ := okWide_slice Try.underlying31 (hval 2 31 v2 rfl rfl)
  obtain ⟨l2, hl2, hg2, hlc2, hcap2, hS2⟩ := slice_sl mCells 4 (fun _ => rfl) (by decide) (MCall.WF) Try.underlying31 (by kernel_rfl : Try.prog.cellsOf 38 = 4) h2 (by
    intro cs n x hl hr
    obtain ⟨c0, c1, c2, c3, rfl⟩ : ∃ c0 c1 c2 c3, cs = [c0, c1, c2, c3] := by
      exact list_4 hl
    obtain ⟨n', _, hc⟩ := struct_cells Try.underlying38 (by kernel_rfl) hr
    obtain ⟨_, hy0⟩ := hc 0 _ rfl _ rfl
    obtain ⟨_, hy1⟩ := hc 1 _ rfl _ rfl
    obtain ⟨_, hy2⟩ := hc 2 _ rfl _ rfl
    obtain ⟨_, hy3⟩ := hc 3 _ rfl _ rfl
    obtain ⟨b0, rfl, w0⟩ := cell_int Try.underlying3 hy0
    obtain ⟨b1, rfl, w1⟩ := cell_string Try.underlying9 hy1
    obtain ⟨b2, rfl, w2⟩ := cell_string Try.underlying9 hy2
    obtain ⟨b3, rfl⟩ := cell_bool Try.underlying4 hy3
    exact ⟨(⟨b0, b1, b2, b3⟩ : MCall), ⟨wf_i64 w0, w1, w2⟩, rfl⟩)
  have k3 := h3
  have lt3 : ∀ x ∈ p3, x.block < W.heap.size := by obtain ⟨m, hm⟩ := k3; exact DataW.trod_lt m _ _ _ hm
  obtain ⟨A3, len3, cap3, rfl⟩ := okWide_slice Try.underlying48 (hval 3 48 v3 rfl rfl)
  obtain ⟨l3, hl3, hg3, hlc3, hcap3, hS3⟩ := slice_sl d32 32 d32_length (by decide) (D32.Good) Try.underlying48 (by kernel_rfl : Try.prog.cellsOf 26 = 32) h3 (fun cs n x hl hr => open_d32 hr)
  clear hA0 hval0 hsz0 hsz
  refine (quotes_law a0 w0 a1 w1 A2 len2 cap2 l2 hl2 hg2 hlc2 hcap2 hS2 A3 len3 cap3 l3 hl3 hg3 hlc3 hcap3 hS3 (W := W)).mono fun e W' ⟨he, bel⟩ => ?_
  subst he
  exact ⟨_, rfl, _, _, _, [], _, [], hW', trodAll_mk1 (shut_bool Try.underlying4 _), (trodAll_cons_mk (Below.trod laidOut (by kernel_rfl) (of_decide_eq_true (by kernel_rfl)) k0 bel lt0) (trodAll_cons_mk (Below.trod laidOut (by kernel_rfl) (of_decide_eq_true (by kernel_rfl)) k1 bel lt1) (trodAll_cons_mk (Below.trod laidOut (by kernel_rfl) (of_decide_eq_true (by kernel_rfl)) k2 bel lt2) (trodAll_cons_mk (Below.trod laidOut (by kernel_rfl) (of_decide_eq_true (by kernel_rfl)) k3 bel lt3) trodAll_mk0)))), rfl, bel.frame _, fun h => by cases h⟩
theorem over : Rows.measureQuotesRow.holds Try.pinned (OpenSpec.ofChange Rows.measureQuotesSpec) :=
  OpenClaim.holds_of_wide 12 Try.f12 rfl rfl rfl rfl rfl rfl rfl ⟨rfl, rfl, rfl, rfl, rfl⟩ rfl rfl rfl rfl rfl (by kernel_rfl) Try.func12 (by kernel_rfl)
    (of_decide_eq_true (by kernel_rfl)) (by unfold Func.isWrapper; first | (rw [if_pos (by decide +kernel)]; kernel_rfl) | (rw [if_neg (by decide +kernel)]; exact ⟨rfl, rfl⟩))
    (fun os started H enc _ => lifted os started H enc)
end Go.Proofs.Ytamdanpkkcdhbaa.measureQuotes
namespace Go.Proofs.Ytamdanpkkcdhbaa
theorem measureQuotes_holds : Rows.MeasureQuotesSaid := measureQuotes.over
#print axioms measureQuotes_holds
end Go.Proofs.Ytamdanpkkcdhbaa
