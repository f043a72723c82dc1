/- The row of the statement FlashNewAgrees: for every input the law returns true, and its arguments read as before. It follows from the walk of module LawNew. -/
import Derived.Test.YtachkcoilhlggaaRows
import Derived.Test.YtachkcoilhlggaaOpen
import Derived.Test.YtachkcoilhlggaaLawNew
import Derived.WalkKit
import Derived.ProofKit
import Derived.OpenShut
import Derived.ShutString
import Derived.ChangeOld
import Derived.Below
import Derived.SizedLaws
set_option linter.unusedVariables false
set_option linter.unusedSimpArgs false
namespace Go.Proofs.Ytachkcoilhlggaa.flashNewAgrees
open Go.ChangeShapes Go.WideShapes Go.ChangeAt Go.RowKit Go.PF
open Go.ChangeMaps (open_string shut_string)
theorem own : ownKnob Try.prog.godebug = none := by kernel_rfl
theorem laidOut : laidOutB Try.prog = true := by kernel_rfl
theorem list_3 {l : List Value} (h : l.length = 3) : ∃ x0 x1 x2, l = [x0, x1, x2] := by
  match l, h with
  | [x0, x1, x2], _ => exact ⟨_, _, _, rfl⟩
set_option maxRecDepth 100000 in
theorem lifted (os : Os) (started : os.Started) (H : Type) (enc : TypeId × Value → H) :
    ReturnsInHanded {} Try.checked os 3 .any (Rows.flashNewAgreesSpec.pre6 enc Try.prog Try.f3 Rows.flashNewAgreesRow.domain false) (Rows.flashNewAgreesSpec.post enc Try.prog Try.f3 false true false false) := by
  refine returnsInHanded_of_change_sized (C := Try.checked) own started (by kernel_rfl) Try.func3
    (ChangeSpec.witness6 (enc := enc) (C := Try.checked) false ⟨#[], #[.agg #[.int .i64 0, .int .i64 0, .int .i64 0], .string ByteArray.empty], []⟩ 8 (by kernel_rfl) (by kernel_rfl) (by kernel_rfl) (by kernel_rfl)) ?_
  intro W base args ds gs before hval0 hW hcnd hsz0 _
  have hsz : (DataW.weightsEach Try.prog (Try.f3.params.toList ++ Rows.flashNewAgreesSpec.plain.varTypes Try.prog) (ds ++ gs)).all (· ≤ reachBytes) = true := hsz0
  have hval : ∀ (j : Nat) t v, Try.f3.params[j]? = some t → args[j]? = some v → Value.okWide Try.prog W .any base t v := hval0
  have hW' := hW
  obtain ⟨p, q, hA0, hV, rfl, hfz, hnd⟩ := hW
  have hA : DataW.TrodAll enc Try.prog W 0 (fun _ => true) true Try.f3.params.toList args.toList ds p := hA0
  rw [Try.params3] at hA hval hsz
  obtain ⟨v0, vs0, d0, ds0, p0, q0, hargs, rfl, rfl, h0, r0⟩ := trodAll_cons hA
  obtain ⟨v1, vs1, d1, ds1, p1, q1, rfl, rfl, rfl, h1, r1⟩ := trodAll_cons r0
  obtain ⟨rfl, rfl, rfl⟩ := trodAll_nil r1
  obtain rfl : args = #[v0, v1] := by cases args; simp_all
  obtain ⟨rfl, rfl⟩ := trodVars_none hV
  have k0 := h0
  have lt0 : ∀ x ∈ p0, x.block < W.heap.size := by obtain ⟨m, hm⟩ := k0; exact DataW.trod_lt m _ _ _ hm
  obtain ⟨cs0, rfl, sz0⟩ := okWide_struct Try.underlying23 (hval 0 23 v0 rfl rfl)
  rw [show Try.prog.cellsOf 23 = 3 by kernel_rfl] at sz0
  obtain ⟨cl0⟩ := cs0
  obtain ⟨c0_0, c0_1, c0_2, rfl⟩ : ∃ c0_0 c0_1 c0_2, cl0 = [c0_0, c0_1, c0_2] := by
    exact list_3 (by simpa using sz0)
  obtain ⟨f0, hf0⟩ := h0
  obtain ⟨n0, _, hc0⟩ := struct_cells Try.underlying23 (by kernel_rfl) hf0
  obtain ⟨_, hy0_0⟩ := hc0 0 _ rfl _ rfl
  obtain ⟨b0_0, rfl, w0_0⟩ := cell_int Try.underlying3 hy0_0
  obtain ⟨_, hy0_1⟩ := hc0 1 _ rfl _ rfl
  obtain ⟨b0_1, rfl, w0_1⟩ := cell_int Try.underlying3 hy0_1
  obtain ⟨_, hy0_2⟩ := hc0 2 _ rfl _ rfl
  obtain ⟨b0_2, rfl, w0_2⟩ := cell_int Try.underlying3 hy0_2
  have k1 := h1
  have lt1 : ∀ x ∈ p1, x.block < W.heap.size := by obtain ⟨m, hm⟩ := k1; exact DataW.trod_lt m _ _ _ hm
  obtain ⟨a1, rfl, e1, _, y1⟩ := open_string Try.underlying9 (hval 1 9 v1 rfl rfl) h1
  have w1 : a1.size ≤ 140737488351232 := by
    have z := sized_string hsz (j := 1) (t := 9) rfl (by rw [e1]; rfl)
    rw [Array.length_toList] at z
    exact z
  clear hA0 hval0 hsz0 hsz
  refine (new_row b0_0 (wf_i64 w0_0) b0_1 (wf_i64 w0_1) b0_2 (wf_i64 w0_2) a1 w1 (W := W)).mono fun e W' ⟨he, bel⟩ => ?_
  subst he
  exact ⟨_, rfl, _, _, _, [], _, [], hW', trodAll_mk1 (shut_bool Try.underlying4 _), (trodAll_cons_mk (Below.trod laidOut (by kernel_rfl) (of_decide_eq_true (by kernel_rfl)) k0 bel lt0) (trodAll_cons_mk (Below.trod laidOut (by kernel_rfl) (of_decide_eq_true (by kernel_rfl)) k1 bel lt1) trodAll_mk0)), rfl, bel.frame _, fun h => by cases h⟩
theorem over : Rows.flashNewAgreesRow.holds Try.pinned (OpenSpec.ofChange Rows.flashNewAgreesSpec) :=
  OpenClaim.holds_of_wide 3 Try.f3 rfl rfl rfl rfl rfl rfl rfl ⟨rfl, rfl, rfl, rfl, rfl⟩ rfl rfl rfl rfl rfl (by kernel_rfl) Try.func3 (by kernel_rfl)
    (of_decide_eq_true (by kernel_rfl)) (by unfold Func.isWrapper; first | (rw [if_pos (by decide +kernel)]; kernel_rfl) | (rw [if_neg (by decide +kernel)]; exact ⟨rfl, rfl⟩))
    (fun os started H enc _ => lifted os started H enc)
end Go.Proofs.Ytachkcoilhlggaa.flashNewAgrees
namespace Go.Proofs.Ytachkcoilhlggaa
theorem flashNewAgrees_holds : Rows.FlashNewAgreesSaid := flashNewAgrees.over
#print axioms flashNewAgrees_holds
end Go.Proofs.Ytachkcoilhlggaa
