/- The row of the statement FlashRetry: for every input the law returns true, and its arguments read as before. It follows from the walk of module LawRetry. -/
import Derived.Test.YtachkcoilhlggaaRows
import Derived.Test.YtachkcoilhlggaaOpen
import Derived.Test.YtachkcoilhlggaaLawRetry
import Derived.WalkKit
import Derived.ProofKit
import Derived.OpenShut
import Derived.ShutString
import Derived.ChangeOld
import Derived.Below
import Derived.SizedLaws
set_option linter.unusedVariables false
set_option linter.unusedSimpArgs false
namespace Go.Proofs.Ytachkcoilhlggaa.flashRetry
open Go.ChangeShapes Go.WideShapes Go.ChangeAt Go.RowKit Go.PF
open Go.ChangeMaps (open_string shut_string)
theorem own : ownKnob Try.prog.godebug = none := by kernel_rfl
theorem laidOut : laidOutB Try.prog = true := by kernel_rfl
theorem list_3 {l : List Value} (h : l.length = 3) : ∃ x0 x1 x2, l = [x0, x1, x2] := by
  match l, h with
  | [x0, x1, x2], _ => exact ⟨_, _, _, rfl⟩
theorem list_7 {l : List Value} (h : l.length = 7) : ∃ x0 x1 x2 x3 x4 x5 x6, l = [x0, x1, x2, x3, x4, x5, x6] := by
  match l, h with
  | [x0, x1, x2, x3, x4, x5, x6], _ => exact ⟨_, _, _, _, _, _, _, rfl⟩
set_option maxRecDepth 100000 in
theorem lifted (os : Os) (started : os.Started) (H : Type) (enc : TypeId × Value → H) :
    ReturnsInHanded {} Try.checked os 7 .any (Rows.flashRetrySpec.pre6 enc Try.prog Try.f7 Rows.flashRetryRow.domain false) (Rows.flashRetrySpec.post enc Try.prog Try.f7 false true false false) := by
  refine returnsInHanded_of_change_sized (C := Try.checked) own started (by kernel_rfl) Try.func7
    (ChangeSpec.witness6 (enc := enc) (C := Try.checked) false ⟨#[], #[.agg #[.int .i64 0, .int .i64 0, .int .i64 0], .slice none 0 0, .agg #[.int .i64 0, .int .i64 0, .int .i64 0, .int .u64 0, .int .u64 0, .bool false, .bool false], .bool false], []⟩ 8 (by kernel_rfl) (by kernel_rfl) (by kernel_rfl) (by kernel_rfl)) ?_
  intro W base args ds gs before hval0 hW hcnd hsz0 _
  have hsz : (DataW.weightsEach Try.prog (Try.f7.params.toList ++ Rows.flashRetrySpec.plain.varTypes Try.prog) (ds ++ gs)).all (· ≤ reachBytes) = true := hsz0
  have hval : ∀ (j : Nat) t v, Try.f7.params[j]? = some t → args[j]? = some v → Value.okWide Try.prog W .any base t v := hval0
  have hW' := hW
  obtain ⟨p, q, hA0, hV, rfl, hfz, hnd⟩ := hW
  have hA : DataW.TrodAll enc Try.prog W 0 (fun _ => true) true Try.f7.params.toList args.toList ds p := hA0
  rw [Try.params7] at hA hval hsz
  obtain ⟨v0, vs0, d0, ds0, p0, q0, hargs, rfl, rfl, h0, r0⟩ := trodAll_cons hA
  obtain ⟨v1, vs1, d1, ds1, p1, q1, rfl, rfl, rfl, h1, r1⟩ := trodAll_cons r0
  obtain ⟨v2, vs2, d2, ds2, p2, q2, rfl, rfl, rfl, h2, r2⟩ := trodAll_cons r1
  obtain ⟨v3, vs3, d3, ds3, p3, q3, rfl, rfl, rfl, h3, r3⟩ := trodAll_cons r2
  obtain ⟨rfl, rfl, rfl⟩ := trodAll_nil r3
  obtain rfl : args = #[v0, v1, v2, v3] := by cases args; simp_all
  obtain ⟨rfl, rfl⟩ := trodVars_none hV
  have k0 := h0
  have lt0 : ∀ x ∈ p0, x.block < W.heap.size := by obtain ⟨m, hm⟩ := k0; exact DataW.trod_lt m _ _ _ hm
  obtain ⟨cs0, rfl, sz0⟩ := okWide_struct Try.underlying23 (hval 0 23 v0 rfl rfl)
  rw [show Try.prog.cellsOf 23 = 3 by kernel_rfl] at sz0
  obtain ⟨cl0⟩ := cs0
  obtain ⟨c0_0, c0_1, c0_2, rfl⟩ : ∃ c0_0 c0_1 c0_2, cl0 = [c0_0, c0_1, c0_2] := by
    exact list_3 (by simpa using sz0)
  obtain ⟨f0, hf0⟩ := h0
  obtain ⟨n0, _, hc0⟩ := struct_cells Try.underlying23 (by kernel_rfl) hf0
  obtain ⟨_, hy0_0⟩ := hc0 0 _ rfl _ rfl
  obtain ⟨b0_0, rfl, w0_0⟩ := cell_int Try.underlying3 hy0_0
  obtain ⟨_, hy0_1⟩ := hc0 1 _ rfl _ rfl
  obtain ⟨b0_1, rfl, w0_1⟩ := cell_int Try.underlying3 hy0_1
  obtain ⟨_, hy0_2⟩ := hc0 2 _ rfl _ rfl
  obtain ⟨b0_2, rfl, w0_2⟩ := cell_int Try.underlying3 hy0_2
  have k1 := h1
  have lt1 : ∀ x ∈ p1, x.block < W.heap.size := by obtain ⟨m, hm⟩ := k1; exact DataW.trod_lt m _ _ _ hm
  obtain ⟨A1, len1, cap1, rfl⟩ := okWide_slice Try.underlying36 (hval 1 36 v1 rfl rfl)
  obtain ⟨l1, hl1, hg1, hlc1, hcap1, hS1⟩ := slice_sl cCells 7 (fun _ => rfl) (by decide) (CallD.WF) Try.underlying36 (by kernel_rfl : Try.prog.cellsOf 39 = 7) h1 (by
    intro cs n x hl hr
    obtain ⟨c0, c1, c2, c3, c4, c5, c6, rfl⟩ : ∃ c0 c1 c2 c3 c4 c5 c6, cs = [c0, c1, c2, c3, c4, c5, c6] := by
      exact list_7 hl
    obtain ⟨n', _, hc⟩ := struct_cells Try.underlying39 (by kernel_rfl) hr
    obtain ⟨_, hy0⟩ := hc 0 _ rfl _ rfl
    obtain ⟨_, hy1⟩ := hc 1 _ rfl _ rfl
    obtain ⟨_, hy2⟩ := hc 2 _ rfl _ rfl
    obtain ⟨_, hy3⟩ := hc 3 _ rfl _ rfl
    obtain ⟨_, hy4⟩ := hc 4 _ rfl _ rfl
    obtain ⟨_, hy5⟩ := hc 5 _ rfl _ rfl
    obtain ⟨_, hy6⟩ := hc 6 _ rfl _ rfl
    obtain ⟨b0, rfl, w0⟩ := cell_int Try.underlying3 hy0
    obtain ⟨b1, rfl, w1⟩ := cell_int Try.underlying3 hy1
    obtain ⟨b2, rfl, w2⟩ := cell_int Try.underlying3 hy2
    obtain ⟨b3, rfl, w3⟩ := cell_int Try.underlying37 hy3
    obtain ⟨b4, rfl, w4⟩ := cell_int Try.underlying37 hy4
    obtain ⟨b5, rfl⟩ := cell_bool Try.underlying4 hy5
    obtain ⟨b6, rfl⟩ := cell_bool Try.underlying4 hy6
    exact ⟨(⟨b0, b1, b2, b3, b4, b5, b6⟩ : CallD), ⟨wf_u64 w3, wf_u64 w4⟩, rfl⟩)
  have k2 := h2
  have lt2 : ∀ x ∈ p2, x.block < W.heap.size := by obtain ⟨m, hm⟩ := k2; exact DataW.trod_lt m _ _ _ hm
  obtain ⟨cs2, rfl, sz2⟩ := okWide_struct Try.underlying39 (hval 2 39 v2 rfl rfl)
  rw [show Try.prog.cellsOf 39 = 7 by kernel_rfl] at sz2
  obtain ⟨cl2⟩ := cs2
  obtain ⟨c2_0, c2_1, c2_2, c2_3, c2_4, c2_5, c2_6, rfl⟩ : ∃ c2_0 c2_1 c2_2 c2_3 c2_4 c2_5 c2_6, cl2 = [c2_0, c2_1, c2_2, c2_3, c2_4, c2_5, c2_6] := by
    exact list_7 (by simpa using sz2)
  obtain ⟨f2, hf2⟩ := h2
  obtain ⟨n2, _, hc2⟩ := struct_cells Try.underlying39 (by kernel_rfl) hf2
  obtain ⟨_, hy2_0⟩ := hc2 0 _ rfl _ rfl
  obtain ⟨b2_0, rfl, w2_0⟩ := cell_int Try.underlying3 hy2_0
  obtain ⟨_, hy2_1⟩ := hc2 1 _ rfl _ rfl
  obtain ⟨b2_1, rfl, w2_1⟩ := cell_int Try.underlying3 hy2_1
  obtain ⟨_, hy2_2⟩ := hc2 2 _ rfl _ rfl
  obtain ⟨b2_2, rfl, w2_2⟩ := cell_int Try.underlying3 hy2_2
  obtain ⟨_, hy2_3⟩ := hc2 3 _ rfl _ rfl
  obtain ⟨b2_3, rfl, w2_3⟩ := cell_int Try.underlying37 hy2_3
  obtain ⟨_, hy2_4⟩ := hc2 4 _ rfl _ rfl
  obtain ⟨b2_4, rfl, w2_4⟩ := cell_int Try.underlying37 hy2_4
  obtain ⟨_, hy2_5⟩ := hc2 5 _ rfl _ rfl
  obtain ⟨b2_5, rfl⟩ := cell_bool Try.underlying4 hy2_5
  obtain ⟨_, hy2_6⟩ := hc2 6 _ rfl _ rfl
  obtain ⟨b2_6, rfl⟩ := cell_bool Try.underlying4 hy2_6
  have k3 := h3
  have lt3 : ∀ x ∈ p3, x.block < W.heap.size := by obtain ⟨m, hm⟩ := k3; exact DataW.trod_lt m _ _ _ hm
  obtain ⟨a3, rfl, _, _⟩ := open_bool Try.underlying4 (hval 3 4 v3 rfl rfl) h3
  clear hA0 hval0 hsz0 hsz
  refine (retry_row b0_0 (wf_i64 w0_0) b0_1 (wf_i64 w0_1) b0_2 (wf_i64 w0_2) A1 len1 cap1 l1 hl1 hg1 hlc1 hcap1 hS1 b2_0 (wf_i64 w2_0) b2_1 (wf_i64 w2_1) b2_2 (wf_i64 w2_2) b2_3 (wf_u64 w2_3) b2_4 (wf_u64 w2_4) b2_5 b2_6 a3 (W := W)).mono fun e W' ⟨he, bel⟩ => ?_
  subst he
  exact ⟨_, rfl, _, _, _, [], _, [], hW', trodAll_mk1 (shut_bool Try.underlying4 _), (trodAll_cons_mk (Below.trod laidOut (by kernel_rfl) (of_decide_eq_true (by kernel_rfl)) k0 bel lt0) (trodAll_cons_mk (Below.trod laidOut (by kernel_rfl) (of_decide_eq_true (by kernel_rfl)) k1 bel lt1) (trodAll_cons_mk (Below.trod laidOut (by kernel_rfl) (of_decide_eq_true (by kernel_rfl)) k2 bel lt2) (trodAll_cons_mk (Below.trod laidOut (by kernel_rfl) (of_decide_eq_true (by kernel_rfl)) k3 bel lt3) trodAll_mk0)))), rfl, bel.frame _, fun h => by cases h⟩
theorem over : Rows.flashRetryRow.holds Try.pinned (OpenSpec.ofChange Rows.flashRetrySpec) :=
  OpenClaim.holds_of_wide 7 Try.f7 rfl rfl rfl rfl rfl rfl rfl ⟨rfl, rfl, rfl, rfl, rfl⟩ rfl rfl rfl rfl rfl (by kernel_rfl) Try.func7 (by kernel_rfl)
    (of_decide_eq_true (by kernel_rfl)) (by unfold Func.isWrapper; first | (rw [if_pos (by decide +kernel)]; kernel_rfl) | (rw [if_neg (by decide +kernel)]; exact ⟨rfl, rfl⟩))
    (fun os started H enc _ => lifted os started H enc)
end Go.Proofs.Ytachkcoilhlggaa.flashRetry
namespace Go.Proofs.Ytachkcoilhlggaa
theorem flashRetry_holds : Rows.FlashRetrySaid := flashRetry.over
#print axioms flashRetry_holds
end Go.Proofs.Ytachkcoilhlggaa
