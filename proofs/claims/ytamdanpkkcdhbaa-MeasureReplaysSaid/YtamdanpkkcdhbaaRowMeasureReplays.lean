/- The row of the statement MeasureReplays: for every input the law returns true, and its arguments read as before. It follows from the walk of module LawRpl. -/
import Derived.Test.YtamdanpkkcdhbaaRows
import Derived.Test.YtamdanpkkcdhbaaOpen
import Derived.Test.YtamdanpkkcdhbaaLawRpl
import Derived.WalkKit
import Derived.ProofKit
import Derived.OpenShut
import Derived.ShutString
import Derived.ChangeOld
import Derived.Below
import Derived.SizedLaws
set_option linter.unusedVariables false
set_option linter.unusedSimpArgs false
namespace Go.Proofs.Ytamdanpkkcdhbaa.measureReplays
open Go.ChangeShapes Go.WideShapes Go.ChangeAt Go.RowKit Go.PF
open Go.ChangeMaps (open_string shut_string)
theorem own : ownKnob Try.prog.godebug = none := by kernel_rfl
theorem laidOut : laidOutB Try.prog = true := by kernel_rfl
theorem list_4 {l : List Value} (h : l.length = 4) : ∃ x0 x1 x2 x3, l = [x0, x1, x2, x3] := by
  match l, h with
  | [x0, x1, x2, x3], _ => exact ⟨_, _, _, _, rfl⟩
set_option maxRecDepth 100000 in
theorem lifted (os : Os) (started : os.Started) (H : Type) (enc : TypeId × Value → H) :
    ReturnsInHanded {} Try.checked os 10 .any (Rows.measureReplaysSpec.pre6 enc Try.prog Try.f10 Rows.measureReplaysRow.domain false) (Rows.measureReplaysSpec.post enc Try.prog Try.f10 false true false false) := by
  refine returnsInHanded_of_change_sized (C := Try.checked) own started (by kernel_rfl) Try.func10
    (ChangeSpec.witness6 (enc := enc) (C := Try.checked) false ⟨#[], #[.slice none 0 0, .int .i64 0], []⟩ 8 (by kernel_rfl) (by kernel_rfl) (by kernel_rfl) (by kernel_rfl)) ?_
  intro W base args ds gs before hval0 hW hcnd hsz0 _
  have hsz : (DataW.weightsEach Try.prog (Try.f10.params.toList ++ Rows.measureReplaysSpec.plain.varTypes Try.prog) (ds ++ gs)).all (· ≤ reachBytes) = true := hsz0
  have hval : ∀ (j : Nat) t v, Try.f10.params[j]? = some t → args[j]? = some v → Value.okWide Try.prog W .any base t v := hval0
  have hW' := hW
  obtain ⟨p, q, hA0, hV, rfl, hfz, hnd⟩ := hW
  have hA : DataW.TrodAll enc Try.prog W 0 (fun _ => true) true Try.f10.params.toList args.toList ds p := hA0
  rw [Try.params10] at hA hval hsz
  obtain ⟨v0, vs0, d0, ds0, p0, q0, hargs, rfl, rfl, h0, r0⟩ := trodAll_cons hA
  obtain ⟨v1, vs1, d1, ds1, p1, q1, rfl, rfl, rfl, h1, r1⟩ := trodAll_cons r0
  obtain ⟨rfl, rfl, rfl⟩ := trodAll_nil r1
  obtain rfl : args = #[v0, v1] := by cases args; simp_all
  obtain ⟨rfl, rfl⟩ := trodVars_none hV
  have k0 := h0
  have lt0 : ∀ x ∈ p0, x.block < W.heap.size := by obtain ⟨m, hm⟩ := k0; exact DataW.trod_lt m _ _ _ hm
  obtain ⟨A0, len0, cap0, rfl⟩ := okWide_slice Try.underlying31 (hval 0 31 v0 rfl rfl)
  obtain ⟨l0, hl0, hg0, hlc0, hcap0, hS0⟩ := slice_sl mCells 4 (fun _ => rfl) (by decide) (MCall.WF) Try.underlying31 (by kernel_rfl : Try.prog.cellsOf 38 = 4) h0 (by
    intro cs n x hl hr
    obtain ⟨c0, c1, c2, c3, rfl⟩ : ∃ c0 c1 c2 c3, cs = [c0, c1, c2, c3] := by
      exact list_4 hl
    obtain ⟨n', _, hc⟩ := struct_cells Try.underlying38 (by kernel_rfl) hr
    obtain ⟨_, hy0⟩ := hc 0 _ rfl _ rfl
    obtain ⟨_, hy1⟩ := hc 1 _ rfl _ rfl
    obtain ⟨_, hy2⟩ := hc 2 _ rfl _ rfl
    obtain ⟨_, hy3⟩ := hc 3 _ rfl _ rfl
    obtain ⟨b0, rfl, w0⟩ := cell_int Try.underlying3 hy0
    obtain ⟨b1, rfl, w1⟩ := cell_string Try.underlying9 hy1
    obtain ⟨b2, rfl, w2⟩ := cell_string Try.underlying9 hy2
    obtain ⟨b3, rfl⟩ := cell_bool Try.underlying4 hy3
    exact ⟨(⟨b0, b1, b2, b3⟩ : MCall), ⟨wf_i64 w0, w1, w2⟩, rfl⟩)
  have k1 := h1
  have lt1 : ∀ x ∈ p1, x.block < W.heap.size := by obtain ⟨m, hm⟩ := k1; exact DataW.trod_lt m _ _ _ hm
  obtain ⟨a1, rfl, _, _, w1⟩ := open_int Try.underlying3 (hval 1 3 v1 rfl rfl) h1
  clear hA0 hval0 hsz0 hsz
  refine (replays_law A0 len0 cap0 l0 hl0 hg0 hlc0 hcap0 hS0 a1 (wf_i64 w1) (W := W)).mono fun e W' ⟨he, bel⟩ => ?_
  subst he
  exact ⟨_, rfl, _, _, _, [], _, [], hW', trodAll_mk1 (shut_bool Try.underlying4 _), (trodAll_cons_mk (Below.trod laidOut (by kernel_rfl) (of_decide_eq_true (by kernel_rfl)) k0 bel lt0) (trodAll_cons_mk (Below.trod laidOut (by kernel_rfl) (of_decide_eq_true (by kernel_rfl)) k1 bel lt1) trodAll_mk0)), rfl, bel.frame _, fun h => by cases h⟩
theorem over : Rows.measureReplaysRow.holds Try.pinned (OpenSpec.ofChange Rows.measureReplaysSpec) :=
  OpenClaim.holds_of_wide 10 Try.f10 rfl rfl rfl rfl rfl rfl rfl ⟨rfl, rfl, rfl, rfl, rfl⟩ rfl rfl rfl rfl rfl (by kernel_rfl) Try.func10 (by kernel_rfl)
    (of_decide_eq_true (by kernel_rfl)) (by unfold Func.isWrapper; first | (rw [if_pos (by decide +kernel)]; kernel_rfl) | (rw [if_neg (by decide +kernel)]; exact ⟨rfl, rfl⟩))
    (fun os started H enc _ => lifted os started H enc)
end Go.Proofs.Ytamdanpkkcdhbaa.measureReplays
namespace Go.Proofs.Ytamdanpkkcdhbaa
theorem measureReplays_holds : Rows.MeasureReplaysSaid := measureReplays.over
#print axioms measureReplays_holds
end Go.Proofs.Ytamdanpkkcdhbaa
