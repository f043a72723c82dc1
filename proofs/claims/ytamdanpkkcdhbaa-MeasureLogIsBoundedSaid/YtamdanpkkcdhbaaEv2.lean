/- Equality of events. -/
import Derived.Test.YtamdanpkkcdhbaaEv1
set_option linter.unusedVariables false
set_option linter.unusedSimpArgs false
namespace Go.Proofs.Ytamdanpkkcdhbaa
open Go.RowKit Go.PF

def Ev.same (e f : Ev) : Bool := e.reg == f.reg && (e.dig == f.dig && e.text == f.text)
theorem evPart0 (e : Ev) (w : World) : (part 3 (evV e).toArray 0).run Try.prog w = .ok (.int .i64 e.reg) w := by simp [part, isAgg, evV, run_underlying Try.underlying3]
theorem evPart1 (e : Ev) (he : e.dig.length = 32) (w : World) : (part 26 (evV e).toArray 1).run Try.prog w = .ok (.agg (u8s e.dig).toArray) w := by
  have hs : ∀ w, (sizeOf 26).run Try.prog w = .ok 32 w := fun w => by kernel_rfl
  simp [part, isAgg, run_underlying Try.underlying26, hs, evV]
  rw [List.take_append_of_le_length (by rw [u8s_length]; omega), List.take_of_length_le (by rw [u8s_length]; omega)]
theorem evPart2 (e : Ev) (he : e.dig.length = 32) (w : World) : (part 9 (evV e).toArray 33).run Try.prog w = .ok (.string e.text) w := by
  have h33 : (evV e)[33]? = some (.string e.text) := by
    unfold evV
    rw [List.getElem?_cons_succ, List.getElem?_append_right (by rw [u8s_length]; omega), u8s_length, he]
    rfl
  simp [part, isAgg, run_underlying Try.underlying9, h33]
theorem evNe (e f : Ev) (he : e.dig.length = 32) (hf : f.dig.length = 32) (w : World) : (binOp .neq 45 (.agg (evV e).toArray) (.agg (evV f).toArray)).run Try.prog w = .ok (.bool !(e.same f)) w := by
  have st : Try.prog.stoodInHeld 45 = false := by kernel_rfl
  have q0 : ∀ w, (Op.equalIn 9999 3 (.int .i64 e.reg) (.int .i64 f.reg)).run Try.prog w = .ok (e.reg == f.reg) w := fun w => run_equalIn_int w 9998 3 .i64 .i64 _ _ Try.underlying3
  have q1 : ∀ w, (Op.equalIn 9999 26 (.agg (u8s e.dig).toArray) (.agg (u8s f.dig).toArray)).run Try.prog w = .ok (e.dig == f.dig) w := fun w => equalIn_u8s w 9997 26 5 32 Try.underlying26 Try.underlying5 (fun w => by kernel_rfl) _ _ he hf
  have q2 : ∀ w, (Op.equalIn 9999 9 (.string e.text) (.string f.text)).run Try.prog w = .ok (e.text == f.text) w := fun w => by
    rw [Op.equalIn]
    simp [run_underlying Try.underlying9]
  have hp : ∀ w, (program : Sem Program).run Try.prog w = .ok Try.prog w := fun w => rfl
  rw [run_neq_struct, Op.equalIn]
  unfold Ev.same
  simp only [Sem.run_bind, run_underlying Try.underlying45, Result.andThen_ok, hp, st, Bool.false_eq_true, if_false]
  cases h0 : (e.reg == f.reg) <;> cases h1 : (e.dig == f.dig) <;> cases h2 : (e.text == f.text) <;> simp [evPart0, evPart1 _ he, evPart1 _ hf, evPart2 _ he, evPart2 _ hf, q0, q1, q2, h0, h1, h2]
end Go.Proofs.Ytamdanpkkcdhbaa
