/- Replaying events: the plain law. -/
import Derived.Test.YtamdanpkkcdhbaaEv3
set_option linter.unusedVariables false
set_option linter.unusedSimpArgs false
namespace Go.Proofs.Ytamdanpkkcdhbaa
open Go.RowKit Go.PF

def stepE (regs : List (List Int)) (e : Ev) : List (List Int) := regs.set e.reg.toNat (extL (regs.getD e.reg.toNat []) e.dig)
/-- the registers behind events -/
def replayL (evs : List Ev) : List (List Int) := evs.foldl stepE zeroRegs
theorem replayL_push (evs : List Ev) (e : Ev) : replayL (evs ++ [e]) = stepE (replayL evs) e := by simp [replayL, List.foldl_append]
theorem replayL_append (evs fs : List Ev) : replayL (evs ++ fs) = fs.foldl stepE (replayL evs) := by simp [replayL, List.foldl_append]
theorem stepE_ok {regs : List (List Int)} (h : Regs regs) (e : Ev) : Regs (stepE regs e) := h.set _ (shaL_length _)
theorem replayL_ok (evs : List Ev) : Regs (replayL evs) := by
  have gen : ∀ (evs : List Ev) (r : List (List Int)), Regs r → Regs (evs.foldl stepE r) := by
    intro evs
    induction evs with
    | nil => intro r h; exact h
    | cons e evs ih => intro r h; exact ih _ (stepE_ok h e)
  exact gen evs _ zeroRegs_ok
/-- a measurement keeps 'the registers are those of the events' -/
theorem measRes_replay (evs : List Ev) (k : Int) (t d : ByteArray) : (measRes (replayL evs) evs k t d).2.1 = replayL (measRes (replayL evs) evs k t d).2.2 := by
  unfold measRes
  split
  · rfl
  split
  · rfl
  · rw [replayL_push]
    rfl
/-- every event names a register -/
def inRegs (evs : List Ev) : Prop := ∀ e ∈ evs, 0 ≤ e.reg ∧ e.reg < 8
theorem measRes_inRegs (regs : List (List Int)) (evs : List Ev) (k : Int) (t d : ByteArray) (h : inRegs evs) : inRegs (measRes regs evs k t d).2.2 := by
  unfold measRes
  split
  · exact h
  split
  · exact h
  · rename_i h1 h2
    intro e he
    rcases List.mem_append.1 he with h3 | h3
    · exact h e h3
    · rw [List.mem_singleton] at h3
      subst h3
      unfold measBad at h1
      show 0 ≤ k ∧ k < 8
      by_cases h4 : 0 ≤ k ∧ k < 8
      · exact h4
      · exact absurd (.inl h4) h1
end Go.Proofs.Ytamdanpkkcdhbaa
