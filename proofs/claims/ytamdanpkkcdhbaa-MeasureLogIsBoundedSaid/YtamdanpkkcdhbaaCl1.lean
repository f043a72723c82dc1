/- The statements' calls, and whether there are too many or too large ones. -/
import Derived.Test.YtamdanpkkcdhbaaRl2
set_option linter.unusedVariables false
set_option linter.unusedSimpArgs false
namespace Go.Proofs.Ytamdanpkkcdhbaa
open Go.RowKit Go.PF

structure MCall where
  reg : Int
  text : ByteArray
  data : ByteArray
  odd : Bool
structure MCall.WF (c : MCall) : Prop where
  reg : -9223372036854775808 ≤ c.reg ∧ c.reg < 9223372036854775808
  text : c.text.size ≤ maxLen
  data : c.data.size ≤ maxLen
def mCells (c : MCall) : List Value := [.int .i64 c.reg, .string c.text, .string c.data, .bool c.odd]
def MCall.big (c : MCall) : Bool := decide (100 < c.text.size) || decide (100 < c.data.size)
def isLarge (l : List MCall) : Bool := l.any MCall.big || decide (12 < l.length)
theorem isLarge_small {l : List MCall} (h : isLarge l = false) : l.length ≤ 12 ∧ ∀ c ∈ l, c.text.size ≤ 100 ∧ c.data.size ≤ 100 := by
  simp only [isLarge, Bool.or_eq_false_iff, decide_eq_false_iff_not, List.any_eq_false] at h
  refine ⟨by omega, fun c hc => ?_⟩
  have := h.1 c hc
  simp only [MCall.big, Bool.or_eq_true, decide_eq_true_eq, not_or] at this
  omega
/-- one of the calls, in the world -/
structure CallAt (w : World) (A : Option Addr) (k : Nat) (c : MCall) (g o : Nat) : Prop where
  addr : A = some ⟨g, o, none⟩
  c0 : w.cell? ⟨g, o + k * 4, none⟩ = some (.int .i64 c.reg)
  c1 : w.cell? ⟨g, o + k * 4 + 1, none⟩ = some (.string c.text)
  c2 : w.cell? ⟨g, o + k * 4 + 2, none⟩ = some (.string c.data)
  c3 : w.cell? ⟨g, o + k * 4 + 3, none⟩ = some (.bool c.odd)
theorem Sl.callAt {w : World} {A : Option Addr} {len : Nat} {l : List MCall} (h : Sl w 4 A len (l.flatMap mCells)) {k : Nat} {c : MCall} (hl : l.length = len) (hk : l[k]? = some c) : ∃ g o, CallAt w A k c g o := by
  have hkl : k < len := by rw [← hl]; exact (List.getElem?_eq_some_iff.1 hk).1
  obtain ⟨g, o, hA, hc⟩ := h.2.2 (by omega)
  have ec : ∀ j, j < 4 → ∀ v, (mCells c)[j]? = some v → w.cell? ⟨g, o + k * 4 + j, none⟩ = some v := fun j hj v hv => by
    have := hc (k * 4 + j) v (by rw [flat_get mCells 4 (fun _ => rfl) l k j hj, hk]; exact hv)
    rwa [Nat.add_assoc]
  exact ⟨g, o, hA, ec 0 (by omega) _ rfl, ec 1 (by omega) _ rfl, ec 2 (by omega) _ rfl, ec 3 (by omega) _ rfl⟩

set_option maxHeartbeats 1000000 in
theorem large_any (A : Option Addr) (len cap : Nat) (l : List MCall) (w : World) (hl : l.length = len) (hS : Sl w 4 A len (l.flatMap mCells)) :
    Calls Try.prog 19 #[.slice A len cap] w fun e w' => e = .returned (.bool (isLarge l)) ∧ w = w' := by
  have HS := Lib.hid hS
  go_enter Try.func19, Try.ntmps19
  go_wp2_with fail
  go_loopw [3] (fun q wr => ∃ k : Nat, k ≤ len ∧ q = .int .i64 k ∧ w = wr ∧ ∀ c ∈ l.take k, c.big = false) (fun q _ => len - (intOf q).toNat)
  case atStart => exact ⟨0, Nat.zero_le _, rfl, rfl, fun c hc => by cases hc⟩
  case round =>
    obtain ⟨k, hk, rfl, rfl, hb⟩ := hrel
    by_cases hlt : k < len
    · obtain ⟨c, hc⟩ := some_at (l := l) (i := k) (by omega)
      obtain ⟨g, o, hA⟩ := Sl.callAt hS hl hc
      obtain ⟨rfl, c0, c1, c2, c3⟩ := hA
      have hkl : (k : Int) < len := by omega
      have hmx : len ≤ 9223372036854775807 := hS.2.1
      have HC := Lib.hid hc
      have HB := Lib.hid hb
      by_cases h1 : 100 < c.text.size
      · have h1' : (100 : Int) < c.text.size := by omega
        have hr : isLarge l = true := by
          unfold isLarge
          rw [List.any_eq_true.2 ⟨c, List.mem_of_getElem? hc, by unfold MCall.big; rw [decide_eq_true h1, Bool.true_or]⟩, Bool.true_or]
        have HR := Lib.hid hr
        clear hc hb hr
        go_wp2_with fail
        go_ret
        exact ⟨by rw [HR.out]; rfl, rfl⟩
      by_cases h2 : 100 < c.data.size
      · have h1' : (c.text.size : Int) ≤ 100 := by omega
        have h2' : (100 : Int) < c.data.size := by omega
        have hr : isLarge l = true := by
          unfold isLarge
          rw [List.any_eq_true.2 ⟨c, List.mem_of_getElem? hc, by unfold MCall.big; rw [decide_eq_true h2, Bool.or_true]⟩, Bool.true_or]
        have HR := Lib.hid hr
        clear hc hb hr
        go_wp2_with fail
        go_ret
        exact ⟨by rw [HR.out]; rfl, rfl⟩
      · have h1' : (c.text.size : Int) ≤ 100 := by omega
        have h2' : (c.data.size : Int) ≤ 100 := by omega
        have hs : c.big = false := by unfold MCall.big; rw [decide_eq_false h1, decide_eq_false h2]; rfl
        have HG := Lib.hid hs
        clear hc hb hs
        go_wp2_with fail
        go_roundw
        case rel => exact ⟨k + 1, by omega, by go_num, (by first | rfl | trivial), fun c' hc' => by
          rw [take_succ_of HC.out, List.mem_append, List.mem_singleton] at hc'
          rcases hc' with h | h
          · exact HB.out c' h
          · rw [h]; exact HG.out⟩
        case measure => simp [intOf]; omega
    · obtain rfl : k = len := by omega
      rw [← hl, List.take_length] at hb
      have hr : isLarge l = decide ((12 : Int) < k) := by
        unfold isLarge
        rw [List.any_eq_false.2 (fun c hc => by rw [hb c hc]; simp), Bool.false_or, hl, Bool.eq_iff_iff, decide_eq_true_eq, decide_eq_true_eq]
        omega
      have HR := Lib.hid hr
      clear hr hb
      go_wp2_with fail
      go_ret
      exact ⟨by rw [HR.out]; rfl, rfl⟩
end Go.Proofs.Ytamdanpkkcdhbaa
