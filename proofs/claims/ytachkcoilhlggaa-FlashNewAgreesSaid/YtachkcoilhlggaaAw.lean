/- The walk over the sanity check of chapter 40. -/
import Derived.Test.YtachkcoilhlggaaPl1
set_option linter.unusedVariables false
set_option linter.unusedSimpArgs false
namespace Go.Proofs.Ytachkcoilhlggaa
open Go.RowKit Go.PF

def k0 : FlashS := newFlash 1 1 3
def k1 : FlashS := (k0.prog 0 0 (fillS 15)).2
def k2 : FlashS := (k1.prog 0 0 (fillS 7)).2
def k3 : FlashS := (k2.prog 0 0 (fillS 8)).2
def k4 : FlashS := (k3.erase 0).2
def k5 : FlashS := { k4 with planned := decide ((0 : Int) ≤ 0), left := max 0 0, torn := 1 }
def k6 : FlashS := (k5.prog 0 0 (fillS 0)).2
def k7 : FlashS := { k6 with off := false }
theorem p1 : k0.prog 0 0 (fillS 15) = (0, k1) := Prod.ext (by decide +kernel) rfl
theorem p2 : k1.prog 0 0 (fillS 7) = (0, k2) := Prod.ext (by decide +kernel) rfl
theorem p3 : k2.prog 0 0 (fillS 8) = (9, k3) := Prod.ext (by decide +kernel) rfl
theorem p4 : k3.erase 0 = (0, k4) := Prod.ext (by decide +kernel) rfl
theorem p6 : k5.prog 0 0 (fillS 0) = (16, k6) := Prod.ext (by decide +kernel) rfl
theorem r6 : k6.read 0 0 = (ByteArray.empty, 16) := by
  have h : k6.chk 0 0 = 16 := by decide +kernel
  unfold FlashS.read
  rw [h]
  rfl
theorem o6 : k6.off = true := by decide +kernel
def pg7 : ByteArray := k7.page 0 0
theorem r7 : k7.read 0 0 = (pg7, 0) := by
  have h : k7.chk 0 0 = 0 := by decide +kernel
  unfold FlashS.read
  rw [h]
  rfl
theorem pg7s : pg7.size = 64 := by decide +kernel
theorem pg7b : ((pg7.data.toList.getD 0 0).toNat : Int) = 254 ∧ ((pg7.data.toList.getD 1 0).toNat : Int) = 255 ∧ ((pg7.data.toList.getD 8 0).toNat : Int) = 254 := by decide +kernel
theorem e7 : k7.era 0 = 1 := by decide +kernel
theorem ok113 : okShape 1 1 3 := by unfold okShape; decide
theorem wf0 : k0.WF := newFlash_wf ok113
theorem wf1 : k1.WF := prog_wf wf0 _ _ _
theorem wf2 : k2.WF := prog_wf wf1 _ _ _
theorem wf3 : k3.WF := prog_wf wf2 _ _ _
theorem wf4 : k4.WF := erase_wf wf3 _
theorem wf5 : k5.WF := ⟨wf4.nb0, wf4.nb1, wf4.np0, wf4.np1, wf4.en0, wf4.en1, wf4.pl, wf4.el, wf4.p64, wf4.e0, ⟨by show (0 : Int) ≤ max 0 0; omega, by show max (0 : Int) 0 < _; omega⟩, ⟨by show (0 : Int) ≤ 1; omega, by show (1 : Int) < _; omega⟩⟩
theorem wf6 : k6.WF := prog_wf wf5 _ _ _
theorem wf7 : k7.WF := ⟨wf6.nb0, wf6.nb1, wf6.np0, wf6.np1, wf6.en0, wf6.en1, wf6.pl, wf6.el, wf6.p64, wf6.e0, wf6.l0, wf6.t0⟩

theorem new_113 (w : World) :
    Calls Try.prog 8 #[.agg #[.int .i64 1, .int .i64 1, .int .i64 3]] w fun e w' => ∃ b gp cp ge ce, e = .returned (.tuple #[.pointer (some ⟨b, 0, none⟩), .int .i64 0]) ∧ FlashAt w' b gp cp ge ce k0 ∧ Mods No w w' ∧ w.heap.size ≤ b ∧ w.heap.size ≤ gp ∧ w.heap.size ≤ ge := new_ok 1 1 3 w ok113

end Go.Proofs.Ytachkcoilhlggaa
