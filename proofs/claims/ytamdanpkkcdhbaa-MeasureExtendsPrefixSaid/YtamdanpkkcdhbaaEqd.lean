/- Equal, on digests. -/
import Derived.Test.YtamdanpkkcdhbaaQt1
set_option linter.unusedVariables false
set_option linter.unusedSimpArgs false
namespace Go.Proofs.Ytamdanpkkcdhbaa
open Go.RowKit Go.PF

set_option maxHeartbeats 1000000 in
set_option maxRecDepth 100000 in
theorem equalD_same (A A' : Option Addr) (c c' : Nat) (rs : List (List Int)) (hok : ∀ r ∈ rs, r.length = 32) (hn : rs.length ≤ 1000) (w : World) (h1 : RegsSl w A rs) (h2 : RegsSl w A' rs) :
    Calls Try.prog 31 #[.slice A rs.length c, .slice A' rs.length c'] w fun e w' => e = .returned (.bool true) ∧ Mods No w w' := by
  have HR1 := Lib.hid h1
  have HR2 := Lib.hid h2
  have HO := Lib.hid hok
  clear h1 h2 hok
  go_enter Try.func31, Try.ntmps31
  go_wp2_with fail
  go_loopw [5] (fun q wr => ∃ k : Nat, k ≤ rs.length ∧ q = .int .i64 k ∧ Mods No w wr) (fun q _ => rs.length - (intOf q).toNat)
  case atStart => exact ⟨0, Nat.zero_le _, rfl, Mods.refl _ _⟩
  case round =>
    obtain ⟨k, hk, rfl, hM⟩ := hrel
    by_cases hlt : k < rs.length
    · obtain ⟨e, he⟩ := some_at (l := rs) (i := k) hlt
      have hD := HO.out e (List.mem_of_getElem? he)
      obtain ⟨g1, o1, rfl, r1⟩ := (HR1.out.no hM) k e he
      obtain ⟨g2, o2, rfl, r2⟩ := (HR2.out.no hM) k e he
      have hkl : (k : Int) < rs.length := by omega
      have hE : ∀ w, (binOp .neq 26 (.agg (u8s e).toArray) (.agg (u8s e).toArray)).run Try.prog w = .ok (.bool false) w := fun w => by rw [digNe e e hD hD w]; simp
      have R1 : Hid (∀ x : Ext wr, x.w.rangeAt g1 (o1 + k * 32) (u8s e)) := fun x j u hu => x.m.cell (r1 j u hu) id
      have R2 : Hid (∀ x : Ext wr, x.w.rangeAt g2 (o2 + k * 32) (u8s e)) := fun x j u hu => x.m.cell (r2 j u hu) id
      have HI := Lib.hid (info32 hD)
      clear r1 r2 he hlt
      go_wp2_with fail
      refine wp_region_ext 9 (by kernel_rfl) (by kernel_rfl) ?_
      simp only [List.take_succ_cons, List.take_zero, List.drop_succ_cons, List.drop_zero]
      repeat (first | go_big_quiet_skip | (go_big_quiet_want; first
        | (refine quiet_load_row 26 (.tmp 19) rfl g1 (o1 + k * 32) (by rfl) (u8s e) _ (fun _ ⟨x, h⟩ => h ▸ R1.out x) Try.underlying26 rfl HI.out ?_; go_big_quiet_on; simp only [Act.put, List.setIfInBounds_toArray, List.set_cons_succ, List.set_cons_zero])
        | (refine quiet_load_row 26 (.tmp 23) rfl g2 (o2 + k * 32) (by rfl) (u8s e) _ (fun _ ⟨x, h⟩ => h ▸ R2.out x) Try.underlying26 rfl HI.out ?_; go_big_quiet_on; simp only [Act.put, List.setIfInBounds_toArray, List.set_cons_succ, List.set_cons_zero])
        | (go_big_quiet_op; go_big_quiet_on)))
      refine wpQuiet_nil ?_
      intro x
      have HM := Lib.hid (hM.no x.m)
      clear hM
      go_wp2_with fail
      go_roundw
      case rel => exact ⟨k + 1, by omega, by go_num, HM.out⟩
      case measure => simp [intOf]; omega
    · obtain rfl : k = rs.length := by omega
      go_wp2_with fail
      go_ret
      exact ⟨rfl, hM⟩
end Go.Proofs.Ytamdanpkkcdhbaa
