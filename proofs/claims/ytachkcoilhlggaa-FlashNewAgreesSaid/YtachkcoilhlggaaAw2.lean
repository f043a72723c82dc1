/- The walk over the sanity check of chapter 40. -/
import Derived.Test.YtachkcoilhlggaaAw
set_option linter.unusedVariables false
set_option linter.unusedSimpArgs false
namespace Go.Proofs.Ytachkcoilhlggaa
open Go.RowKit Go.PF

set_option maxHeartbeats 2000000 in
theorem awake_any (w : World) : Calls Try.prog 13 #[] w fun e w' => e = .returned (.bool true) ∧ Below w.heap.size w w' := by
  go_enter Try.func13, Try.ntmps13
  go_wp2_with fail
  refine (new_113 _).mono ?_
  rintro e w1 ⟨b, gp, cp, ge, ce, rfl, hF0, m0, g1, g2, g3⟩
  go_wp2_with fail
  refine (fill_any 15 _).mono ?_
  rintro e w2 ⟨rfl, m2⟩
  have hF2 := hF0.mods m2 id id id
  go_wp2_with fail
  refine (prog_any 0 0 (fillS 15) _ hF2 wf0).mono ?_
  rw [p1]
  rintro e w3 ⟨rfl, hF3, m3⟩
  go_wp2_with fail
  refine (fill_any 7 _).mono ?_
  rintro e w4 ⟨rfl, m4⟩
  have hF4 := hF3.mods m4 id id id
  go_wp2_with fail
  refine (prog_any 0 0 (fillS 7) _ hF4 wf1).mono ?_
  rw [p2]
  rintro e w5 ⟨rfl, hF5, m5⟩
  go_wp2_with fail
  refine (fill_any 8 _).mono ?_
  rintro e w6 ⟨rfl, m6⟩
  have hF6 := hF5.mods m6 id id id
  go_wp2_with fail
  refine (prog_any 0 0 (fillS 8) _ hF6 wf2).mono ?_
  rw [p3]
  rintro e w7 ⟨rfl, hF7, m7⟩
  go_wp2_with fail
  refine (erase_any 0 _ hF7 wf3).mono ?_
  rw [p4]
  rintro e w8 ⟨rfl, hF8, m8⟩
  go_wp2_with fail
  refine (cutAfter_any 0 1 _ hF8).mono ?_
  rintro e w9 ⟨rfl, hF9, m9⟩
  go_wp2_with fail
  refine (fill_any 0 _).mono ?_
  rintro e w10 ⟨rfl, m10⟩
  have hF10 := hF9.mods m10 id id id
  go_wp2_with fail
  refine (prog_any (s := k5) 0 0 (fillS 0) _ hF10 wf5).mono ?_
  rw [p6]
  rintro e w11 ⟨rfl, hF11, m11⟩
  go_wp2_with fail
  refine (read_any 0 0 _ hF11 wf6).mono ?_
  rw [r6]
  rintro e w12 ⟨rfl, n12, rfl⟩
  have hF12 := hF11.drewN n12
  go_wp2_with fail
  refine (powerOn_any _ hF12).mono ?_
  rw [o6]
  rintro e w13 ⟨rfl, hF13, m13⟩
  go_wp2_with fail
  refine (read_any (s := k7) 0 0 _ hF13 wf7).mono ?_
  rw [r7]
  obtain ⟨b0, b1, b8⟩ := pg7b
  have hs := pg7s
  generalize pg7 = pg at b0 b1 b8 hs ⊢
  rintro e w14 ⟨rfl, n14, rfl⟩
  have hF14 := FlashAt.drewN (s := k7) hF13 n14
  have c0 : ∀ h, ((pg[0]'h).toNat : Int) = 254 := fun h => by rw [byt_at]; exact b0
  have c1 : ∀ h, ((pg[1]'h).toNat : Int) = 255 := fun h => by rw [byt_at]; exact b1
  have c8 : ∀ h, ((pg[8]'h).toNat : Int) = 254 := fun h => by rw [byt_at]; exact b8
  clear b0 b1 b8
  go_wp2_with fail
  refine (erases_any (s := k7) 0 _ hF14 wf7).mono ?_
  rw [e7]
  rintro e w15 ⟨rfl, rfl⟩
  go_wp2
  go_ret
  refine ⟨rfl, Mods.toBelow (F := FlF b gp ge) ?_ ?_ (Nat.le_refl _)⟩
  · exact (((((((((((((m0.mono (fun _ h => h.elim)).no m2).trans m3 (fun i h => .inl h)).no m4).trans m5 (fun i h => .inl h)).no m6).trans m7 (fun i h => .inl h)).trans m8 (fun i h => .inl h)).trans m9 (fun i h => .inl (.inl h))).no m10).trans m11 (fun i h => .inl h)).drewN n12).trans m13 (fun i h => .inl (.inl h))).drewN n14
  · rintro k (rfl | rfl | rfl)
    · exact g1
    · exact g2
    · exact g3
end Go.Proofs.Ytachkcoilhlggaa
