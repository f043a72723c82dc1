/- The walks over the reference's New of chapter 40, and over Shape. -/
import Derived.Test.YtachkcoilhlggaaPl3
import Derived.OwnWalk
set_option linter.unusedVariables false
set_option linter.unusedSimpArgs false
namespace Go.Proofs.Ytachkcoilhlggaa
open Go.RowKit Go.PF

theorem infoStrs : (Try.prog.info? 58).map (fun i => (i.zero, i.size, i.bytes)) = some (some (.slice none 0 0), 1, 24) := by kernel_rfl

theorem erased_any (w : World) :
    Calls Try.prog 28 #[] w fun e w' => e = .returned (.string (fillS 255)) ∧ Mods No w w' := by
  have hmk := run_make_row' (P := Try.prog) 71 5 (.int .u8 0) 1 Try.underlying71 infoByte rfl .i64 .i64 64 (by omega) (by omega)
  have hmk2 : ∀ W : World, (Instr.makeSlice 71 (.int .i64 64) (.int .i64 64)).run Try.prog W = .ok (.slice (some ⟨W.heap.size, 0, none⟩) 64 64) (W.alloc (.cells (madeCells #[.int .u8 0] 64) 5)) := hmk
  clear hmk
  go_enter Try.func28, Try.ntmps28
  go_wp2
  have hb0 := Bytes.made w 5 64
  go_loopw [2] (fun q wr => ∃ k : Nat, k ≤ 64 ∧ q = .int .i64 k ∧ Bytes wr w.heap.size 64 (fun j => if j < k then 255 else 0) ∧ Mods No w wr) (fun q _ => 64 - (intOf q).toNat)
  case atStart => exact ⟨0, by omega, rfl, hb0.congr (fun j _ => by simp), (Mods.refl _ _).alloc _⟩
  case round =>
    obtain ⟨k, hk, rfl, hB, hM⟩ := hrel
    clear hb0
    by_cases hlt : k < 64
    · obtain ⟨c0, f0⟩ := hB k hlt
      have HB : Hid (Bytes wr w.heap.size 64 (fun j => if j < k then 255 else 0)) := hB
      clear hB
      go_wp2
      go_roundw
      case rel => exact ⟨k + 1, by omega, by go_num, (HB.out.set hlt 255).congr (fun j _ => by
        by_cases e : j = k
        · rw [if_pos e, if_pos (by omega)]
        · rw [if_neg e]
          by_cases g : j < k
          · rw [if_pos g, if_pos (by omega)]
          · rw [if_neg g, if_neg (by omega)]), hM.setCell (.inr (Nat.le_refl _)) _⟩
      case measure => simp [intOf]; omega
    · obtain rfl : k = 64 := by omega
      have hcv := (hB.congr (g := fun _ => 255) (fun j hj => by rw [if_pos hj])).str (P := Try.prog) 64 71 5 9 Try.underlying71 Try.underlying5 Try.underlying9
      clear hB
      go_wp2
      go_ret
      refine ⟨?_, hM⟩
      have e : (List.range 64).map (fun _ => (255 : Int)) = List.replicate 64 255 := by rw [List.map_const', List.length_range]
      show Ending.returned (.string (strOfNums ((List.range 64).map fun _ => (255 : Int)))) = _
      rw [e]
      rfl

theorem ownsMods {w w' : World} {B e k : Nat} {v : Value} {n : Nat} {xs : List Value} (h : w.ownsRow B e k v n xs) (hm : Mods No w w') : w'.ownsRow B e k v n xs := by
  refine ⟨h.1, ?_⟩
  rcases h.2 with h2 | ⟨g, cap, cur, rfl, hb, hg, r⟩
  · exact .inl h2
  · exact .inr ⟨g, cap, cur, rfl, hb, hm.heap hg id, r⟩

theorem keepBlock {w w' : World} {v : Value} (hg : w.grownBy w' v.ownBlock) {b : Nat} {o : Obj} (h : w.heap[b]? = some o) (hne : ∀ g, v.ownBlock = some g → g ≠ b) : w'.heap[b]? = some o :=
  (hg.block b (heap_lt h) (fun e => hne b e.symm rfl)).trans h
theorem keepRow {w w' : World} {B e e' k k' n n' : Nat} {u v : Value} {xs ys : List Value} (hg : w.grownBy w' u.ownBlock) (hu : w.ownsRow B e k u n xs) (hv : w.ownsRow B e' k' v n' ys) (hT : e ≠ e') : w'.ownsRow B e' k' v n' ys :=
  hv.kept hg (by
    cases hv' : v.ownBlock with
    | none => exact .inl rfl
    | some g => exact .inr (fun e => (Own.of hu).ne' (Own.of hv) hT g e.symm hv'))
theorem ownsOne {w : World} {B e k : Nat} {v : Value} {n : Nat} {xs : List Value} (h : w.ownsRow B e k v n xs) : v.oneCell' = true := by
  rcases h.2 with ⟨rfl, _⟩ | ⟨g, cap, cur, rfl, _⟩ <;> rfl
theorem newCell (w : World) (u : Value) (T : TypeId) : ∀ (j : Nat) (v : Value), [u][j]? = some v → (w.alloc (.cells #[u] T)).cell? ((⟨w.heap.size, 0, none⟩ : Addr).add j) = some v := by
  intro j v hj
  match j, hj with
  | 0, hj =>
    simp at hj
    subst hj
    have := heap_cell (heap_alloc_new w (.cells #[u] T)) 0
    simp [Addr.add]

theorem refNew_bad (nb np en : Int) (w : World) (h : ¬ okShape nb np en) :
    Calls Try.prog 9 #[.agg #[.int .i64 nb, .int .i64 np, .int .i64 en]] w fun e w' => (∃ p, e = .returned (.tuple #[p, .int .i64 1])) ∧ Mods No w w' := by
  unfold okShape at h
  go_enter Try.func9, Try.ntmps9
  go_wp2_with fail
  all_goals first
    | (go_ret2; exact ⟨⟨_, rfl⟩, (Mods.refl _ _).alloc _⟩)
    | (exfalso; omega)

set_option maxHeartbeats 2000000 in
theorem refNew_ok (B P : Nat) (en : Int) (w : World) (h : okShape B P en) :
    Calls Try.prog 9 #[.agg #[.int .i64 B, .int .i64 P, .int .i64 en]] w fun e w' => (∃ p, e = .returned (.tuple #[p, .int .i64 0])) ∧ Mods No w w' := by
  obtain ⟨h1, h2, h3, h4, h5, h6⟩ := h
  have hmk := run_make_row' (P := Try.prog) 56 3 (.int .i64 0) 8 Try.underlying56 infoInt rfl .i64 .i64 B (by omega) (by omega)
  go_enter Try.func9, Try.ntmps9
  go_wp2_with fail
  go_region
  go_wp2
  generalize hW : (((w.alloc (Obj.cells #[Value.int IntKind.i64 B, Value.int IntKind.i64 P, Value.int IntKind.i64 en] 23)).alloc (Obj.cells (madeCells #[Value.int IntKind.i64 0] B) 3)).alloc
    (Obj.cells #[Value.int IntKind.i64 B, Value.int IntKind.i64 P, Value.int IntKind.i64 en, Value.slice none 0 0, Value.slice (some { block := w.heap.size + 1, off := 0 }) B B, Value.bool false, Value.int IntKind.i64 (-1), Value.int IntKind.u64 0] 65)).drew = W
  have hM : Mods No w W := by rw [← hW]; exact ((((Mods.refl _ _).alloc _).alloc _).alloc _).drew
  have hS : W.heap[w.heap.size]? = some (Obj.cells #[Value.int IntKind.i64 B, Value.int IntKind.i64 P, Value.int IntKind.i64 en] 23 (0, 0)) := by
    rw [← hW]; exact heap_old (heap_old (heap_alloc_new w _) _) _
  have hB : W.heap[w.heap.size + 1 + 1]? = some (Obj.cells #[Value.int IntKind.i64 B, Value.int IntKind.i64 P, Value.int IntKind.i64 en, Value.slice none 0 0, Value.slice (some { block := w.heap.size + 1, off := 0 }) B B, Value.bool false, Value.int IntKind.i64 (-1), Value.int IntKind.u64 0] 65 (0, 0)) := by
    rw [← hW]
    have := heap_alloc_new ((w.alloc (Obj.cells #[Value.int IntKind.i64 B, Value.int IntKind.i64 P, Value.int IntKind.i64 en] 23)).alloc (Obj.cells (madeCells #[Value.int IntKind.i64 0] B) 3)) (Obj.cells #[Value.int IntKind.i64 B, Value.int IntKind.i64 P, Value.int IntKind.i64 en, Value.slice none 0 0, Value.slice (some { block := w.heap.size + 1, off := 0 }) B B, Value.bool false, Value.int IntKind.i64 (-1), Value.int IntKind.u64 0] 65)
    rw [show ((w.alloc (Obj.cells #[Value.int IntKind.i64 B, Value.int IntKind.i64 P, Value.int IntKind.i64 en] 23)).alloc (Obj.cells (madeCells #[Value.int IntKind.i64 0] B) 3)).heap.size = w.heap.size + 1 + 1 by simp] at this
    exact this
  obtain ⟨b0, hb0⟩ : ∃ b0, w.heap.size = b0 := ⟨_, rfl⟩
  rw [hb0] at hS hB ⊢
  clear hW hmk
  obtain ⟨b2, hb2⟩ : ∃ b2, b0 + 1 + 1 = b2 := ⟨_, rfl⟩
  simp only [hb2] at hB ⊢
  obtain ⟨i9, hi9, hz9, hs9, hy9⟩ := info_parts infoStr
  obtain ⟨i8, hi8, hz8, hs8, hy8⟩ := info_parts infoStrs
  go_loopw [5] (fun q wr => ∃ k : Nat, k ≤ B ∧ q = .int .i64 k ∧ ∃ v xs, wr.heap[b0]? = some (.cells #[.int .i64 B, .int .i64 P, .int .i64 en] 23 (0, 0)) ∧
      wr.heap[b2]? = some (.cells #[.int .i64 B, .int .i64 P, .int .i64 en, v, .slice (some ⟨b0 + 1, 0, none⟩) B B, .bool false, .int .i64 (-1), .int .u64 0] 65 (0, 0)) ∧ wr.ownsRow b0 58 1 v k xs ∧ Mods No w wr) (fun q _ => B - (intOf q).toNat)
  case atStart => exact ⟨0, Nat.zero_le _, rfl, _, [], hS, hB, World.ownsRow_nil _ _ _ _, hM⟩
  case round =>
    obtain ⟨k, hk, rfl, v, xs, gS, gB, hown, hMr⟩ := hrel
    clear hS hB hM
    have s0 : wr.cell? ⟨b0, 0, none⟩ = some (.int .i64 B) := heap_cell gS 0
    have s1 : wr.cell? ⟨b0, 1, none⟩ = some (.int .i64 P) := heap_cell gS 1
    by_cases hlt : k < B
    · have hkl : (k : Int) < B := by omega
      go_wp2_with fail
      go_loopw [6, 7] (fun l q wr => ∃ j : Nat, j ≤ P ∧ q = .int .i64 j ∧ ∃ ys, wr.heap[b0]? = some (.cells #[.int .i64 B, .int .i64 P, .int .i64 en] 23 (0, 0)) ∧
          wr.heap[b2]? = some (.cells #[.int .i64 B, .int .i64 P, .int .i64 en, v, .slice (some ⟨b0 + 1, 0, none⟩) B B, .bool false, .int .i64 (-1), .int .u64 0] 65 (0, 0)) ∧ wr.ownsRow b0 58 1 v k xs ∧ wr.ownsRow b0 9 1 l j ys ∧ Mods No w wr) (fun _ q _ => P - (intOf q).toNat)
      case atStart => exact ⟨0, Nat.zero_le _, rfl, [], gS, gB, hown, World.ownsRow_nil _ _ _ _, hMr⟩
      case round =>
        obtain ⟨j, hj, rfl, ys, gS2, gB2, hown2, hownl, hM2⟩ := hrel
        clear gS gB hown hMr s0 s1
        have s1 : wr.cell? ⟨b0, 1, none⟩ = some (.int .i64 P) := heap_cell gS2 1
        by_cases hlj : j < P
        · have hkj : (j : Int) < P := by omega
          go_wp2_with fail
          refine (erased_any _).mono ?_
          rintro e w3 ⟨rfl, m3⟩
          have gS3 := m3.heap gS2 id
          have gB3 := m3.heap gB2 id
          have ow3 := ownsMods hown2 m3
          have ol3 := ownsMods hownl m3
          have hM3 := hM2.no m3
          clear gS2 gB2 hown2 hownl hM2 s1
          have hbs : b0 ≤ w3.heap.size := by have := hM3.size; omega
          go_wp2_with (at_builtin; refine wpList_append_own _ rfl _ _ 58 rfl b0 9 i9 (.string ByteArray.empty) 1 16 Try.underlying58 hi9 hz9 hs9 hy9 rfl (by decide) _ _ _ rfl (ol3.alloc _) ⟨w3.heap.size, 0, none⟩ 1 1 [.string (fillS 255)] rfl rfl ?c1 ?c2 ?c3 ?c4 ?c5 ?_)
          case c1 => exact newCell _ _ _
          case c2 => intro u hu; simp at hu; subst hu; rfl
          case c3 => unfold maxLen; omega
          case c4 => omega
          case c5 => simp; omega
          intro v' w4 ho hg _
          have olA := ol3.alloc (.cells #[.string (fillS 255)] 9)
          have gSA := heap_old gS3 (.cells #[.string (fillS 255)] 9)
          have gBA := heap_old gB3 (.cells #[.string (fillS 255)] 9)
          have gS4 := keepBlock hg gSA ((Own.of olA).ne gSA (by decide))
          have gB4 := keepBlock hg gBA ((Own.of olA).ne gBA (by decide))
          have ow4 := keepRow hg olA (ow3.alloc _) (by decide)
          have hM4 : Mods No w w4 := (hM3.alloc _).grown hg (fun k hk => .inr (by have := ((ol3.alloc (.cells #[.string (fillS 255)] 9)).lt k hk).1; omega))
          clear gS3 gB3 ow3 ol3 hM3 hg
          go_wp2
          go_roundw
          case rel => exact ⟨j + 1, by omega, by go_num, _, gS4, gB4, ow4, ho, hM4⟩
          case measure => simp [intOf]; omega
        · obtain rfl : j = P := by omega
          have hkj : ¬ (j : Int) < j := by omega
          have b3 : wr.cell? ⟨b2, 3, none⟩ = some v := heap_cell gB2 3
          have hbs : b0 ≤ wr.heap.size := by have := hM2.size; omega
          obtain ⟨A6, c6, rfl, _, _, _⟩ := (Own.of hownl).shape
          obtain ⟨A5, c5, rfl, _, _, _⟩ := (Own.of hown2).shape
          go_wp2_with (at_builtin; refine wpList_append_own _ rfl _ _ 63 rfl b0 58 i8 (.slice none 0 0) 1 24 Try.underlying63 hi8 hz8 hs8 hy8 rfl (by decide) _ _ _ rfl (hown2.alloc _) ⟨wr.heap.size, 0, none⟩ 1 1 [.slice A6 j c6] rfl rfl ?d1 ?d2 ?d3 ?d4 ?d5 ?_)
          case d2 => rfl
          case d3 => unfold maxLen; omega
          case d4 => omega
          case d5 => first | omega | (simp; omega)
          intro v' w4 ho hg _
          obtain ⟨A7, c7, rfl, _, _, _⟩ := (Own.of ho).shape
          have olA := hown2.alloc (.cells #[.slice A6 j c6] 58)
          have gSA := heap_old gS2 (.cells #[.slice A6 j c6] 58)
          have gBA := heap_old gB2 (.cells #[.slice A6 j c6] 58)
          have gS4 := keepBlock hg gSA ((Own.of olA).ne gSA (by decide))
          have gB4 := keepBlock hg gBA ((Own.of olA).ne gBA (by decide))
          have hM4 : Mods No w w4 := (hM2.alloc _).grown hg (fun k hk => .inr (by have := (olA.lt k hk).1; omega))
          have b34 : w4.cell? ⟨b2, 3, none⟩ = some (.slice A5 k c5) := heap_cell gB4 3
          have f34 : w4.frozen? ⟨b2, 3, none⟩ = false := heap_free gB4 3
          have hne2 := (Own.of ho).ne gB4 (by decide)
          clear gS2 gB2 hown2 hownl hM2 hg olA gSA gBA s1 b3
          go_wp2
          go_roundw
          case rel =>
            have ms : Mods (One b2) w4 (w4.setCell ⟨b2, 3, none⟩ (.slice A7 (k + 1) c7)) := mods1 _ _ _ _
            have hB5 := heap_set gB4 (i := 3) (.slice A7 (k + 1) c7)
            refine ⟨k + 1, by omega, by go_num, .slice A7 (k + 1) c7, _, ms.heap gS4 (by show ¬ b0 = b2; omega), by rw [hB5]; simp, ⟨ho.1, ?_⟩, hM4.trans ms (fun i h => .inr (by cases h; omega))⟩
            rcases ho.2 with h2 | ⟨g, cap, cur, e7, hb, hg, r⟩
            · exact .inl h2
            · exact .inr ⟨g, cap, cur, e7, hb, ms.heap hg (fun e => hne2 g (by rw [e7]; rfl) e), r⟩
          case measure => simp [intOf]; omega
    · obtain rfl : k = B := by omega
      have hkl : ¬ (k : Int) < k := by omega
      go_wp2_with fail
      go_ret2
      exact ⟨⟨_, rfl⟩, hMr⟩
end Go.Proofs.Ytachkcoilhlggaa
