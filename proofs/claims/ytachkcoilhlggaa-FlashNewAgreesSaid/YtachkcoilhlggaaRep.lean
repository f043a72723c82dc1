/- The walk over slices.Repeat at strings: a slice of one string, repeated. -/
import Derived.Test.YtachkcoilhlggaaBase
import Derived.Test.YtachkcoilhlggaaShelf
import Derived.Test.YtachkcoilhlggaaRows
import Derived.Laws.CopyOwn
import Derived.Deep.RegionLaw
import Derived.Deep.OwnRows
import Derived.RegionTactic
set_option linter.unusedVariables false
set_option linter.unusedSimpArgs false
namespace Go.Proofs.Ytachkcoilhlggaa
open Go.RowKit Go.PF

theorem infoStr : (Try.prog.info? 9).map (fun i => (i.zero, i.size, i.bytes)) = some (some (.string ByteArray.empty), 1, 16) := by kernel_rfl

def repL (x : Value) (n m : Nat) : List Value := List.replicate m x ++ List.replicate (n - m) (.string ByteArray.empty)
theorem repL_length (x : Value) (n m : Nat) (h : m ≤ n) : (repL x n m).length = n := by simp [repL]; omega
theorem splice_reps (x : Value) (n m q : Nat) (hq : m + q ≤ n) : splice (repL x n m) m (List.replicate q x) = repL x n (m + q) := by
  unfold splice repL
  rw [List.length_replicate, List.take_left' (by simp), List.drop_append, List.drop_replicate, List.length_replicate, List.drop_replicate, ← List.replicate_append_replicate, List.append_assoc]
  congr 2
  rw [show m - (m + q) = 0 by omega, show n - m - (m + q - m) = n - (m + q) by omega]
  rfl
theorem repL_get (x : Value) (n m j : Nat) (h : j < m) : (repL x n m)[j]? = some x := by
  rw [repL, List.getElem?_append_left (by simpa using h), List.getElem?_replicate, if_pos h]
theorem rep_get (x : Value) (q j : Nat) (v : Value) (h : (List.replicate q x)[j]? = some v) : j < q ∧ v = x := by
  rw [List.getElem?_replicate] at h
  split at h
  · exact ⟨by assumption, by injection h with h; exact h.symm⟩
  · cases h

set_option maxHeartbeats 1000000 in
theorem rep_any (gx cx n : Nat) (x : ByteArray) (w : World) (hx : w.cell? ⟨gx, 0, none⟩ = some (.string x)) (h1 : 1 ≤ n) (h2 : n ≤ 4096) :
    Calls Try.prog 26 #[.slice (some ⟨gx, 0, none⟩) 1 cx, .int .i64 n] w fun e w' => ∃ g, e = .returned (.slice (some ⟨g, 0, none⟩) n n) ∧ Own w' 9 1 (.slice (some ⟨g, 0, none⟩) n n) n ((List.replicate n x).map Value.string) ∧ w.heap.size ≤ g ∧ Mods No w w' := by
  have hmk := run_make_row' (P := Try.prog) 58 9 (.string ByteArray.empty) 16 Try.underlying58 infoStr rfl .i64 .i64 n (by omega) (by omega)
  have hmul : ∀ W : World, Calls Try.prog 34 #[.int .u64 1, .int .u64 (n : Int)] W fun e w' => e = .returned (.tuple #[.int .u64 0, .int .u64 (n : Int)]) ∧ W = w' := by
    intro W
    refine (Try.bits_Mul 1 n (by omega) (by omega) W).mono ?_
    rintro e w' ⟨rfl, rfl⟩
    refine ⟨?_, rfl⟩
    rw [Nat.one_mul, Nat.div_eq_of_lt (by omega), Nat.mod_eq_of_lt (by omega)]
    rfl
  have hn0 : (0 : Int) ≤ n := by omega
  have hn1 : (n : Int) ≤ 4096 := by omega
  have hlx : gx < w.heap.size := World.block_lt_of_cell? w _ hx
  go_enter Try.func26, Try.ntmps26
  go_wp2_with (first | (go_at_call 34; refine (hmul _).mono ?_; rintro e w' ⟨rfl, rfl⟩) | (refine wpList_copy_splice rfl (.tmp 31) (.tmp 32) 58 58 rfl 9 Try.underlying58 (by kernel_rfl) (some ⟨w.heap.size, 0, none⟩) (some ⟨gx, 0, none⟩) n n 1 cx rfl rfl w.heap.size 0 (repL (.string x) n 0) 9 ?c1 [.string x] ?c2 ?c3 ?c4 ?c5 w.heap.size w ?c6 (Nat.le_refl _) ?c7))
  case c1 =>
    rw [heap_alloc_new, madeCells1]
    rfl
  case c2 => exact (Nat.min_eq_left h1).symm
  case c3 =>
    intro j v hj
    cases j with
    | zero => simp at hj; subst hj; exact hx
    | succ j => simp at hj
  case c4 => rw [repL_length _ _ _ (Nat.zero_le _)]; simpa using h1
  case c5 => intro v hv; simp at hv; subst hv; rfl
  case c6 => exact (Below.refl _ _).alloc (Nat.le_refl _) _
  case c7 =>
    intro w2 hg2 hb2
    have hg3 : w2.heap[w.heap.size]? = some (.cells (repL (.string x) n 1).toArray 9 (0, 0)) := by
      have := hg2.out
      have e : splice (repL (.string x) n 0) 0 [Value.string x] = repL (.string x) n 1 := splice_reps (.string x) n 0 1 (by omega)
      rw [e] at this
      exact this
    clear hg2
    go_wp2
    go_loopw [8] (fun q wr => ∃ m : Nat, 1 ≤ m ∧ m ≤ n ∧ q = .int .i64 m ∧ wr.heap[w.heap.size]? = some (.cells (repL (.string x) n m).toArray 9 (0, 0)) ∧ Below w.heap.size w wr) (fun q _ => n - (intOf q).toNat)
    case atStart => exact ⟨1, Nat.le_refl _, h1, rfl, hg3, hb2⟩
    case round =>
      obtain ⟨m, hm1, hm2, rfl, hg, hb⟩ := hrel
      by_cases hlt : m < n
      · have hlt2 : (m : Int) < n := by omega
        have hm0 : (0 : Int) ≤ m := by omega
        have hm3 : (m : Int) ≤ n := by omega
        clear hx
        have hq : m + min m (n - m) ≤ n := by omega
        have HC1 : Hid ((List.replicate (min m (n - m)) (Value.string x)).length = Nat.min m (n - m)) := by show _ = _; rw [List.length_replicate]
        have HC2 : Hid (∀ j v, (List.replicate (min m (n - m)) (Value.string x))[j]? = some v → wr.drew.cell? ((⟨w.heap.size, 0, none⟩ : Addr).add j) = some v) := by
          intro j v hj
          obtain ⟨hj1, rfl⟩ := rep_get _ _ _ _ hj
          rw [Addr.add_lit, Nat.zero_add]
          refine (heap_cell (w := wr.drew) hg j).trans ?_
          rw [List.getElem?_toArray]
          exact repL_get _ _ _ _ (by omega)
        have hnm : ¬ n = m := by omega
        have HC3 : Hid (m + (List.replicate (min m (n - m)) (Value.string x)).length ≤ (repL (.string x) n m).length) := by show _ ≤ _; rw [repL_length _ _ _ hm2, List.length_replicate]; exact hq
        have HC4 : Hid (∀ v ∈ List.replicate (min m (n - m)) (Value.string x), v.oneCell' = true) := by
          intro v hv
          rw [(List.mem_replicate.1 hv).2]
          rfl
        go_wp2
        go_region_law (refine step_copy_splice rfl (.tmp 41) (.tmp 44) 58 58 rfl 9 Try.underlying58 (by kernel_rfl) (some ⟨w.heap.size, m, none⟩) (some ⟨w.heap.size, 0, none⟩) (n - m) (n - m) m n (by simp [Act.eval, Act.put, hnm]) (by simp [Act.eval, Act.put]) w.heap.size m (repL (.string x) n m) 9 (by exact hg) (List.replicate (min m (n - m)) (.string x)) HC1.out (fun _ => ⟨rfl, _, rfl, HC2.out⟩) HC3.out HC4.out w.heap.size w (by exact hb.drew) (Nat.le_refl _) ?_; intro w4 hg4 hb4)
        have hg5 : w4.heap[w.heap.size]? = some (.cells (repL (.string x) n (m + min m (n - m))).toArray 9 (0, 0)) := by
          have := hg4.out
          rw [splice_reps _ _ _ _ hq] at this
          exact this
        clear hg4 HC1 HC2 HC3 HC4
        go_wp2
        go_roundw
        case rel =>
          (repeat apply Exists.intro)
          refine ⟨⟨m + min m (n - m), by omega, hq, ?_, hg5, hb4⟩, rfl⟩
          rw [w64 (by omega) (by omega)]
          rfl
        case measure =>
          have e : IntKind.i64.wrap ((m : Int) + ((min m (n - m) : Nat) : Int)) = ((m + min m (n - m) : Nat) : Int) := by rw [w64 (by omega) (by omega)]; rfl
          simp [intOf, Act.put, List.length_replicate, e]
          omega
      · obtain rfl : m = n := by omega
        clear hx
        go_wp2
        go_ret
        have hr : repL (.string x) m m = (List.replicate m x).map Value.string := by simp [repL]
        refine ⟨w.heap.size, rfl, ⟨by simp, .inr ⟨w.heap.size, m, _, rfl, Nat.zero_le _, hg, Nat.le_refl _, by unfold maxLen; omega, by simp [repL], ?_⟩⟩, Nat.le_refl _, Mods.of_below hb No⟩
        rw [hr]
        simp
end Go.Proofs.Ytachkcoilhlggaa
