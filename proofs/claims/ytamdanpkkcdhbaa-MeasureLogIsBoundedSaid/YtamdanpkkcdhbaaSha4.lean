/- SHA-256: the walk over schedule. -/
import Derived.Test.YtamdanpkkcdhbaaSha3
import Derived.Test.YtamdanpkkcdhbaaRq
set_option linter.unusedVariables false
set_option linter.unusedSimpArgs false
namespace Go.Proofs.Ytamdanpkkcdhbaa
open Go.RowKit Go.PF

/-- an array of 64 words at block B: those of l, zeros behind -/
def W64 (w : World) (B : Nat) (l : List Int) : Prop := ∀ j, j < 64 → w.cell? ⟨B, j, none⟩ = some (.int .u32 (l.getD j 0)) ∧ w.frozen? ⟨B, j, none⟩ = false
theorem W64.push {w : World} {B : Nat} {l : List Int} (h : W64 w B l) (hl : l.length < 64) (x : Int) : W64 (w.setCell ⟨B, l.length, none⟩ (.int .u32 x)) B (l ++ [x]) := by
  intro j hj
  obtain ⟨h1, h2⟩ := h j hj
  refine ⟨?_, by rw [World.frozen?_setCell]; exact h2⟩
  by_cases e : j = l.length
  · subst e
    rw [cell_eq w _ h1]
    simp [List.getD]
  · rw [cell_ne w _ (.inr (fun q => e q.symm)), h1]
    congr 2
    simp only [List.getD]
    by_cases g : j < l.length
    · rw [List.getElem?_append_left g]
    · rw [List.getElem?_append_right (by omega), List.getElem?_eq_none (by omega), List.getElem?_eq_none (by simp; omega)]
theorem W64.mods {F : Nat → Prop} {w w' : World} {B : Nat} {l : List Int} (h : W64 w B l) (hm : Mods F w w') (hn : ¬ F B) : W64 w' B l := fun j hj => ⟨hm.cell (h j hj).1 hn, hm.free (h j hj).1 (h j hj).2 hn⟩
def zero64 : Array Value := #[.int .u32 0, .int .u32 0, .int .u32 0, .int .u32 0, .int .u32 0, .int .u32 0, .int .u32 0, .int .u32 0, .int .u32 0, .int .u32 0, .int .u32 0, .int .u32 0, .int .u32 0, .int .u32 0, .int .u32 0, .int .u32 0, .int .u32 0, .int .u32 0, .int .u32 0, .int .u32 0, .int .u32 0, .int .u32 0, .int .u32 0, .int .u32 0, .int .u32 0, .int .u32 0, .int .u32 0, .int .u32 0, .int .u32 0, .int .u32 0, .int .u32 0, .int .u32 0, .int .u32 0, .int .u32 0, .int .u32 0, .int .u32 0, .int .u32 0, .int .u32 0, .int .u32 0, .int .u32 0, .int .u32 0, .int .u32 0, .int .u32 0, .int .u32 0, .int .u32 0, .int .u32 0, .int .u32 0, .int .u32 0, .int .u32 0, .int .u32 0, .int .u32 0, .int .u32 0, .int .u32 0, .int .u32 0, .int .u32 0, .int .u32 0, .int .u32 0, .int .u32 0, .int .u32 0, .int .u32 0, .int .u32 0, .int .u32 0, .int .u32 0, .int .u32 0]
theorem W64.new (w : World) (T : TypeId) : W64 (w.alloc (.cells #[.int .u32 0, .int .u32 0, .int .u32 0, .int .u32 0, .int .u32 0, .int .u32 0, .int .u32 0, .int .u32 0, .int .u32 0, .int .u32 0, .int .u32 0, .int .u32 0, .int .u32 0, .int .u32 0, .int .u32 0, .int .u32 0, .int .u32 0, .int .u32 0, .int .u32 0, .int .u32 0, .int .u32 0, .int .u32 0, .int .u32 0, .int .u32 0, .int .u32 0, .int .u32 0, .int .u32 0, .int .u32 0, .int .u32 0, .int .u32 0, .int .u32 0, .int .u32 0, .int .u32 0, .int .u32 0, .int .u32 0, .int .u32 0, .int .u32 0, .int .u32 0, .int .u32 0, .int .u32 0, .int .u32 0, .int .u32 0, .int .u32 0, .int .u32 0, .int .u32 0, .int .u32 0, .int .u32 0, .int .u32 0, .int .u32 0, .int .u32 0, .int .u32 0, .int .u32 0, .int .u32 0, .int .u32 0, .int .u32 0, .int .u32 0, .int .u32 0, .int .u32 0, .int .u32 0, .int .u32 0, .int .u32 0, .int .u32 0, .int .u32 0, .int .u32 0] T)) w.heap.size [] := by
  intro j hj
  have h := heap_alloc_new w (.cells zero64 T)
  refine ⟨?_, heap_free h j⟩
  refine (heap_cell h j).trans ?_
  have e : zero64 = (List.replicate 64 (Value.int .u32 0)).toArray := rfl
  rw [e, List.getElem?_toArray, List.getElem?_replicate, if_pos hj]
  rfl

theorem W64.next {w : World} {B : Nat} {b : ByteArray} {k : Nat} (h : W64 w B (schedTo b k)) (hk : k < 64) (v : Int) (hv : v = wNext b (schedTo b k)) : W64 (w.setCell ⟨B, k, none⟩ (.int .u32 v)) B (schedTo b (k + 1)) := by
  have := h.push (by rw [schedTo_length]; exact hk) v
  rw [schedTo_length, hv] at this
  rw [hv]
  exact this
theorem there_set {w : World} {b o n : Nat} (h : w.there b o n) (p : Addr) (v : Value) : (w.setCell p v).there b o n := by
  intro j hj
  obtain ⟨h1, h2⟩ := h j hj
  obtain ⟨u, hu⟩ := Option.isSome_iff_exists.1 h1
  refine ⟨?_, by rw [World.frozen?_setCell]; exact h2⟩
  obtain ⟨v', hv'⟩ := cell?_setCell_some (w := w) (p := p) (x := v) (q := ⟨b, o + j, none⟩) (v := u) hu
  rw [hv']; rfl
theorem there_mods {F : Nat → Prop} {w w' : World} {b o n : Nat} (h : w.there b o n) (hm : Mods F w w') (hn : ¬ F b) : w'.there b o n := by
  intro j hj
  obtain ⟨h1, h2⟩ := h j hj
  obtain ⟨u, hu⟩ := Option.isSome_iff_exists.1 h1
  exact ⟨by rw [hm.cell hu hn]; rfl, hm.free hu h2 hn⟩
theorem W64.range {w : World} {B : Nat} {l : List Int} (h : W64 w B l) (hl : l.length = 64) : w.rangeAt B 0 (u32s l) := by
  intro j v hv
  rw [Nat.zero_add]
  have hj : j < 64 := by rw [← hl]; simpa [u32s] using (List.getElem?_eq_some_iff.1 hv).1
  have hj' : j < l.length := by omega
  rw [(h j hj).1, ← hv]
  simp [u32s, List.getD, List.getElem?_eq_getElem hj']
theorem W64.arr {w : World} {B : Nat} {l : List Int} (h : W64 w B l) (hl : l.length = 64) : Arr w B (u32s l) := by
  intro j v hv
  have hj : j < 64 := by rw [← hl]; simpa [u32s] using (List.getElem?_eq_some_iff.1 hv).1
  have hj' : j < l.length := by omega
  refine ⟨?_, (h j hj).2⟩
  rw [(h j hj).1, ← hv]
  simp [u32s, List.getD, List.getElem?_eq_getElem hj']
theorem u32s_length (l : List Int) : (u32s l).length = l.length := by simp [u32s]
theorem u32s_one (l : List Int) : (u32s l).toArray.all (·.oneCell') = true := all_oneCell_toArray (by intro v hv; simp only [u32s, List.mem_map] at hv; obtain ⟨x, _, rfl⟩ := hv; rfl)
theorem info64 {l : List Int} (h : l.length = 64) : (Try.prog.info? 78).map (·.size) = some (u32s l).length := by
  rw [u32s_length, h]
  kernel_rfl
theorem info64' {l : List Int} (h : l.length = 64) : (Try.prog.info? 78).map (·.size) = some (u32s l).toArray.size := by
  rw [List.size_toArray]
  exact info64 h
theorem there_of {w : World} {b o n : Nat} (h : w.there b o n) {l : List Int} (hl : l.length = n) : w.there b o (u32s l).toArray.size := by
  rw [List.size_toArray, u32s_length, hl]
  exact h
/-! bytes put together -/
theorem or32_nat (a b : Nat) (ha : a < 4294967296) (hb : b < 4294967296) : Go.bits .or .u32 (a : Int) (b : Int) = ((a ||| b : Nat) : Int) := by
  have h32 : (2 : Nat) ^ 32 = 4294967296 := by decide
  rw [or32, BitVec.toNat_or, BitVec.ofInt_natCast, BitVec.ofInt_natCast, BitVec.toNat_ofNat, BitVec.toNat_ofNat, h32, Nat.mod_eq_of_lt ha, Nat.mod_eq_of_lt hb]
theorem word_or (a b c d : Nat) (ha : a < 256) (hb : b < 256) (hc : c < 256) (hd : d < 256) :
    Go.bits .or .u32 (Go.bits .or .u32 (Go.bits .or .u32 ((a : Int) * 16777216) ((b : Int) * 65536)) ((c : Int) * 256)) (d : Int) = (a : Int) * 16777216 + b * 65536 + c * 256 + d := by
  have e1 : a * 16777216 ||| b * 65536 = a * 16777216 + b * 65536 := by
    have := Nat.two_pow_add_eq_or_of_lt (i := 24) (show b * 65536 < 2 ^ 24 by omega) a
    rw [show 2 ^ 24 * a = a * 16777216 by omega] at this
    exact this.symm
  have e2 : (a * 16777216 + b * 65536) ||| c * 256 = a * 16777216 + b * 65536 + c * 256 := by
    have := Nat.two_pow_add_eq_or_of_lt (i := 16) (show c * 256 < 2 ^ 16 by omega) (a * 256 + b)
    rw [show 2 ^ 16 * (a * 256 + b) = a * 16777216 + b * 65536 by omega] at this
    exact this.symm
  have e3 : (a * 16777216 + b * 65536 + c * 256) ||| d = a * 16777216 + b * 65536 + c * 256 + d := by
    have := Nat.two_pow_add_eq_or_of_lt (i := 8) (show d < 2 ^ 8 by omega) (a * 65536 + b * 256 + c)
    rw [show 2 ^ 8 * (a * 65536 + b * 256 + c) = a * 16777216 + b * 65536 + c * 256 by omega] at this
    exact this.symm
  have h1 := or32_nat (a * 16777216) (b * 65536) (by omega) (by omega)
  have h2 := or32_nat (a * 16777216 + b * 65536) (c * 256) (by omega) (by omega)
  have h3 := or32_nat (a * 16777216 + b * 65536 + c * 256) d (by omega) (by omega)
  rw [e1] at h1
  rw [e2] at h2
  rw [e3] at h3
  rw [show ((a * 16777216 : Nat) : Int) = (a : Int) * 16777216 by omega, show ((b * 65536 : Nat) : Int) = (b : Int) * 65536 by omega] at h1
  rw [show ((c * 256 : Nat) : Int) = (c : Int) * 256 by omega] at h2
  rw [h1, h2, h3]
  omega
theorem word_byt (b : ByteArray) (k m0 m1 m2 m3 : Nat) (h : m0 = 4 * k ∧ m1 = 4 * k + 1 ∧ m2 = 4 * k + 2 ∧ m3 = 4 * k + 3) :
    Go.bits .or .u32 (Go.bits .or .u32 (Go.bits .or .u32 (byt b m0 * 16777216) (byt b m1 * 65536)) (byt b m2 * 256)) (byt b m3) = wordAt b k := by
  obtain ⟨rfl, rfl, rfl, rfl⟩ := h
  have t0 := byt_lt b (4 * k)
  have t1 := byt_lt b (4 * k + 1)
  have t2 := byt_lt b (4 * k + 2)
  have t3 := byt_lt b (4 * k + 3)
  unfold wordAt
  unfold byt at *
  exact word_or _ _ _ _ (by omega) (by omega) (by omega) (by omega)
theorem word_sum (b : ByteArray) (k m0 m1 m2 m3 : Nat) (h : m0 = 4 * k ∧ m1 = 4 * k + 1 ∧ m2 = 4 * k + 2 ∧ m3 = 4 * k + 3) : byt b m0 * 16777216 + byt b m1 * 65536 + byt b m2 * 256 + byt b m3 = wordAt b k := by
  obtain ⟨rfl, rfl, rfl, rfl⟩ := h
  rfl
theorem wordAt_range (b : ByteArray) (k : Nat) : 0 ≤ wordAt b k ∧ wordAt b k < 4294967296 := by
  unfold wordAt
  have t0 := byt_lt b (4 * k)
  have t1 := byt_lt b (4 * k + 1)
  have t2 := byt_lt b (4 * k + 2)
  have t3 := byt_lt b (4 * k + 3)
  omega
theorem add32_range (a b : Int) : 0 ≤ add32 a b ∧ add32 a b < 4294967296 := by unfold add32; omega
theorem wNext_range (b : ByteArray) (l : List Int) : 0 ≤ wNext b l ∧ wNext b l < 4294967296 := by
  unfold wNext
  split
  · exact wordAt_range ..
  · exact add32_range ..
theorem sched_range (b : ByteArray) : ∀ (n i : Nat), 0 ≤ (schedTo b n).getD i 0 ∧ (schedTo b n).getD i 0 < 4294967296
  | 0, i => by simp [schedTo]
  | n + 1, i => by
    show 0 ≤ (schedTo b n ++ [wNext b (schedTo b n)]).getD i 0 ∧ (schedTo b n ++ [wNext b (schedTo b n)]).getD i 0 < 4294967296
    by_cases h : i < n
    · have e : (schedTo b n ++ [wNext b (schedTo b n)]).getD i 0 = (schedTo b n).getD i 0 := by
        simp only [List.getD]
        rw [List.getElem?_append_left (by rw [schedTo_length]; exact h)]
      rw [e]
      exact sched_range b n i
    · by_cases h2 : i = n
      · have e : (schedTo b n ++ [wNext b (schedTo b n)]).getD i 0 = wNext b (schedTo b n) := by
          simp only [List.getD]
          rw [List.getElem?_append_right (by rw [schedTo_length]; omega), schedTo_length, h2]
          simp
        rw [e]
        exact wNext_range ..
      · have e : (schedTo b n ++ [wNext b (schedTo b n)]).getD i 0 = 0 := by
          simp only [List.getD]
          rw [List.getElem?_eq_none (by simp [schedTo_length]; omega)]
          rfl
        rw [e]
        omega
theorem wNext_hi (b : ByteArray) (k : Nat) (h : 16 ≤ k) : wNext b (schedTo b k) = add32 (add32 (add32 ((schedTo b k).getD (k - 16) 0) (sig0 ((schedTo b k).getD (k - 15) 0))) ((schedTo b k).getD (k - 7) 0)) (sig1 ((schedTo b k).getD (k - 2) 0)) := by
  unfold wNext
  rw [schedTo_length, if_neg (by omega)]
theorem wNext_lo (b : ByteArray) (k : Nat) (h : k < 16) : wNext b (schedTo b k) = wordAt b k := by
  unfold wNext
  rw [schedTo_length, if_pos h]
end Go.Proofs.Ytamdanpkkcdhbaa
