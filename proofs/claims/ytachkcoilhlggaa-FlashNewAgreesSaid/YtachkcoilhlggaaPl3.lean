/- Plain laws on the model of a flash: histories without power losses. -/
import Derived.Test.YtachkcoilhlggaaLawWear
set_option linter.unusedVariables false
set_option linter.unusedSimpArgs false
namespace Go.Proofs.Ytachkcoilhlggaa
open Go.RowKit Go.PF

theorem modU_small {v m : Int} (h0 : 0 ≤ v) (h1 : v < m) (h2 : m ≤ 100) : modU v m = v := by
  have h : modU v m = (v % 18446744073709551616) % m := rfl
  rw [h, Int.emod_eq_of_lt (by omega) (by omega), Int.emod_eq_of_lt (by omega) (by omega)]

/-- any call but a planned or forced power loss -/
theorem Wear.do {s : FlashS} {B P : Nat} {E : Int} (h : Wear s B P E) (hP : 0 < P) (c : CallD) (hk : 0 ≤ c.kind ∧ c.kind < 7) (hB : 0 ≤ atB c B ∧ atB c B < B) (was : ByteArray) : Wear (s.doM c B P was).2 B P E := by
  have hm : modU c.kind 10 = c.kind := modU_small hk.1 (by omega) (by omega)
  unfold FlashS.doM
  rw [hm]
  split
  · exact (h.prog _ _ _).1
  split
  · exact h
  rw [if_pos (by omega)]
  show Wear (s.erase (atB c B)).2 B P E
  by_cases he : s.era (atB c B) < E
  · exact (h.erase_yes hB (k := 0) ⟨Int.le_refl _, by omega⟩ he).2.1
  · rw [h.erase_no hB hP (by omega)]
    exact h

/-- the page that a program leaves -/
theorem prog_page {s : FlashS} (h : s.WF) {i k : Int} (hi : 0 ≤ i ∧ i < s.nb) (hk : 0 ≤ k ∧ k < s.np) (x : ByteArray) : (s.setPage i k x).page i k = x := by
  obtain ⟨q1, q2, q3⟩ := page_of h hi hk
  show (s.pages.set (s.idx i k) x).getD (s.idx i k) ByteArray.empty = x
  rw [List.getD, List.getElem?_set, if_pos rfl, if_pos q1]
  rfl
theorem prog_other {s : FlashS} (h : s.WF) {i k k' : Int} (hi : 0 ≤ i ∧ i < s.nb) (hk : 0 ≤ k ∧ k < s.np) (hk' : 0 ≤ k' ∧ k' < s.np) (hne : k ≠ k') (x : ByteArray) : (s.setPage i k x).page i k' = s.page i k' := by
  obtain ⟨x0, x1, x2, x3⟩ := h.idx hi hk
  obtain ⟨y0, y1, y2, y3⟩ := h.idx hi hk'
  show (s.pages.set (s.idx i k) x).getD (s.idx i k') ByteArray.empty = s.pages.getD (s.idx i k') ByteArray.empty
  rw [List.getD, List.getD, List.getElem?_set, if_neg (by unfold FlashS.idx; omega)]

/-- Program without a power loss: cleared bits alone -/
theorem Wear.prog_yes {s : FlashS} {B P : Nat} {E : Int} (h : Wear s B P E) {i k : Int} (hi : 0 ≤ i ∧ i < B) (hk : 0 ≤ k ∧ k < P) {d : ByteArray} (hd : d.size = 64) :
    s.prog i k d = if clearsB (s.page i k) d = true then (0, s.setPage i k d) else (9, s) := by
  obtain ⟨h1, h2⟩ := noplan h.pl
  unfold FlashS.prog
  rw [if_neg (by simpa using hd), h.chk hi hk, if_neg (by simp), h1, h2]
  cases clearsB (s.page i k) d <;> rfl
theorem Wear.read_page {s : FlashS} {B P : Nat} {E : Int} (h : Wear s B P E) {i k : Int} (hi : 0 ≤ i ∧ i < B) (hk : 0 ≤ k ∧ k < P) : s.read i k = (s.page i k, 0) ∧ (s.page i k).size = 64 := by
  refine ⟨?_, (page_of h.wf (by rw [h.nb]; exact hi) (by rw [h.np]; exact hk)).2.2⟩
  unfold FlashS.read
  rw [h.chk hi hk, if_pos rfl]
/-- a program at all: what it returns, the page after, the other pages of the block -/
theorem Wear.prog_case {s : FlashS} {B P : Nat} {E : Int} (h : Wear s B P E) {i k : Int} (hi : 0 ≤ i ∧ i < B) (hk : 0 ≤ k ∧ k < P) {d : ByteArray} (hd : d.size = 64) :
    ∃ hv s', s.prog i k d = (hv, s') ∧ Wear s' B P E ∧ (∀ k' : Int, 0 ≤ k' ∧ k' < P → k' ≠ k → s'.page i k' = s.page i k') ∧
      ((clearsB (s.page i k) d = true ∧ hv = 0 ∧ s'.page i k = d) ∨ (clearsB (s.page i k) d = false ∧ hv = 9 ∧ s'.page i k = s.page i k)) := by
  have hp := h.prog_yes hi hk hd
  have hw := (h.prog i k d).1
  have hi' : 0 ≤ i ∧ i < s.nb := by rw [h.nb]; exact hi
  have hk' : 0 ≤ k ∧ k < s.np := by rw [h.np]; exact hk
  cases hc : clearsB (s.page i k) d
  · rw [hc, if_neg (by decide)] at hp
    rw [hp] at hw
    exact ⟨9, s, hp, hw, fun _ _ _ => rfl, .inr ⟨rfl, rfl, rfl⟩⟩
  · rw [hc, if_pos rfl] at hp
    rw [hp] at hw
    exact ⟨0, _, hp, hw, fun q hq hne => prog_other h.wf hi' hk' (by rw [h.np]; exact hq) (fun e => hne e.symm) d, .inl ⟨rfl, rfl, prog_page h.wf hi' hk' d⟩⟩
theorem dataS_size (c : CallD) (was : ByteArray) : (dataS c was).size = 64 := by rw [dataS, strOfNums_size]; simp
end Go.Proofs.Ytachkcoilhlggaa
