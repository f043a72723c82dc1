/- Plain laws on the model of a flash: what a call keeps. -/
import Derived.Test.YtachkcoilhlggaaLa3
set_option linter.unusedVariables false
set_option linter.unusedSimpArgs false
namespace Go.Proofs.Ytachkcoilhlggaa
open Go.RowKit Go.PF

variable {s : FlashS}

theorem lose_wf (h : s.WF) : s.lose.WF := ⟨h.nb0, h.nb1, h.np0, h.np1, h.en0, h.en1, h.pl, h.el, h.p64, h.e0, ⟨Int.le_refl _, by show (0 : Int) < _; decide⟩, h.t0⟩
theorem count_wf (h : s.WF) : s.count.WF := by
  unfold FlashS.count
  split
  · split
    · exact ⟨h.nb0, h.nb1, h.np0, h.np1, h.en0, h.en1, h.pl, h.el, h.p64, h.e0, ⟨by show 0 ≤ s.left - 1; omega, by show s.left - 1 < _; have := h.l0; omega⟩, h.t0⟩
    · exact lose_wf h
  · exact h
theorem pages_wf (h : s.WF) {l : List ByteArray} (hl : l.length = s.pages.length) (h6 : ∀ x ∈ l, x.size = 64) : ({ s with pages := l } : FlashS).WF :=
  ⟨h.nb0, h.nb1, h.np0, h.np1, h.en0, h.en1, by show (l.length : Int) = _; rw [hl]; exact h.pl, h.el, h6, h.e0, h.l0, h.t0⟩
theorem setPage_wf (h : s.WF) (i k : Int) {x : ByteArray} (hx : x.size = 64) : (s.setPage i k x).WF :=
  pages_wf h (List.length_set ..) (fun y hy => (List.mem_or_eq_of_mem_set hy).elim (h.p64 y) (fun e => e ▸ hx))
theorem page_of (h : s.WF) {i k : Int} (hi : 0 ≤ i ∧ i < s.nb) (hk : 0 ≤ k ∧ k < s.np) : s.idx i k < s.pages.length ∧ s.pages[s.idx i k]? = some (s.page i k) ∧ (s.page i k).size = 64 := by
  obtain ⟨x0, x1, x2, x3⟩ := h.idx hi hk
  have h1 : s.idx i k < s.pages.length := by unfold FlashS.idx; omega
  have h2 : s.pages[s.idx i k]? = some (s.page i k) := by unfold FlashS.page; rw [List.getD, List.getElem?_eq_getElem h1]; rfl
  exact ⟨h1, h2, h.p64 _ (List.mem_of_getElem? h2)⟩
theorem prog_wf (h : s.WF) (i k : Int) (d : ByteArray) : (s.prog i k d).2.WF := by
  unfold FlashS.prog
  split
  · exact h
  · rename_i h64
    split
    · exact h
    · rename_i hz
      have hz' : s.chk i k = 0 := by simpa using hz
      obtain ⟨hi, hk, _⟩ := chk_range hz'
      split
      · exact h
      · split
        · exact setPage_wf (count_wf h) i k (by rw [mergeS_size]; exact (page_of h hi hk).2.2)
        · exact setPage_wf (count_wf h) i k (by simpa using h64)
theorem erP_64 {pages : List ByteArray} (h : ∀ x ∈ pages, x.size = 64) (base n : Nat) (m : Int) : ∀ x ∈ erP pages base n m, x.size = 64 := by
  intro x hx
  obtain ⟨j, hj, rfl⟩ := List.mem_map.1 hx
  have hj' := List.mem_range.1 hj
  have e : (pages.getD j ByteArray.empty).size = 64 := h _ (by rw [List.getD, List.getElem?_eq_getElem hj']; exact List.getElem_mem hj')
  split
  · rw [mergeS_size]; exact e
  · exact e
theorem era_of (h : s.WF) {i : Int} (hi : 0 ≤ i ∧ i < s.nb) : s.erases[i.toNat]? = some (s.era i) := by
  have hl := h.el
  rw [FlashS.era, if_pos hi, List.getD, List.getElem?_eq_getElem (by omega)]; rfl
theorem erase_wf (h : s.WF) (i : Int) : (s.erase i).2.WF := by
  unfold FlashS.erase
  split
  · exact h
  · rename_i hz
    have hz' : s.chk i 0 = 0 := by simpa using hz
    obtain ⟨hi, hk, _⟩ := chk_range hz'
    split
    · exact h
    · rename_i hg
      have c := count_wf h
      obtain ⟨k1, k2, k3, k4, k5, k6⟩ := count_same s
      refine ⟨c.nb0, c.nb1, c.np0, c.np1, c.en0, c.en1, ?_, ?_, erP_64 h.p64 _ _ _, ?_, c.l0, c.t0⟩
      · show ((erP _ _ _ _).length : Int) = s.count.nb * s.count.np
        rw [erP_length, k1, k2]; exact h.pl
      · show ((s.erases.set _ _).length : Int) = s.count.nb
        rw [List.length_set, k1]; exact h.el
      · intro x hx
        show 0 ≤ x ∧ x ≤ s.count.en
        rw [k3]
        rcases List.mem_or_eq_of_mem_set hx with hx | rfl
        · exact h.e0 x hx
        · have := h.e0 _ (List.mem_of_getElem? (era_of h hi))
          omega
theorem do_wf (h : s.WF) (c : CallD) (hc : c.WF) (B P : Nat) (was : ByteArray) : (s.doM c B P was).2.WF := by
  unfold FlashS.doM
  have hd6 : 0 ≤ c.data % 6 ∧ c.data % 6 < 6 := ⟨Int.emod_nonneg _ (by omega), Int.emod_lt_of_pos _ (by omega)⟩
  split
  · exact prog_wf h _ _ _
  split
  · exact h
  split
  · exact erase_wf h _
  split
  · exact ⟨h.nb0, h.nb1, h.np0, h.np1, h.en0, h.en1, h.pl, h.el, h.p64, h.e0, ⟨by show 0 ≤ max _ 0; omega, by show max _ 0 < _; omega⟩, hc.t⟩
  split
  · show (if s.off then s else s.lose).WF
    split
    · exact h
    · exact lose_wf h
  · exact ⟨h.nb0, h.nb1, h.np0, h.np1, h.en0, h.en1, h.pl, h.el, h.p64, h.e0, h.l0, h.t0⟩

/-- the shape never turns -/
theorem prog_shape (s : FlashS) (i k : Int) (d : ByteArray) : (s.prog i k d).2.nb = s.nb ∧ (s.prog i k d).2.np = s.np ∧ (s.prog i k d).2.en = s.en := by
  obtain ⟨k1, k2, k3, k4, k5, k6⟩ := count_same s
  unfold FlashS.prog FlashS.setPage
  split
  · exact ⟨rfl, rfl, rfl⟩
  split
  · exact ⟨rfl, rfl, rfl⟩
  split
  · exact ⟨rfl, rfl, rfl⟩
  split <;> exact ⟨k1, k2, k3⟩
theorem erase_shape (s : FlashS) (i : Int) : (s.erase i).2.nb = s.nb ∧ (s.erase i).2.np = s.np ∧ (s.erase i).2.en = s.en := by
  obtain ⟨k1, k2, k3, k4, k5, k6⟩ := count_same s
  unfold FlashS.erase
  split
  · exact ⟨rfl, rfl, rfl⟩
  split
  · exact ⟨rfl, rfl, rfl⟩
  · exact ⟨k1, k2, k3⟩
theorem do_shape (s : FlashS) (c : CallD) (B P : Nat) (was : ByteArray) : (s.doM c B P was).2.nb = s.nb ∧ (s.doM c B P was).2.np = s.np ∧ (s.doM c B P was).2.en = s.en := by
  unfold FlashS.doM
  split
  · exact prog_shape _ _ _ _
  split
  · exact ⟨rfl, rfl, rfl⟩
  split
  · exact erase_shape _ _
  split
  · exact ⟨rfl, rfl, rfl⟩
  split
  · show (if s.off then s else s.lose).nb = _ ∧ (if s.off then s else s.lose).np = _ ∧ (if s.off then s else s.lose).en = _
    split <;> exact ⟨rfl, rfl, rfl⟩
  · exact ⟨rfl, rfl, rfl⟩
end Go.Proofs.Ytachkcoilhlggaa
