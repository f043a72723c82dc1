/- Plain laws on the model of a flash: an interrupted call made again. -/
import Derived.Test.YtachkcoilhlggaaPl4
set_option linter.unusedVariables false
set_option linter.unusedSimpArgs false
namespace Go.Proofs.Ytachkcoilhlggaa
open Go.RowKit Go.PF

theorem ofInt8_inj {x : BitVec 8} (h : ((x.toNat : Nat) : Int) = 0) : x = 0#8 := BitVec.eq_of_toNat_eq (by simpa using h)
theorem clears2 {d o : Int} (m : Int) (h : Go.bits .andNot .u8 d o = 0) : Go.bits .andNot .u8 d (mByte o d m) = 0 := by
  unfold mByte
  rw [andNot8] at h
  rw [andNot8, or8, andNot8, and8, ofNat8, ofNat8, ofNat8]
  generalize BitVec.ofInt 8 d = d at *; generalize BitVec.ofInt 8 o = o at *; generalize BitVec.ofInt 8 m = m
  have h0 := ofInt8_inj h
  have : (d &&& ~~~(o &&& ~~~m ||| d &&& m)) = 0#8 := by
    ext i hi
    have hb : (d &&& ~~~o)[i] = (0#8)[i] := by rw [h0]
    simp at hb
    simp
    cases hd : d[i] <;> cases ho : o[i] <;> cases hm : m[i] <;> simp [hd, ho] at hb ⊢
  rw [this]; rfl
theorem clears_merge {o d : ByteArray} (ho : o.size = 64) (hd : d.size = 64) (m : Int) (h : clearsB o d = true) : clearsB (mergeS o d m) d = true := by
  refine List.all_eq_true.2 fun i hi => ?_
  have hz := List.all_eq_true.1 h i hi
  rw [hd, List.mem_range] at hi
  rw [byt_merge _ _ _ (by omega), clears2 _ (by simpa using hz)]
  rfl

/-- an interrupted call, power on again, the call again -/
structure RetryS (s2 s4 : FlashS) (B P : Nat) (i k : Int) (E : Int) (d : ByteArray) : Prop where
  wf2 : s2.WF
  off2 : s2.off = true
  wf3 : ({ s2 with off := false } : FlashS).WF
  wf4 : s4.WF
  read : s4.read i k = (d, 0)

theorem Wear.retry_prog {s : FlashS} {B P : Nat} {E : Int} (h : Wear s B P E) {i k : Int} (hi : 0 ≤ i ∧ i < B) (hk : 0 ≤ k ∧ k < P) {d : ByteArray} (hd : d.size = 64) (hc : clearsB (s.page i k) d = true) {t : Int} (ht : 0 ≤ t ∧ t < 18446744073709551616) :
    ∃ s2 s4, ({ s with planned := decide ((0 : Int) ≤ 0), left := max 0 0, torn := t } : FlashS).prog i k d = (16, s2) ∧ ({ s2 with off := false } : FlashS).prog i k d = (0, s4) ∧ RetryS s2 s4 B P i k E d := by
  have hw1 : ({ s with planned := decide ((0 : Int) ≤ 0), left := max 0 0, torn := t } : FlashS).WF := ⟨h.wf.nb0, h.wf.nb1, h.wf.np0, h.wf.np1, h.wf.en0, h.wf.en1, h.wf.pl, h.wf.el, h.wf.p64, h.wf.e0, ⟨Int.le_refl _, by show (0 : Int) < _; decide⟩, ht⟩
  have hwf := prog_wf hw1 i k d
  have hs := prog_shape ({ s with planned := decide ((0 : Int) ≤ 0), left := max 0 0, torn := t } : FlashS) i k d
  have hp : ({ s with planned := decide ((0 : Int) ≤ 0), left := max 0 0, torn := t } : FlashS).prog i k d = (16, ({ s with planned := decide ((0 : Int) ≤ 0), left := max 0 0, torn := t } : FlashS).count.setPage i k (mergeS (s.page i k) d t)) := by
    unfold FlashS.prog
    rw [if_neg (by simpa using hd), show ({ s with planned := decide ((0 : Int) ≤ 0), left := max 0 0, torn := t } : FlashS).chk i k = 0 from h.chk hi hk, if_neg (by simp), show ({ s with planned := decide ((0 : Int) ≤ 0), left := max 0 0, torn := t } : FlashS).page i k = s.page i k from rfl, hc, if_neg (by simp)]
    rfl
  rw [hp] at hwf hs ⊢
  have hi' : 0 ≤ i ∧ i < s.nb := by rw [h.nb]; exact hi
  have hk' : 0 ≤ k ∧ k < s.np := by rw [h.np]; exact hk
  have hps := (h.read_page hi hk).2
  have hpg : (({ s with planned := decide ((0 : Int) ≤ 0), left := max 0 0, torn := t } : FlashS).count.setPage i k (mergeS (s.page i k) d t)).page i k = mergeS (s.page i k) d t := prog_page h.wf hi' hk' _
  have hoff : (({ s with planned := decide ((0 : Int) ≤ 0), left := max 0 0, torn := t } : FlashS).count.setPage i k (mergeS (s.page i k) d t)).off = true := rfl
  have hpl : (({ s with planned := decide ((0 : Int) ≤ 0), left := max 0 0, torn := t } : FlashS).count.setPage i k (mergeS (s.page i k) d t)).planned = false := rfl
  generalize ({ s with planned := decide ((0 : Int) ≤ 0), left := max 0 0, torn := t } : FlashS).count.setPage i k (mergeS (s.page i k) d t) = s2 at hwf hs hpg hoff hpl ⊢
  have w3 : Wear ({ s2 with off := false } : FlashS) B P E := ⟨⟨hwf.nb0, hwf.nb1, hwf.np0, hwf.np1, hwf.en0, hwf.en1, hwf.pl, hwf.el, hwf.p64, hwf.e0, hwf.l0, hwf.t0⟩, hs.1.trans h.nb, hs.2.1.trans h.np, hs.2.2.trans h.en, rfl, hpl⟩
  have hp3 := w3.prog_yes hi hk hd
  rw [show ({ s2 with off := false } : FlashS).page i k = mergeS (s.page i k) d t from hpg, clears_merge hps hd t hc, if_pos rfl] at hp3
  have w4 := (w3.prog i k d).1
  have hi3 : 0 ≤ i ∧ i < s2.nb := by have := hs.1; simp only at this; rw [this]; exact hi'
  have hk3 : 0 ≤ k ∧ k < s2.np := by have := hs.2.1; simp only at this; rw [this]; exact hk'
  have hpg4 := prog_page w3.wf hi3 hk3 d
  rw [hp3] at w4
  refine ⟨s2, _, rfl, hp3, hwf, hoff, w3.wf, w4.wf, ?_⟩
  rw [(w4.read_page hi hk).1]
  exact congrArg (·, (0 : Int)) hpg4

theorem Wear.retry_erase {s : FlashS} {B P : Nat} {E : Int} (h : Wear s B P E) {i k : Int} (hi : 0 ≤ i ∧ i < B) (hk : 0 ≤ k ∧ k < P) (he : s.era i + 1 < E) {t : Int} (ht : 0 ≤ t ∧ t < 18446744073709551616) :
    ∃ s2 s4, ({ s with planned := decide ((0 : Int) ≤ 0), left := max 0 0, torn := t } : FlashS).erase i = (16, s2) ∧ ({ s2 with off := false } : FlashS).erase i = (0, s4) ∧ RetryS s2 s4 B P i k E (fillS 255) := by
  have hw1 : ({ s with planned := decide ((0 : Int) ≤ 0), left := max 0 0, torn := t } : FlashS).WF := ⟨h.wf.nb0, h.wf.nb1, h.wf.np0, h.wf.np1, h.wf.en0, h.wf.en1, h.wf.pl, h.wf.el, h.wf.p64, h.wf.e0, ⟨Int.le_refl _, by show (0 : Int) < _; decide⟩, ht⟩
  have hwf := erase_wf hw1 i
  have hs := erase_shape ({ s with planned := decide ((0 : Int) ≤ 0), left := max 0 0, torn := t } : FlashS) i
  obtain ⟨s2, hp, hcut⟩ := h.cut_erase hi hk (by omega) ht
  have hpl : (({ s with planned := decide ((0 : Int) ≤ 0), left := max 0 0, torn := t } : FlashS).erase i).2.planned = false := by
    unfold FlashS.erase
    rw [show ({ s with planned := decide ((0 : Int) ≤ 0), left := max 0 0, torn := t } : FlashS).chk i 0 = 0 from h.chk hi ⟨Int.le_refl _, by omega⟩, if_neg (by simp), show ({ s with planned := decide ((0 : Int) ≤ 0), left := max 0 0, torn := t } : FlashS).era i = s.era i from rfl, if_neg (by show ¬ s.en ≤ s.era i; rw [h.en]; omega)]
    rfl
  rw [hp] at hwf hs hpl ⊢
  have w3 : Wear ({ s2 with off := false } : FlashS) B P E := ⟨⟨hwf.nb0, hwf.nb1, hwf.np0, hwf.np1, hwf.en0, hwf.en1, hwf.pl, hwf.el, hwf.p64, hwf.e0, hwf.l0, hwf.t0⟩, hs.1.trans h.nb, hs.2.1.trans h.np, hs.2.2.trans h.en, rfl, hpl⟩
  have he3 : ({ s2 with off := false } : FlashS).era i = s.era i + 1 := hcut.era
  obtain ⟨q1, q2, q3, q4⟩ := w3.erase_yes hi hk (by rw [he3]; exact he)
  refine ⟨s2, (({ s2 with off := false } : FlashS).erase i).2, rfl, ?_, hwf, hcut.off, w3.wf, q2.wf, q4⟩
  rw [← q1]
end Go.Proofs.Ytachkcoilhlggaa
