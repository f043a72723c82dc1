/- Plain laws on the model of a flash: a power loss at the next operation; bits of bytes. -/
import Derived.Test.YtachkcoilhlggaaPl3
set_option linter.unusedVariables false
set_option linter.unusedSimpArgs false
namespace Go.Proofs.Ytachkcoilhlggaa
open Go.RowKit Go.PF

theorem wrap8 (x : BitVec 8) : IntKind.u8.wrap ((x.toNat : Nat) : Int) = x.toNat := by
  rw [IntKind.wrap_u8]
  have := x.isLt
  omega
theorem and8 (a b : Int) : Go.bits .and .u8 a b = ((BitVec.ofInt 8 a &&& BitVec.ofInt 8 b).toNat : Int) := wrap8 _
theorem or8 (a b : Int) : Go.bits .or .u8 a b = ((BitVec.ofInt 8 a ||| BitVec.ofInt 8 b).toNat : Int) := wrap8 _
theorem andNot8 (a b : Int) : Go.bits .andNot .u8 a b = ((BitVec.ofInt 8 a &&& ~~~ BitVec.ofInt 8 b).toNat : Int) := wrap8 _
theorem ofNat8 (x : BitVec 8) : BitVec.ofInt 8 ((x.toNat : Nat) : Int) = x := by
  rw [BitVec.ofInt_natCast]
  simp
theorem within1 (a b m : Int) : Go.bits .andNot .u8 (Go.bits .and .u8 a b) (mByte a b m) = 0 := by
  unfold mByte
  rw [andNot8, or8, and8, andNot8, and8, ofNat8, ofNat8, ofNat8, ofNat8]
  generalize BitVec.ofInt 8 a = a; generalize BitVec.ofInt 8 b = b; generalize BitVec.ofInt 8 m = m
  have : (a &&& b &&& ~~~(a &&& ~~~m ||| b &&& m)) = 0#8 := by
    ext i hi
    simp
    cases a[i] <;> cases b[i] <;> cases m[i] <;> decide
  rw [this]; rfl
theorem within2 (a b m : Int) : Go.bits .andNot .u8 (mByte a b m) (Go.bits .or .u8 a b) = 0 := by
  unfold mByte
  rw [andNot8, or8, or8, and8, andNot8, ofNat8, ofNat8, ofNat8, ofNat8]
  generalize BitVec.ofInt 8 a = a; generalize BitVec.ofInt 8 b = b; generalize BitVec.ofInt 8 m = m
  have : ((a &&& ~~~m ||| b &&& m) &&& ~~~(a ||| b)) = 0#8 := by
    ext i hi
    simp
    cases a[i] <;> cases b[i] <;> cases m[i] <;> decide
  rw [this]; rfl
theorem clears1 (x y : Int) : Go.bits .andNot .u8 (Go.bits .and .u8 x y) y = 0 := by
  rw [andNot8, and8, ofNat8]
  generalize BitVec.ofInt 8 x = a; generalize BitVec.ofInt 8 y = b
  have : (a &&& b &&& ~~~b) = 0#8 := by
    ext i hi
    simp
    try (cases a[i] <;> cases b[i] <;> decide)
  rw [this]; rfl
theorem byt_raw (x : ByteArray) (i : Nat) : ((x.data.toList.getD i 0).toNat : Int) = byt x i := rfl
theorem dByte_range (c : CallD) (was : ByteArray) (i : Nat) : 0 ≤ dByte c was i ∧ dByte c was i < 256 := by
  unfold dByte
  rw [byt_raw]
  split
  · have h1 := bits_lo_u8 .and (c.data / 2 ^ (8 * ((i + i / 8) % 8)) % 256) (byt was i)
    have h2 := bits_hi_u8 .and (c.data / 2 ^ (8 * ((i + i / 8) % 8)) % 256) (byt was i)
    omega
  · omega
theorem clears_and {c : CallD} (hc : c.and = true) {was : ByteArray} (hs : was.size = 64) : clearsB was (dataS c was) = true := by
  refine List.all_eq_true.2 fun i hi => ?_
  rw [dataS_size, List.mem_range] at hi
  have e : byt (dataS c was) i = dByte c was i := by
    unfold dataS
    rw [byt_num (by simpa using hi) (fun x hx => by
      obtain ⟨j, _, rfl⟩ := List.mem_map.1 hx
      exact dByte_range _ _ _), List.getD, List.getElem?_map, List.getElem?_range hi]
    rfl
  rw [e]
  unfold dByte
  rw [byt_raw, if_pos ⟨hc, by omega⟩, clears1]
  rfl

/-- a flash that lost its power at page k of block i -/
structure CutS (s : FlashS) (B P : Nat) (i k : Int) (pg : ByteArray) (n : Int) : Prop where
  wf : s.WF
  nb : s.nb = B
  np : s.np = P
  off : s.off = true
  page : s.page i k = pg
  era : s.era i = n

theorem Wear.cut_prog {s : FlashS} {B P : Nat} {E : Int} (h : Wear s B P E) {i k : Int} (hi : 0 ≤ i ∧ i < B) (hk : 0 ≤ k ∧ k < P) {d : ByteArray} (hd : d.size = 64) (hc : clearsB (s.page i k) d = true) {t : Int} (ht : 0 ≤ t ∧ t < 18446744073709551616) :
    ∃ s2, ({ s with planned := decide ((0 : Int) ≤ 0), left := max 0 0, torn := t } : FlashS).prog i k d = (16, s2) ∧ CutS s2 B P i k (mergeS (s.page i k) d t) (s.era i) := by
  have hw1 : ({ s with planned := decide ((0 : Int) ≤ 0), left := max 0 0, torn := t } : FlashS).WF := ⟨h.wf.nb0, h.wf.nb1, h.wf.np0, h.wf.np1, h.wf.en0, h.wf.en1, h.wf.pl, h.wf.el, h.wf.p64, h.wf.e0, ⟨Int.le_refl _, by show (0 : Int) < _; decide⟩, ht⟩
  have hwf := prog_wf hw1 i k d
  have hs := prog_shape ({ s with planned := decide ((0 : Int) ≤ 0), left := max 0 0, torn := t } : FlashS) i k d
  have hp : ({ s with planned := decide ((0 : Int) ≤ 0), left := max 0 0, torn := t } : FlashS).prog i k d = (16, ({ s with planned := decide ((0 : Int) ≤ 0), left := max 0 0, torn := t } : FlashS).count.setPage i k (mergeS (s.page i k) d t)) := by
    unfold FlashS.prog
    rw [if_neg (by simpa using hd), show ({ s with planned := decide ((0 : Int) ≤ 0), left := max 0 0, torn := t } : FlashS).chk i k = 0 from h.chk hi hk, if_neg (by simp), show ({ s with planned := decide ((0 : Int) ≤ 0), left := max 0 0, torn := t } : FlashS).page i k = s.page i k from rfl, hc, if_neg (by simp)]
    rfl
  rw [hp] at hwf hs ⊢
  have hi' : 0 ≤ i ∧ i < s.nb := by rw [h.nb]; exact hi
  have hk' : 0 ≤ k ∧ k < s.np := by rw [h.np]; exact hk
  exact ⟨_, rfl, hwf, hs.1.trans h.nb, hs.2.1.trans h.np, rfl, prog_page h.wf hi' hk' _, rfl⟩

theorem Wear.cut_erase {s : FlashS} {B P : Nat} {E : Int} (h : Wear s B P E) {i k : Int} (hi : 0 ≤ i ∧ i < B) (hk : 0 ≤ k ∧ k < P) (he : s.era i < E) {t : Int} (ht : 0 ≤ t ∧ t < 18446744073709551616) :
    ∃ s2, ({ s with planned := decide ((0 : Int) ≤ 0), left := max 0 0, torn := t } : FlashS).erase i = (16, s2) ∧ CutS s2 B P i k (mergeS (s.page i k) (fillS 255) t) (s.era i + 1) := by
  have hw1 : ({ s with planned := decide ((0 : Int) ≤ 0), left := max 0 0, torn := t } : FlashS).WF := ⟨h.wf.nb0, h.wf.nb1, h.wf.np0, h.wf.np1, h.wf.en0, h.wf.en1, h.wf.pl, h.wf.el, h.wf.p64, h.wf.e0, ⟨Int.le_refl _, by show (0 : Int) < _; decide⟩, ht⟩
  have hwf := erase_wf hw1 i
  have hs := erase_shape ({ s with planned := decide ((0 : Int) ≤ 0), left := max 0 0, torn := t } : FlashS) i
  have hp : ({ s with planned := decide ((0 : Int) ≤ 0), left := max 0 0, torn := t } : FlashS).erase i = (16, { ({ s with planned := decide ((0 : Int) ≤ 0), left := max 0 0, torn := t } : FlashS).count with erases := s.erases.set i.toNat (s.era i + 1), pages := erP s.pages (i * s.np).toNat s.np.toNat t }) := by
    unfold FlashS.erase
    rw [show ({ s with planned := decide ((0 : Int) ≤ 0), left := max 0 0, torn := t } : FlashS).chk i 0 = 0 from h.chk hi ⟨Int.le_refl _, by omega⟩, if_neg (by simp), show ({ s with planned := decide ((0 : Int) ≤ 0), left := max 0 0, torn := t } : FlashS).era i = s.era i from rfl, if_neg (by show ¬ s.en ≤ s.era i; rw [h.en]; omega)]
    rfl
  rw [hp] at hwf hs ⊢
  have hi' : 0 ≤ i ∧ i < s.nb := by rw [h.nb]; exact hi
  have hk' : 0 ≤ k ∧ k < s.np := by rw [h.np]; exact hk
  obtain ⟨q1, q2, q3⟩ := page_of h.wf hi' hk'
  obtain ⟨x0, x1, x2, x3⟩ := h.wf.idx hi' hk'
  refine ⟨_, rfl, hwf, hs.1.trans h.nb, hs.2.1.trans h.np, rfl, ?_, ?_⟩
  · show (erP s.pages (i * s.np).toNat s.np.toNat t).getD (s.idx i k) ByteArray.empty = _
    rw [List.getD, erP_get _ _ _ _ q1, if_pos (by unfold FlashS.idx; omega)]
    have e2 : s.pages.getD (s.idx i k) ByteArray.empty = s.page i k := rfl
    rw [e2, ff64_fill]
    rfl
  · show (if 0 ≤ i ∧ i < s.nb then (s.erases.set i.toNat (s.era i + 1)).getD i.toNat 0 else 0) = _
    have := h.wf.el
    rw [if_pos hi', List.getD, List.getElem?_set, if_pos rfl, if_pos (by omega)]
    rfl

theorem CutS.down {s : FlashS} {B P : Nat} {i k : Int} {pg : ByteArray} {n : Int} (h : CutS s B P i k pg n) (hi : 0 ≤ i ∧ i < B) (hk : 0 ≤ k ∧ k < P) : s.read i k = (ByteArray.empty, 16) := by
  have h1 := h.nb
  have h2 := h.np
  have e : s.chk i k = 16 := by unfold FlashS.chk; rw [if_neg (by omega), if_pos h.off]
  unfold FlashS.read
  rw [e, if_neg (by decide)]
theorem CutS.up {s : FlashS} {B P : Nat} {i k : Int} {pg : ByteArray} {n : Int} (h : CutS s B P i k pg n) (hi : 0 ≤ i ∧ i < B) (hk : 0 ≤ k ∧ k < P) :
    ({ s with off := false } : FlashS).WF ∧ ({ s with off := false } : FlashS).era i = n ∧ ({ s with off := false } : FlashS).read i k = (pg, 0) := by
  have h1 := h.nb
  have h2 := h.np
  refine ⟨⟨h.wf.nb0, h.wf.nb1, h.wf.np0, h.wf.np1, h.wf.en0, h.wf.en1, h.wf.pl, h.wf.el, h.wf.p64, h.wf.e0, h.wf.l0, h.wf.t0⟩, h.era, ?_⟩
  have e : ({ s with off := false } : FlashS).chk i k = 0 := by unfold FlashS.chk; rw [if_neg (by show ¬ (i < 0 ∨ s.nb ≤ i ∨ k < 0 ∨ s.np ≤ k); omega)]; rfl
  unfold FlashS.read
  rw [e, if_pos rfl, show ({ s with off := false } : FlashS).page i k = s.page i k from rfl, h.page]

/-- a call raises a block's number of erases by one at most -/
theorem Wear.do_era {s : FlashS} {B P : Nat} {E : Int} (h : Wear s B P E) (hP : 0 < P) (c : CallD) (hk : 0 ≤ c.kind ∧ c.kind < 7) (hB : 0 ≤ atB c B ∧ atB c B < B) (was : ByteArray) {i : Int} (hi : 0 ≤ i ∧ i < B) : (s.doM c B P was).2.era i ≤ s.era i + 1 := by
  have hm : modU c.kind 10 = c.kind := modU_small hk.1 (by omega) (by omega)
  have same : ∀ s' : FlashS, s'.erases = s.erases → s'.nb = s.nb → s'.era i ≤ s.era i + 1 := fun s' e1 e2 => by unfold FlashS.era; rw [e1, e2]; omega
  unfold FlashS.doM
  rw [hm]
  split
  · exact same _ (h.prog _ _ _).2 ((h.prog _ _ _).1.nb.trans h.nb.symm)
  split
  · exact same _ rfl rfl
  rw [if_pos (by omega)]
  show (s.erase (atB c B)).2.era i ≤ _
  by_cases he : s.era (atB c B) < E
  · obtain ⟨_, h2, h3, _⟩ := h.erase_yes hB (k := 0) ⟨Int.le_refl _, by omega⟩ he
    have hi' : 0 ≤ i ∧ i < s.nb := by rw [h.nb]; exact hi
    have hel := h.wf.el
    unfold FlashS.era
    rw [h3, h2.nb, h.nb, if_pos hi, if_pos hi, List.getD, List.getElem?_set]
    split
    · rename_i e
      have : i = atB c B := by omega
      rw [if_pos (by omega), ← this]
      unfold FlashS.era
      rw [if_pos hi']
      exact Int.le_refl _
    · exact Int.le_of_lt (Int.lt_add_one_of_le (Int.le_refl _))
  · rw [h.erase_no hB hP (by omega)]
    show s.era i ≤ s.era i + 1
    omega
end Go.Proofs.Ytachkcoilhlggaa
