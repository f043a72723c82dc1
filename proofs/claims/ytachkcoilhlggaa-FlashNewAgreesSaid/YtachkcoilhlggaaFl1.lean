/- The walks over package flash: small methods. -/
import Derived.Test.YtachkcoilhlggaaBase
import Derived.Test.YtachkcoilhlggaaRows
import Derived.RegionTactic
set_option linter.unusedVariables false
set_option linter.unusedSimpArgs false
namespace Go.Proofs.Ytachkcoilhlggaa
open Go.RowKit Go.PF

structure FlashS where
  nb : Int
  np : Int
  en : Int
  pages : List ByteArray
  erases : List Int
  off : Bool
  planned : Bool
  left : Int
  torn : Int

def strs (l : List ByteArray) : List Value := l.map Value.string
def ints (l : List Int) : List Value := l.map (Value.int .i64)

/-- a flash in memory: its struct at block b, its pages in block gp, its numbers of erases in block ge -/
structure FlashAt (w : World) (b gp cp ge ce : Nat) (s : FlashS) : Prop where
  st : w.heap[b]? = some (.cells #[.int .i64 s.nb, .int .i64 s.np, .int .i64 s.en, .slice (some ⟨gp, 0, none⟩) s.pages.length cp, .slice (some ⟨ge, 0, none⟩) s.erases.length ce, .bool s.off, .bool s.planned, .int .i64 s.left, .int .u64 s.torn] 60 (0, 0))
  pg : Own w 9 1 (.slice (some ⟨gp, 0, none⟩) s.pages.length cp) s.pages.length (strs s.pages)
  er : Own w 3 1 (.slice (some ⟨ge, 0, none⟩) s.erases.length ce) s.erases.length (ints s.erases)

def FlF (b gp ge : Nat) : Nat → Prop := fun k => k = b ∨ k = gp ∨ k = ge

structure FlashS.WF (s : FlashS) : Prop where
  nb0 : 1 ≤ s.nb
  nb1 : s.nb ≤ 32
  np0 : 1 ≤ s.np
  np1 : s.np ≤ 32
  en0 : 0 ≤ s.en
  en1 : s.en ≤ 1048576
  pl : (s.pages.length : Int) = s.nb * s.np
  el : (s.erases.length : Int) = s.nb
  p64 : ∀ x ∈ s.pages, x.size = 64
  e0 : ∀ x ∈ s.erases, 0 ≤ x ∧ x ≤ s.en
  l0 : 0 ≤ s.left ∧ s.left < 9223372036854775808
  t0 : 0 ≤ s.torn ∧ s.torn < 18446744073709551616

section
variable {w : World} {b gp cp ge ce : Nat} {s : FlashS}
theorem FlashAt.drewN (h : FlashAt w b gp cp ge ce s) (n : Nat) : FlashAt (w.drewN n) b gp cp ge ce s := ⟨h.st, h.pg, h.er⟩
theorem FlashAt.drew (h : FlashAt w b gp cp ge ce s) : FlashAt w.drew b gp cp ge ce s := ⟨h.st, h.pg, h.er⟩
theorem FlashAt.mods {F : Nat → Prop} {w' : World} (h : FlashAt w b gp cp ge ce s) (m : Mods F w w') (hb : ¬ F b) (hp : ¬ F gp) (he : ¬ F ge) : FlashAt w' b gp cp ge ce s :=
  ⟨m.heap h.st hb, h.pg.mods m (fun g hg => by cases hg; exact hp), h.er.mods m (fun g hg => by cases hg; exact he)⟩
theorem FlashAt.alloc (h : FlashAt w b gp cp ge ce s) (o : Obj) : FlashAt (w.alloc o) b gp cp ge ce s := h.mods ((Mods.refl No w).alloc o) id id id
theorem FlashAt.bp (h : FlashAt w b gp cp ge ce s) : gp ≠ b := h.pg.ne h.st (by decide) gp rfl
theorem FlashAt.be (h : FlashAt w b gp cp ge ce s) : ge ≠ b := h.er.ne h.st (by decide) ge rfl
theorem FlashAt.pe (h : FlashAt w b gp cp ge ce s) : gp ≠ ge := fun e => h.pg.ne' h.er (by decide) gp rfl (by rw [e]; rfl)
theorem FlashAt.lt (h : FlashAt w b gp cp ge ce s) : ∀ k, FlF b gp ge k → k < w.heap.size := by
  rintro k (rfl | rfl | rfl)
  · exact heap_lt h.st
  · exact h.pg.lt rfl
  · exact h.er.lt rfl
theorem FlashAt.c0 (h : FlashAt w b gp cp ge ce s) : w.cell? ⟨b, 0, none⟩ = some (.int .i64 s.nb) := heap_cell h.st 0
theorem FlashAt.c1 (h : FlashAt w b gp cp ge ce s) : w.cell? ⟨b, 1, none⟩ = some (.int .i64 s.np) := heap_cell h.st 1
theorem FlashAt.c2 (h : FlashAt w b gp cp ge ce s) : w.cell? ⟨b, 2, none⟩ = some (.int .i64 s.en) := heap_cell h.st 2
theorem FlashAt.c3 (h : FlashAt w b gp cp ge ce s) : w.cell? ⟨b, 3, none⟩ = some (.slice (some ⟨gp, 0, none⟩) s.pages.length cp) := heap_cell h.st 3
theorem FlashAt.c4 (h : FlashAt w b gp cp ge ce s) : w.cell? ⟨b, 4, none⟩ = some (.slice (some ⟨ge, 0, none⟩) s.erases.length ce) := heap_cell h.st 4
theorem FlashAt.c5 (h : FlashAt w b gp cp ge ce s) : w.cell? ⟨b, 5, none⟩ = some (.bool s.off) := heap_cell h.st 5
theorem FlashAt.c6 (h : FlashAt w b gp cp ge ce s) : w.cell? ⟨b, 6, none⟩ = some (.bool s.planned) := heap_cell h.st 6
theorem FlashAt.c7 (h : FlashAt w b gp cp ge ce s) : w.cell? ⟨b, 7, none⟩ = some (.int .i64 s.left) := heap_cell h.st 7
theorem FlashAt.c8 (h : FlashAt w b gp cp ge ce s) : w.cell? ⟨b, 8, none⟩ = some (.int .u64 s.torn) := heap_cell h.st 8
theorem FlashAt.fr (h : FlashAt w b gp cp ge ce s) (i : Nat) : w.frozen? ⟨b, i, none⟩ = false := heap_free h.st i
/-- stores into the struct alone -/
theorem FlashAt.turn {w' : World} {s' : FlashS} (h : FlashAt w b gp cp ge ce s) (m : Mods (One b) w w') (hp : s'.pages = s.pages) (he : s'.erases = s.erases)
    (hs : w'.heap[b]? = some (.cells #[.int .i64 s'.nb, .int .i64 s'.np, .int .i64 s'.en, .slice (some ⟨gp, 0, none⟩) s'.pages.length cp, .slice (some ⟨ge, 0, none⟩) s'.erases.length ce, .bool s'.off, .bool s'.planned, .int .i64 s'.left, .int .u64 s'.torn] 60 (0, 0))) : FlashAt w' b gp cp ge ce s' :=
  ⟨hs, by rw [hp]; exact h.pg.mods m (fun g hg => by cases hg; exact h.bp), by rw [he]; exact h.er.mods m (fun g hg => by cases hg; exact h.be)⟩
theorem FlashAt.page (h : FlashAt w b gp cp ge ce s) {j : Nat} {x : ByteArray} (hx : s.pages[j]? = some x) : w.cell? ⟨gp, j, none⟩ = some (.string x) := h.pg.cell (map_get hx)
theorem FlashAt.era (h : FlashAt w b gp cp ge ce s) {j : Nat} {x : Int} (hx : s.erases[j]? = some x) : w.cell? ⟨ge, j, none⟩ = some (.int .i64 x) := h.er.cell (map_get hx)
end

def FlashS.lose (s : FlashS) : FlashS := { s with off := true, planned := false, left := 0 }
def FlashS.chk (s : FlashS) (i k : Int) : Int := if i < 0 ∨ s.nb ≤ i ∨ k < 0 ∨ s.np ≤ k then 1 else if s.off then 16 else 0
def FlashS.intr (s : FlashS) : Bool := s.planned && decide (s.left ≤ 0)
def FlashS.count (s : FlashS) : FlashS := if s.planned then (if 0 < s.left then { s with left := s.left - 1 } else s.lose) else s

variable {b gp cp ge ce : Nat} {s : FlashS}

theorem mods3 (w : World) (b : Nat) (x y z : Nat) (u v t : Value) : Mods (One b) w (((w.setCell ⟨b, x, none⟩ u).setCell ⟨b, y, none⟩ v).setCell ⟨b, z, none⟩ t) :=
  (((Mods.refl (One b) w).setCell (p := ⟨b, x, none⟩) (.inl rfl) u).setCell (p := ⟨b, y, none⟩) (.inl rfl) v).setCell (p := ⟨b, z, none⟩) (.inl rfl) t
theorem mods1 (w : World) (b : Nat) (x : Nat) (u : Value) : Mods (One b) w (w.setCell ⟨b, x, none⟩ u) := (Mods.refl (One b) w).setCell (p := ⟨b, x, none⟩) (.inl rfl) u

theorem lose_any (w : World) (hF : FlashAt w b gp cp ge ce s) : Calls Try.prog 33 #[.pointer (some ⟨b, 0, none⟩)] w fun e w' => e = .returned (.tuple #[]) ∧ FlashAt w' b gp cp ge ce s.lose ∧ Mods (One b) w w' := by
  have c5 := hF.c5
  have c6 := hF.c6
  have c7 := hF.c7
  have fr := hF.fr
  go_enter Try.func33, Try.ntmps33
  go_wp2
  go_end0
  exact ⟨rfl, hF.turn (mods3 _ _ _ _ _ _ _ _) rfl rfl (heap_set (heap_set (heap_set hF.st _) _) _), mods3 _ _ _ _ _ _ _ _⟩

theorem interrupted_any (w : World) (hF : FlashAt w b gp cp ge ce s) (hl : 0 ≤ s.left ∧ s.left < 9223372036854775808) : Calls Try.prog 31 #[.pointer (some ⟨b, 0, none⟩)] w fun e w' => e = .returned (.bool s.intr) ∧ FlashAt w' b gp cp ge ce s.count ∧ Mods (One b) w w' := by
  have c6 := hF.c6
  have c7 := hF.c7
  have fr := hF.fr
  obtain ⟨hl0, hl1⟩ := hl
  unfold FlashS.intr FlashS.count
  cases hp : s.planned
  · rw [hp] at c6
    go_enter Try.func31, Try.ntmps31
    go_wp2
    go_ret
    exact ⟨rfl, hF, Mods.refl _ _⟩
  · rw [hp] at c6
    by_cases hz : 0 < s.left
    · have hw : IntKind.i64.wrap (s.left - 1) = s.left - 1 := w64 (by omega) (by omega)
      go_enter Try.func31, Try.ntmps31
      go_wp2
      go_ret
      refine ⟨by simp <;> omega, ?_, mods1 _ _ _ _⟩
      have hs := heap_set (i := 7) hF.st (.int .i64 (s.left - 1))
      rw [hp] at hs
      exact hF.turn (s' := { s with planned := true, left := s.left - 1 }) (mods1 _ _ _ _) rfl rfl hs
    · go_enter Try.func31, Try.ntmps31
      go_wp2_with (go_at_call 33; refine (lose_any _ hF).mono ?_; rintro e w' ⟨rfl, h1, hm⟩)
      go_ret
      exact ⟨by simp <;> omega, h1, hm⟩

theorem check_any (i k : Int) (w : World) (hF : FlashAt w b gp cp ge ce s) : Calls Try.prog 29 #[.pointer (some ⟨b, 0, none⟩), .int .i64 i, .int .i64 k] w fun e w' => e = .returned (.int .i64 (s.chk i k)) ∧ w = w' := by
  have c0 := hF.c0
  have c1 := hF.c1
  have c5 := hF.c5
  clear hF
  unfold FlashS.chk
  go_enter Try.func29, Try.ntmps29
  go_wp2
  all_goals go_ret
  all_goals exact ⟨rfl, rfl⟩

/-- the page's place -/
def FlashS.idx (s : FlashS) (i k : Int) : Nat := (i * s.np + k).toNat
theorem FlashS.WF.idx (h : s.WF) {i k : Int} (hi : 0 ≤ i ∧ i < s.nb) (hk : 0 ≤ k ∧ k < s.np) : 0 ≤ i * s.np ∧ i * s.np ≤ 1024 ∧ 0 ≤ i * s.np + k ∧ i * s.np + k < s.pages.length := by
  obtain ⟨h1, h2, h3, h4, -, -, hp, -⟩ := h
  have a1 : 0 ≤ i * s.np := Int.mul_nonneg hi.1 (by omega)
  have a2 : i * s.np ≤ 32 * s.np := Int.mul_le_mul_of_nonneg_right (by omega) (by omega)
  have a3 : (i + 1) * s.np ≤ s.nb * s.np := Int.mul_le_mul_of_nonneg_right (by omega) (by omega)
  rw [Int.add_mul] at a3
  rw [hp]
  refine ⟨a1, by omega, by omega, by omega⟩

theorem at_gen (i k : Int) (w : World) (hF : FlashAt w b gp cp ge ce s) (x0 : 0 ≤ i * s.np) (x1 : i * s.np ≤ 1024) (x2 : 0 ≤ i * s.np + k) (x3 : i * s.np + k < s.pages.length) (x4 : k ≤ 1024) :
    Calls Try.prog 30 #[.pointer (some ⟨b, 0, none⟩), .int .i64 i, .int .i64 k] w fun e w' => e = .returned (.pointer (some ⟨gp, s.idx i k, none⟩)) ∧ ∃ n, w.drewN n = w' := by
  have c1 := hF.c1
  have c3 := hF.c3
  have m1 : IntKind.i64.wrap (i * s.np) = i * s.np := w64 (by omega) (by omega)
  have m2 : IntKind.i64.wrap (i * s.np + k) = i * s.np + k := w64 (by omega) (by omega)
  clear hF
  go_enter Try.func30, Try.ntmps30
  go_wp2_with fail
  go_quiet (fail)
  go_wp2
  go_ret
  exact ⟨rfl, _, rfl⟩
theorem at_any (i k : Int) (w : World) (hF : FlashAt w b gp cp ge ce s) (hw : s.WF) (hi : 0 ≤ i ∧ i < s.nb) (hk : 0 ≤ k ∧ k < s.np) :
    Calls Try.prog 30 #[.pointer (some ⟨b, 0, none⟩), .int .i64 i, .int .i64 k] w fun e w' => e = .returned (.pointer (some ⟨gp, s.idx i k, none⟩)) ∧ ∃ n, w.drewN n = w' := by
  obtain ⟨x0, x1, x2, x3⟩ := hw.idx hi hk
  exact at_gen i k w hF x0 x1 x2 x3 (by have := hw.np1; omega)

def FlashS.page (s : FlashS) (i k : Int) : ByteArray := s.pages.getD (s.idx i k) ByteArray.empty
def FlashS.read (s : FlashS) (i k : Int) : ByteArray × Int := if s.chk i k = 0 then (s.page i k, 0) else (ByteArray.empty, s.chk i k)

theorem chk_range {i k : Int} (h : s.chk i k = 0) : (0 ≤ i ∧ i < s.nb) ∧ (0 ≤ k ∧ k < s.np) ∧ s.off = false := by
  unfold FlashS.chk at h
  split at h
  · omega
  · split at h
    · omega
    · rename_i h1 h2
      refine ⟨by omega, by omega, by simpa using h2⟩

theorem read_any (i k : Int) (w : World) (hF : FlashAt w b gp cp ge ce s) (hw : s.WF) :
    Calls Try.prog 16 #[.pointer (some ⟨b, 0, none⟩), .int .i64 i, .int .i64 k] w fun e w' => e = .returned (.tuple #[.string (s.read i k).1, .int .i64 (s.read i k).2]) ∧ ∃ n, w.drewN n = w' := by
  unfold FlashS.read
  by_cases hz : s.chk i k = 0
  · obtain ⟨hi, hk, -⟩ := chk_range hz
    obtain ⟨x0, x1, x2, x3⟩ := hw.idx hi hk
    have hx : s.pages[s.idx i k]? = some (s.page i k) := by unfold FlashS.page FlashS.idx; rw [List.getD, List.getElem?_eq_getElem (by omega)]; rfl
    have hc := hF.page hx
    go_enter Try.func16, Try.ntmps16
    go_wp2_with (first | (go_at_call 29; refine (check_any _ _ _ hF).mono ?_; rintro e w' ⟨rfl, rfl⟩; rw [hz]) | (go_at_call 30; refine (at_any _ _ _ hF hw hi hk).mono ?_; rintro e w' ⟨rfl, n, rfl⟩))
    go_ret2
    exact ⟨rfl, _, rfl⟩
  · have hz' : (!(s.chk i k == 0)) = true := by simpa using hz
    go_enter Try.func16, Try.ntmps16
    go_wp2_with (first | (go_at_call 29; refine (check_any _ _ _ hF).mono ?_; rintro e w' ⟨rfl, rfl⟩))
    go_ret2
    exact ⟨rfl, 0, rfl⟩

theorem cutAfter_any (n t : Int) (w : World) (hF : FlashAt w b gp cp ge ce s) :
    Calls Try.prog 21 #[.pointer (some ⟨b, 0, none⟩), .int .i64 n, .int .u64 t] w fun e w' => e = .returned (.tuple #[]) ∧ FlashAt w' b gp cp ge ce { s with planned := decide (0 ≤ n), left := max n 0, torn := t } ∧ Mods (One b) w w' := by
  have c6 := hF.c6
  have c7 := hF.c7
  have c8 := hF.c8
  have fr := hF.fr
  by_cases h0 : 0 ≤ n
  · have e1 : decide (0 ≤ n) = true := by simp [h0]
    have e2 : max n 0 = n := by omega
    rw [e1, e2]
    clear e1 e2
    go_enter Try.func21, Try.ntmps21
    go_wp2
    all_goals go_end0
    all_goals first
      | exact ⟨rfl, hF.turn (s' := { s with planned := true, left := n, torn := t }) (mods3 _ _ _ _ _ _ _ _) rfl rfl (heap_set (heap_set (heap_set hF.st _) _) _), mods3 _ _ _ _ _ _ _ _⟩
      | (exfalso; omega)
      | (obtain rfl : n = 0 := by omega
         exact ⟨rfl, hF.turn (s' := { s with planned := true, left := 0, torn := t }) (mods3 _ _ _ _ _ _ _ _) rfl rfl (heap_set (heap_set (heap_set hF.st _) _) _), mods3 _ _ _ _ _ _ _ _⟩)
  · have e1 : decide (0 ≤ n) = false := by simp; omega
    have e2 : max n 0 = 0 := by omega
    rw [e1, e2]
    clear e1 e2
    go_enter Try.func21, Try.ntmps21
    go_wp2
    all_goals go_end0
    all_goals first
      | exact ⟨rfl, hF.turn (s' := { s with planned := false, left := 0, torn := t }) (mods3 _ _ _ _ _ _ _ _) rfl rfl (heap_set (heap_set (heap_set hF.st _) _) _), mods3 _ _ _ _ _ _ _ _⟩
      | (exfalso; omega)

theorem powerOff_any (w : World) (hF : FlashAt w b gp cp ge ce s) :
    Calls Try.prog 23 #[.pointer (some ⟨b, 0, none⟩)] w fun e w' => e = .returned (.int .i64 (if s.off then 9 else 0)) ∧ FlashAt w' b gp cp ge ce (if s.off then s else s.lose) ∧ Mods (One b) w w' := by
  have c5 := hF.c5
  cases ho : s.off
  · rw [ho] at c5
    go_enter Try.func23, Try.ntmps23
    go_wp2_with (go_at_call 33; refine (lose_any _ hF).mono ?_; rintro e w' ⟨rfl, h1, hm⟩)
    go_ret
    exact ⟨rfl, h1, hm⟩
  · rw [ho] at c5
    go_enter Try.func23, Try.ntmps23
    go_wp2
    go_ret
    exact ⟨rfl, hF, Mods.refl _ _⟩

theorem powerOn_any (w : World) (hF : FlashAt w b gp cp ge ce s) :
    Calls Try.prog 24 #[.pointer (some ⟨b, 0, none⟩)] w fun e w' => e = .returned (.int .i64 (if s.off then 0 else 9)) ∧ FlashAt w' b gp cp ge ce { s with off := false } ∧ Mods (One b) w w' := by
  have c5 := hF.c5
  have fr := hF.fr
  have hst := hF.st
  cases ho : s.off
  · rw [ho] at c5 hst
    go_enter Try.func24, Try.ntmps24
    go_wp2
    go_ret
    exact ⟨rfl, hF.turn (s' := { s with off := false }) (Mods.refl _ _) rfl rfl hst, Mods.refl _ _⟩
  · rw [ho] at c5
    go_enter Try.func24, Try.ntmps24
    go_wp2
    go_ret
    exact ⟨rfl, hF.turn (s' := { s with off := false }) (mods1 _ _ _ _) rfl rfl (heap_set hF.st _), mods1 _ _ _ _⟩

def FlashS.era (s : FlashS) (i : Int) : Int := if 0 ≤ i ∧ i < s.nb then s.erases.getD i.toNat 0 else 0
theorem erases_any (i : Int) (w : World) (hF : FlashAt w b gp cp ge ce s) (hw : s.WF) :
    Calls Try.prog 20 #[.pointer (some ⟨b, 0, none⟩), .int .i64 i] w fun e w' => e = .returned (.int .i64 (s.era i)) ∧ w = w' := by
  have c0 := hF.c0
  have c4 := hF.c4
  have hl := hw.el
  unfold FlashS.era
  by_cases hi : 0 ≤ i ∧ i < s.nb
  · obtain ⟨hi0, hi1⟩ := hi
    have hx : s.erases[i.toNat]? = some (s.erases.getD i.toNat 0) := by rw [List.getD, List.getElem?_eq_getElem (by omega)]; rfl
    have hc := hF.era hx
    have hi2 : i < s.erases.length := by omega
    obtain ⟨y, hy⟩ : ∃ y, s.erases.getD i.toNat 0 = y := ⟨_, rfl⟩
    rw [hy] at hc ⊢
    clear hF hw hx hl hy
    go_enter Try.func20, Try.ntmps20
    go_wp2
    go_ret
    exact ⟨by simp [hi0, hi1], rfl⟩
  · rw [if_neg hi]
    clear hF hw hl
    go_enter Try.func20, Try.ntmps20
    go_wp2
    all_goals first | (go_ret; exact ⟨rfl, rfl⟩) | (exfalso; omega)
end Go.Proofs.Ytachkcoilhlggaa
