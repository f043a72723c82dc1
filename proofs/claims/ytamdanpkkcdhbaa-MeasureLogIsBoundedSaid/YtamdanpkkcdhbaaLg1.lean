/- The measurement log: what lies where. -/
import Derived.Test.YtamdanpkkcdhbaaSha16
set_option linter.unusedVariables false
set_option linter.unusedSimpArgs false
namespace Go.Proofs.Ytamdanpkkcdhbaa
open Go.RowKit Go.PF

structure Ev where
  reg : Int
  dig : List Int
  text : ByteArray
def evV (e : Ev) : List Value := .int .i64 e.reg :: (u8s e.dig ++ [.string e.text])
structure Ev.Ok (e : Ev) : Prop where
  lo : -9223372036854775808 ≤ e.reg
  hi : e.reg ≤ 9223372036854775807
  dig : e.dig.length = 32
theorem evV_length {e : Ev} (h : e.dig.length = 32) : (evV e).length = 34 := by simp [evV, u8s_length, h]

theorem flat_get_mem {α : Type} (f : α → List Value) (m : Nat) : ∀ (l : List α), (∀ x ∈ l, (f x).length = m) → ∀ (i j : Nat), j < m → (l.flatMap f)[i * m + j]? = (l[i]?).bind fun x => (f x)[j]?
  | [], _, i, j, _ => by simp
  | x :: r, h, 0, j, hj => by
    simp only [List.flatMap_cons, Nat.zero_mul, Nat.zero_add, List.getElem?_cons_zero, Option.bind_some]
    rw [List.getElem?_append_left (by rw [h x (by simp)]; exact hj)]
  | x :: r, h, i + 1, j, hj => by
    have hx := h x (by simp)
    simp only [List.flatMap_cons, List.getElem?_cons_succ]
    rw [List.getElem?_append_right (by rw [hx, Nat.succ_mul]; omega), hx, show (i + 1) * m + j - m = i * m + j by rw [Nat.succ_mul]; omega]
    exact flat_get_mem f m r (fun y hy => h y (by simp [hy])) i j hj
theorem flat_length {α : Type} (f : α → List Value) (m : Nat) : ∀ (l : List α), (∀ x ∈ l, (f x).length = m) → (l.flatMap f).length = l.length * m
  | [], _ => by simp
  | x :: r, h => by
    rw [List.flatMap_cons, List.length_append, h x (by simp), flat_length f m r (fun y hy => h y (by simp [hy])), List.length_cons, Nat.succ_mul, Nat.add_comm]

/-- eight registers -/
structure Regs (regs : List (List Int)) : Prop where
  eight : regs.length = 8
  all : ∀ r ∈ regs, r.length = 32
def regV (regs : List (List Int)) : List Value := regs.flatMap u8s
theorem regV_length {regs : List (List Int)} (h : Regs regs) : (regV regs).length = 256 := by
  unfold regV
  rw [flat_length u8s 32 regs (fun x hx => by rw [u8s_length]; exact h.all x hx), h.eight]
theorem regV_at {regs : List (List Int)} (h : Regs regs) {k : Nat} {r : List Int} (hr : regs[k]? = some r) {j : Nat} (hj : j < 32) : (regV regs)[k * 32 + j]? = (u8s r)[j]? := by
  unfold regV
  rw [flat_get_mem u8s 32 regs (fun x hx => by rw [u8s_length]; exact h.all x hx) k j hj, hr]
  rfl
theorem Regs.at {regs : List (List Int)} (h : Regs regs) {k : Nat} (hk : k < 8) : ∃ r, regs[k]? = some r ∧ r.length = 32 := by
  obtain ⟨r, hr⟩ := some_at (l := regs) (i := k) (by rw [h.eight]; exact hk)
  exact ⟨r, hr, h.all r (List.mem_of_getElem? hr)⟩
theorem Regs.set {regs : List (List Int)} (h : Regs regs) (k : Nat) {r : List Int} (hr : r.length = 32) : Regs (regs.set k r) :=
  ⟨by rw [List.length_set]; exact h.eight, fun x hx => by
    rcases List.mem_or_eq_of_mem_set hx with h1 | h1
    · exact h.all x h1
    · subst h1; exact hr⟩
def zeroRegs : List (List Int) := List.replicate 8 z32
theorem zeroRegs_ok : Regs zeroRegs := ⟨rfl, fun r hr => by unfold zeroRegs at hr; rw [List.eq_of_mem_replicate hr]; rfl⟩

/-- the registers lie from offset o of block b on -/
def RegsAt (w : World) (b o : Nat) (regs : List (List Int)) : Prop := ∀ k r, regs[k]? = some r → ∀ j v, (u8s r)[j]? = some v → w.cell? ⟨b, o + k * 32 + j, none⟩ = some v ∧ w.frozen? ⟨b, o + k * 32 + j, none⟩ = false
theorem RegsAt.range {w : World} {b o : Nat} {regs : List (List Int)} (h : RegsAt w b o regs) {k : Nat} {r : List Int} (hr : regs[k]? = some r) : w.rangeAt b (o + k * 32) (u8s r) := fun j v hv => (h k r hr j v hv).1
theorem RegsAt.there {w : World} {b o : Nat} {regs : List (List Int)} (h : RegsAt w b o regs) {k : Nat} {r : List Int} (hr : regs[k]? = some r) : w.there b (o + k * 32) (u8s r).length := fun j hj => by
  have := h k r hr j _ (List.getElem?_eq_getElem hj)
  rw [this.1]
  exact ⟨rfl, this.2⟩
theorem RegsAt.mods {F : Nat → Prop} {w w' : World} {b o : Nat} {regs : List (List Int)} (h : RegsAt w b o regs) (hm : Mods F w w') (hn : ¬ F b) : RegsAt w' b o regs :=
  fun k r hr j v hv => ⟨hm.cell (h k r hr j v hv).1 hn, hm.free (h k r hr j v hv).1 (h k r hr j v hv).2 hn⟩
theorem RegsAt.of {w : World} {b : Nat} {regs : List (List Int)} {cs : List Value} (hR : Regs regs) (h : Arr w b (cs ++ regV regs)) : RegsAt w b cs.length regs := by
  intro k r hr j v hv
  have hj : j < 32 := by
    have h1 := (List.getElem?_eq_some_iff.1 hv).1
    rw [u8s_length, hR.all r (List.mem_of_getElem? hr)] at h1
    exact h1
  have := h (cs.length + (k * 32 + j)) v (by rw [List.getElem?_append_right (by omega), show cs.length + (k * 32 + j) - cs.length = k * 32 + j by omega, regV_at hR hr hj]; exact hv)
  rw [← Nat.add_assoc] at this
  exact this
/-- one register is written whole -/
theorem RegsAt.store {w : World} {b o : Nat} {regs : List (List Int)} (hR : Regs regs) (h : RegsAt w b o regs) {k : Nat} {r0 r : List Int} (hr0 : regs[k]? = some r0) (hr : r.length = 32) : RegsAt (w.setCells b (o + k * 32) (u8s r)) b o (regs.set k r) := by
  have h0 : r0.length = 32 := hR.all r0 (List.mem_of_getElem? hr0)
  have hth : w.there b (o + k * 32) (u8s r).length := by
    have h1 := h.there hr0
    have h2 : (u8s r0).length = (u8s r).length := by rw [u8s_length, u8s_length, h0, hr]
    rw [h2] at h1
    exact h1
  intro q s hs j v hv
  rw [World.frozen?_setCells]
  rw [List.getElem?_set] at hs
  have hj : ∀ s : List Int, s.length = 32 → (u8s s)[j]? = some v → j < 32 := fun s hs hv => by
    have h1 := (List.getElem?_eq_some_iff.1 hv).1
    rwa [u8s_length, hs] at h1
  split at hs
  · rename_i e
    subst e
    split at hs
    · cases hs
      have h1 := World.rangeAt_setCells_same w b (o + k * 32) (u8s r) hth j v hv
      refine ⟨h1, ?_⟩
      have hjl := hj r hr hv
      have := h k r0 hr0 j _ (List.getElem?_eq_getElem (show j < (u8s r0).length by rw [u8s_length, h0]; exact hjl))
      exact this.2
    · cases hs
  · rename_i e
    have h2 := h q s hs j v hv
    have hjl := hj s (hR.all s (List.mem_of_getElem? hs)) hv
    refine ⟨?_, h2.2⟩
    rw [World.cell?_setCells_out b (u8s r) (o + k * 32) w _ (fun _ _ => by
      simp only
      rw [u8s_length, hr]
      rcases Nat.lt_or_gt_of_ne e with g | g
      · right; omega
      · left; omega)]
    exact h2.1

/-- a log at block b: its events' slice in cell 0, its registers behind -/
structure LogAt (w : World) (b : Nat) (v : Value) (regs : List (List Int)) (evs : List Ev) : Prop where
  ok : Regs regs
  good : ∀ e ∈ evs, Ev.Ok e
  cell : w.cell? ⟨b, 0, none⟩ = some v
  free : w.frozen? ⟨b, 0, none⟩ = false
  rg : RegsAt w b 1 regs
  row : Row w 34 v evs.length (evs.flatMap evV)
  ne : v.ownBlock ≠ some b
  low : ∀ q, v.ownBlock = some q → q < w.heap.size
def Foot (b : Nat) (v : Value) : Nat → Prop := fun q => q = b ∨ v.ownBlock = some q
theorem LogAt.mods {F : Nat → Prop} {w w' : World} {b : Nat} {v : Value} {regs : List (List Int)} {evs : List Ev} (h : LogAt w b v regs evs) (hm : Mods F w w') (hn : ∀ q, Foot b v q → ¬ F q) : LogAt w' b v regs evs :=
  ⟨h.ok, h.good, hm.cell h.cell (hn b (.inl rfl)), hm.free h.cell h.free (hn b (.inl rfl)), h.rg.mods hm (hn b (.inl rfl)), h.row.mods hm (fun g hg => hn g (.inr hg)), h.ne, fun q hq => Nat.lt_of_lt_of_le (h.low q hq) hm.size⟩
theorem LogAt.no {w w' : World} {b : Nat} {v : Value} {regs : List (List Int)} {evs : List Ev} (h : LogAt w b v regs evs) (hm : Mods No w w') : LogAt w' b v regs evs := h.mods hm (fun _ _ h => h)
theorem LogAt.lt {w : World} {b : Nat} {v : Value} {regs : List (List Int)} {evs : List Ev} (h : LogAt w b v regs evs) : b < w.heap.size := World.block_lt_of_cell? w ⟨b, 0, none⟩ h.cell
theorem RegsAt.set0 {w : World} {b : Nat} {regs : List (List Int)} (h : RegsAt w b 1 regs) (v : Value) : RegsAt (w.setCell ⟨b, 0, none⟩ v) b 1 regs := by
  intro k r hr j u hu
  obtain ⟨h1, h2⟩ := h k r hr j u hu
  exact ⟨(cell_ne w v (.inr (by omega))).trans h1, by rw [World.frozen?_setCell]; exact h2⟩
theorem LogAt.push {w w4 : World} {b : Nat} {v : Value} {regs : List (List Int)} {evs : List Ev} (h : LogAt w b v regs evs) (ev : Ev) (hok : Ev.Ok ev) (v' : Value) (hr : Row w4 34 v' (evs.length + 1) (evs.flatMap evV ++ evV ev))
    (hm : Mods (fun k => v.ownBlock = some k) w w4) (hb : v'.ownBlock = v.ownBlock ∨ ∃ g, v'.ownBlock = some g ∧ w.heap.size ≤ g) :
    LogAt (w4.setCell ⟨b, 0, none⟩ v') b v' regs (evs ++ [ev]) ∧ w4.cell? ⟨b, 0, none⟩ = some v ∧ w4.frozen? ⟨b, 0, none⟩ = false ∧ Mods (Foot b v) w (w4.setCell ⟨b, 0, none⟩ v') := by
  have hc4 := hm.cell h.cell (p := ⟨b, 0, none⟩) h.ne
  have hf4 := hm.free h.cell h.free (p := ⟨b, 0, none⟩) h.ne
  have hne : v'.ownBlock ≠ some b := by
    rcases hb with h1 | ⟨g, h1, h2⟩
    · rw [h1]; exact h.ne
    · rw [h1]
      intro e
      cases e
      have := h.lt
      omega
  have hM : Mods (Foot b v) w (w4.setCell ⟨b, 0, none⟩ v') := (hm.mono (G := Foot b v) (fun i hi => .inr hi)).setCell (p := ⟨b, 0, none⟩) (.inl (.inl rfl)) v'
  have hm1 : Mods (PF.One b) w4 (w4.setCell ⟨b, 0, none⟩ v') := (Mods.refl (PF.One b) w4).setCell (p := ⟨b, 0, none⟩) (.inl rfl) v'
  refine ⟨⟨h.ok, fun e he => ?_, cell_eq w4 _ hc4, by rw [World.frozen?_setCell]; exact hf4, (h.rg.mods hm h.ne).set0 v', ?_, hne, fun q hq => ?_⟩, hc4, hf4, hM⟩
  · rcases List.mem_append.1 he with h1 | h1
    · exact h.good e h1
    · simp at h1; subst h1; exact hok
  · rw [List.length_append, List.flatMap_append]
    simp only [List.length_cons, List.length_nil, List.flatMap_cons, List.flatMap_nil, List.append_nil]
    exact hr.mods hm1 (fun g hg e => hne (by rw [hg, show g = b from e]))
  · have := hr.lt (by rw [List.length_append]; simp [evV]; omega) q hq
    exact Nat.lt_of_lt_of_le this hm1.size
theorem LogAt.setReg {w : World} {b : Nat} {v : Value} {regs : List (List Int)} {evs : List Ev} (h : LogAt w b v regs evs) {n : Nat} {r X : List Int} (hr : regs[n]? = some r) (hX : X.length = 32) : LogAt (w.setCells b (1 + n * 32) (u8s X)) b v (regs.set n X) evs := by
  have hm : Mods (PF.One b) w (w.setCells b (1 + n * 32) (u8s X)) := mods_setCells (F := PF.One b) b (.inl rfl) _ _ w (Mods.refl _ _)
  exact ⟨h.ok.set n hX, h.good, by rw [World.cell?_setCells_out b _ _ w _ (fun _ _ => .inl (by simp; omega))]; exact h.cell, by rw [World.frozen?_setCells]; exact h.free, h.rg.store h.ok hr hX,
    h.row.mods hm (fun g hg e => h.ne (by rw [hg, show g = b from e])), h.ne, fun q hq => Nat.lt_of_lt_of_le (h.low q hq) hm.size⟩
theorem infoEv3 : (Try.prog.info? 45).map (fun i => (i.zero, i.size, i.bytes)) = some (some (.agg (evV ⟨0, z32, ByteArray.empty⟩).toArray), 34, 56) := by kernel_rfl
theorem evV_one (e : Ev) : ∀ u ∈ evV e, u.oneCell' = true := by
  intro u hu
  simp only [evV, u8s, List.mem_cons, List.mem_append, List.mem_map, List.not_mem_nil, or_false] at hu
  rcases hu with rfl | ⟨x, _, rfl⟩ | rfl <;> rfl
theorem infoEv : (Try.prog.info? 45).map (·.size) = some 34 := by kernel_rfl
end Go.Proofs.Ytamdanpkkcdhbaa
