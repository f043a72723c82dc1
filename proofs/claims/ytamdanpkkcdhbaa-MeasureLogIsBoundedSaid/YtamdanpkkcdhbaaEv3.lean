/- Equal, on events. -/
import Derived.Test.YtamdanpkkcdhbaaEv2
set_option linter.unusedVariables false
set_option linter.unusedSimpArgs false
namespace Go.Proofs.Ytamdanpkkcdhbaa
open Go.RowKit Go.PF

theorem text_refl (t : ByteArray) : (t == t) = true := by
  first | exact beq_self_eq_true t | (show (t.data == t.data) = true; exact beq_self_eq_true t.data) | (cases t; simp [BEq.beq]; done)
theorem Ev.same_refl (e : Ev) : e.same e = true := by simp [Ev.same, text_refl]
/-- one event of a row -/
theorem Row.evAt {w : World} {v : Value} {evs : List Ev} (h : Row w 34 v evs.length (evs.flatMap evV)) (hok : ∀ e ∈ evs, Ev.Ok e) {k : Nat} {e : Ev} (hk : evs[k]? = some e) : ∃ g c, v = .slice (some ⟨g, 0, none⟩) evs.length c ∧ w.rangeAt g (k * 34) (evV e) := by
  have hkl : k < evs.length := (List.getElem?_eq_some_iff.1 hk).1
  obtain ⟨A, c, rfl, -, -, hA⟩ := h.shape
  obtain ⟨g, rfl⟩ := hA (by omega)
  refine ⟨g, c, rfl, fun j u hu => ?_⟩
  have hl : ∀ x ∈ evs, (evV x).length = 34 := fun x hx => evV_length (hok x hx).dig
  have hj : j < 34 := by
    have := (List.getElem?_eq_some_iff.1 hu).1
    rw [hl e (List.mem_of_getElem? hk)] at this
    exact this
  exact h.cell (by rw [flat_get_mem evV 34 evs hl k j hj, hk]; exact hu)

/-- events that are read -/
def EvSl (w : World) (A : Option Addr) (evs : List Ev) : Prop := ∀ k e, evs[k]? = some e → ∃ g o, A = some ⟨g, o, none⟩ ∧ w.rangeAt g (o + k * 34) (evV e)
theorem EvSl.no {w w' : World} {A : Option Addr} {evs : List Ev} (h : EvSl w A evs) (hm : Mods No w w') : EvSl w' A evs := fun k e hk => by
  obtain ⟨g, o, h1, h2⟩ := h k e hk
  exact ⟨g, o, h1, fun j u hu => hm.cell (h2 j u hu) id⟩
theorem Row.evSl {w : World} {A : Option Addr} {c : Nat} {evs : List Ev} (h : Row w 34 (.slice A evs.length c) evs.length (evs.flatMap evV)) (hok : ∀ e ∈ evs, Ev.Ok e) : EvSl w A evs := fun k e hk => by
  obtain ⟨g, c', hu, h2⟩ := Row.evAt h hok hk
  cases hu
  exact ⟨g, 0, rfl, by rw [Nat.zero_add]; exact h2⟩
theorem Sl.evSl {w : World} {A : Option Addr} {n : Nat} {evs : List Ev} (h : Sl w 34 A n (evs.flatMap evV)) (hl : evs.length = n) (hok : ∀ e ∈ evs, Ev.Ok e) : EvSl w A evs := fun k e hk => by
  have hkl : k < evs.length := (List.getElem?_eq_some_iff.1 hk).1
  obtain ⟨g, o, rfl, hc⟩ := h.2.2 (by omega)
  refine ⟨g, o, rfl, fun j u hu => ?_⟩
  have hl' : ∀ x ∈ evs, (evV x).length = 34 := fun x hx => evV_length (hok x hx).dig
  have hj : j < 34 := by
    have := (List.getElem?_eq_some_iff.1 hu).1
    rw [hl' e (List.mem_of_getElem? hk)] at this
    exact this
  rw [Nat.add_assoc]
  exact hc _ u (by rw [flat_get_mem evV 34 evs hl' k j hj, hk]; exact hu)

set_option maxHeartbeats 1000000 in
set_option maxRecDepth 100000 in
theorem equalEv_same (u v : Value) (evs : List Ev) (hok : ∀ e ∈ evs, Ev.Ok e) (hn : evs.length ≤ 1000) (w : World) (h1 : Row w 34 u evs.length (evs.flatMap evV)) (h2 : Row w 34 v evs.length (evs.flatMap evV)) :
    Calls Try.prog 26 #[u, v] w fun e w' => e = .returned (.bool true) ∧ Mods No w w' := by
  obtain ⟨A, c, rfl, -, -, -⟩ := h1.shape
  obtain ⟨A', c', rfl, -, -, -⟩ := h2.shape
  have HR1 := Lib.hid h1
  have HR2 := Lib.hid h2
  have HO := Lib.hid hok
  clear h1 h2 hok
  go_enter Try.func26, Try.ntmps26
  go_wp2_with fail
  go_loopw [5] (fun q wr => ∃ k : Nat, k ≤ evs.length ∧ q = .int .i64 k ∧ Mods No w wr) (fun q _ => evs.length - (intOf q).toNat)
  case atStart => exact ⟨0, Nat.zero_le _, rfl, Mods.refl _ _⟩
  case round =>
    obtain ⟨k, hk, rfl, hM⟩ := hrel
    by_cases hlt : k < evs.length
    · obtain ⟨e, he⟩ := some_at (l := evs) (i := k) hlt
      have hD := (HO.out e (List.mem_of_getElem? he)).dig
      obtain ⟨g1, c1, hu, r1⟩ := Row.evAt (HR1.out.no hM) HO.out he
      obtain ⟨g2, c2, hv, r2⟩ := Row.evAt (HR2.out.no hM) HO.out he
      cases hu
      cases hv
      have hkl : (k : Int) < evs.length := by omega
      have hE : ∀ w, (binOp .neq 45 (.agg (evV e).toArray) (.agg (evV e).toArray)).run Try.prog w = .ok (.bool false) w := fun w => by rw [evNe e e hD hD w, Ev.same_refl]; rfl
      have R1 : Hid (∀ x : Ext wr, x.w.rangeAt g1 (k * 34) (evV e)) := fun x => (Row.evAt ((HR1.out.no hM).no x.m) HO.out he).elim fun g h => h.elim fun c h => by cases h.1; exact h.2
      have R2 : Hid (∀ x : Ext wr, x.w.rangeAt g2 (k * 34) (evV e)) := fun x => (Row.evAt ((HR2.out.no hM).no x.m) HO.out he).elim fun g h => h.elim fun c h => by cases h.1; exact h.2
      have HI : Hid ((Try.prog.info? 45).map (fun x => x.size) = some (evV e).length) := by rw [evV_length hD]; exact infoEv
      clear r1 r2 he hlt
      go_wp2_with fail
      refine wp_region_ext 9 (by kernel_rfl) (by kernel_rfl) ?_
      simp only [List.take_succ_cons, List.take_zero, List.drop_succ_cons, List.drop_zero]
      repeat (first | go_big_quiet_skip | (go_big_quiet_want; first
        | (refine quiet_load_row 45 (.tmp 19) rfl g1 (k * 34) (by rfl) (evV e) _ (fun _ ⟨x, h⟩ => h ▸ R1.out x) Try.underlying45 rfl HI.out ?_; go_big_quiet_on; simp only [Act.put, List.setIfInBounds_toArray, List.set_cons_succ, List.set_cons_zero])
        | (refine quiet_load_row 45 (.tmp 23) rfl g2 (k * 34) (by rfl) (evV e) _ (fun _ ⟨x, h⟩ => h ▸ R2.out x) Try.underlying45 rfl HI.out ?_; go_big_quiet_on; simp only [Act.put, List.setIfInBounds_toArray, List.set_cons_succ, List.set_cons_zero])
        | (go_big_quiet_op; go_big_quiet_on)))
      refine wpQuiet_nil ?_
      intro x
      have HM := Lib.hid (hM.no x.m)
      clear hM
      go_wp2_with fail
      go_roundw
      case rel => exact ⟨k + 1, by omega, by go_num, HM.out⟩
      case measure => simp [intOf]; omega
    · obtain rfl : k = evs.length := by omega
      go_wp2_with fail
      go_ret
      exact ⟨rfl, hM⟩
end Go.Proofs.Ytamdanpkkcdhbaa
