/- The statement MeasureExtendsPrefix. -/
import Derived.Test.YtamdanpkkcdhbaaPre1
set_option linter.unusedVariables false
set_option linter.unusedSimpArgs false
namespace Go.Proofs.Ytamdanpkkcdhbaa
open Go.RowKit Go.PF

def modE (e : Ev) : Ev := ⟨modZ e.reg 8, e.dig, e.text⟩
/-- the first k registers are in range -/
def Fixed (evs L : List Ev) (k : Nat) : Prop := L.length = evs.length ∧ ∀ j e, evs[j]? = some e → L[j]? = some (if j < k then modE e else e)
theorem Fixed.start (evs : List Ev) : Fixed evs evs 0 := ⟨rfl, fun j e h => by rw [h, if_neg (by omega)]⟩
theorem Fixed.step {evs L : List Ev} {k : Nat} {e : Ev} (h : Fixed evs L k) (he : evs[k]? = some e) : Fixed evs (L.set k (modE e)) (k + 1) := by
  refine ⟨by rw [List.length_set]; exact h.1, fun j x hx => ?_⟩
  have hj := h.2 j x hx
  have hjl : j < L.length := by rw [h.1]; exact (List.getElem?_eq_some_iff.1 hx).1
  rw [List.getElem?_set]
  by_cases e1 : k = j
  · subst e1
    rw [he] at hx
    cases hx
    rw [if_pos rfl, if_pos hjl, if_pos (by omega)]
  · rw [if_neg e1, hj]
    by_cases h2 : j < k
    · rw [if_pos h2, if_pos (by omega)]
    · rw [if_neg h2, if_neg (by omega)]
theorem Fixed.inRegs {evs L : List Ev} {n : Nat} (h : Fixed evs L n) (hn : evs.length = n) : inRegs L := by
  intro e he
  obtain ⟨j, hj⟩ := List.mem_iff_getElem?.1 he
  have hjl : j < evs.length := by rw [← h.1]; exact (List.getElem?_eq_some_iff.1 hj).1
  have := h.2 j _ (List.getElem?_eq_getElem hjl)
  rw [hj, if_pos (by omega)] at this
  cases this
  have := modZ_range evs[j].reg (m := 8) (by omega)
  exact this

set_option maxHeartbeats 8000000 in
set_option maxRecDepth 100000 in
theorem prefix_walk (A : Option Addr) (n cap : Nat) (evs : List Ev) (hl : evs.length = n) (hok : ∀ e ∈ evs, Ev.Ok e) (hn : (n : Int) ≤ 20) (cut : Int) (hcut : -9223372036854775808 ≤ cut ∧ cut < 9223372036854775808) {W : World} (hS : Sl W 34 A n (evs.flatMap evV)) :
    Calls Try.prog 9 #[.slice A n cap, .int .i64 cut] W fun e w' => e = .returned (.bool true) ∧ Mods No W w' := by
  have HS := Lib.hid hS
  have HO := Lib.hid hok
  have Hl := Lib.hid hl
  have H1 : Hid (∀ u ∈ evs.flatMap evV, u.oneCell' = true) := fun u hu => by
    obtain ⟨e, _, h⟩ := List.mem_flatMap.1 hu
    exact evV_one e u h
  have hlen : (evs.flatMap evV).length = n * 34 := hS.1
  have Hlen := Lib.hid hlen
  obtain ⟨iE, hiE, hzE, hsE, hyE⟩ := info_parts infoEv3
  clear hS hok hl hlen
  have hA0 : Hid (A = none → n = 0) := fun h => by
    rcases Nat.eq_zero_or_pos n with h2 | h2
    · exact h2
    · obtain ⟨g, o, h3, _⟩ := HS.out.2.2 h2
      rw [h] at h3
      cases h3
  have HS1 : Hid (Sl (W.alloc (.cells #[] 45)) 34 A n (evs.flatMap evV)) := HS.out.mods ((Mods.refl No W).alloc _) (fun _ _ _ h => h)
  have hn1 : n ≤ 20 := by omega
  go_enter Try.func9, Try.ntmps9
  go_wp2_with (at_builtin; refine wpList_append_arg_new rfl _ _ 46 rfl 45 iE _ 34 56 Try.underlying46 hiE hzE hsE hyE rfl (by decide) W.heap.size rfl A n cap (evs.flatMap evV) rfl HS1.out hA0.out H1.out ?c2 ?c3 ?_)
  case c2 => unfold maxLen; omega
  case c3 => omega
  intro A1 c1 w' hnc1 hr hm hb
  have hM : Mods No W w' := ((Mods.refl No W).alloc (.cells #[] 45)).trans hm (fun i h => .inr (by omega))
  have hB : ∀ q, (Value.slice A1 n c1).ownBlock = some q → W.heap.size ≤ q := fun q hq => by
    rcases hb q hq with h | h
    · omega
    · have h2 := ((Mods.refl No W).alloc (.cells #[] 45)).size; omega
  have G1 := Lib.hid hr
  have G2 := Lib.hid hM
  have G3 := Lib.hid hB
  clear hr hm hb hM hB hA0 HS1
  go_wp2_with fail
  go_loopw [6] (fun q wr => ∃ (k : Nat) (L : List Ev), k ≤ n ∧ q = .int .i64 k ∧ Fixed evs L k ∧ (∀ e ∈ L, Ev.Ok e) ∧ Row wr 34 (.slice A1 n c1) n (L.flatMap evV) ∧ Mods No W wr) (fun q _ => n - (intOf q).toNat)
  case atStart => exact ⟨0, evs, Nat.zero_le _, rfl, Fixed.start evs, HO.out, G1.out, G2.out⟩
  case round =>
    clear G1 G2
    obtain ⟨k, L, hk, rfl, hF, hOk, hR, hM⟩ := hrel
    have HF := Lib.hid hF
    have HOk := Lib.hid hOk
    have HR := Lib.hid hR
    have HM := Lib.hid hM
    clear hF hOk hR hM
    by_cases hlt : k < n
    · obtain ⟨e, he⟩ := some_at (l := evs) (i := k) (by rw [Hl.out]; exact hlt)
      have hLk := HF.out.2 k e he
      rw [if_neg (by omega)] at hLk
      have hoke := HOk.out e (List.mem_of_getElem? hLk)
      have hr2 := HR.out.shape
      obtain ⟨A2, c2, hAe, -, -, hAp⟩ := hr2
      obtain ⟨g, rfl⟩ := hAp (by omega)
      cases hAe
      have hkl : (k : Int) < n := by omega
      have c0 : wr.cell? ⟨g, k * 34, none⟩ = some (.int .i64 e.reg) := HR.out.cell (by
        have := flat_get_mem evV 34 L (fun x hx => evV_length (HOk.out x hx).dig) k 0 (by omega)
        rw [Nat.add_zero, hLk] at this
        exact this)
      have f0 : wr.frozen? ⟨g, k * 34, none⟩ = false := HR.out.free (by omega)
      have hmodv := Lib.hid (fun w => mod_val e.reg 8 ⟨hoke.lo, by have := hoke.hi; omega⟩ (by omega) w)
      have hF' := Lib.hid (HF.out.step he)
      have hOk' := Lib.hid (ok_set HOk.out k (Ok.reg hoke (r := modZ e.reg 8) (by have := modZ_range e.reg (m := 8) (by omega); omega) (by have := modZ_range e.reg (m := 8) (by omega); omega)))
      have hR' := HR.out.set (k * 34) (.int .i64 (modZ e.reg 8))
      rw [flat_set L HOk.out k e _ hLk] at hR'
      have HR' := Lib.hid hR'
      have HM' := Lib.hid (HM.out.setCell (p := ⟨g, k * 34, none⟩) (.inr (G3.out g rfl)) (.int .i64 (modZ e.reg 8)))
      have hme : modE e = ⟨modZ e.reg 8, e.dig, e.text⟩ := rfl
      rw [hme] at hF'
      generalize modZ e.reg 8 = md at hmodv hF' hOk' HR' HM'
      clear he hLk hoke hR' hme
      go_wp2_with fail
      refine (hmodv.out _).mono ?_
      rintro e' w'' ⟨rfl, rfl⟩
      go_wp2_with fail
      go_roundw
      case rel => exact ⟨k + 1, _, by omega, by go_num, hF'.out, hOk'.out, HR'.out, HM'.out⟩
      case measure => simp [intOf]; omega
    · obtain rfl : k = n := by omega
      have hz := modZ_range cut (m := (k : Int) + 1) (by omega)
      have hmodv := Lib.hid (fun w => mod_val cut ((k : Int) + 1) hcut (by omega) w)
      obtain ⟨j, hj⟩ : ∃ j : Nat, modZ cut ((k : Int) + 1) = j := ⟨(modZ cut ((k : Int) + 1)).toNat, by omega⟩
      rw [hj] at hmodv hz
      have hjl : j ≤ k := by omega
      have Hin := Lib.hid (HF.out.inRegs Hl.out)
      have hLl : L.length = k := HF.out.1.trans Hl.out
      have HLl := Lib.hid hLl
      clear hj hz hlt hk
      go_wp2_with fail
      refine (hmodv.out _).mono ?_
      rintro e' w'' ⟨rfl, rfl⟩
      have hsl : ∀ w, (Instr.slice 46 (.slice A1 k c1) none (some (.int .i64 (j : Int))) none).run Try.prog w = .ok (.slice A1 j c1) w := fun w => by
        exact slice_to 46 A1 k c1 j 34 Try.underlying46 (by kernel_rfl) (by omega)
      have hrep1 := Lib.hid (fun w (h : EvSl w A1 L) => replay_sl A1 c1 L HOk.out (by omega) w h)
      have hrep2 := Lib.hid (fun w (h : EvSl w A1 (L.take j)) => replay_sl A1 c1 (L.take j) (fun x hx => HOk.out x (List.mem_of_mem_take hx)) (by rw [List.length_take]; omega) w h)
      rw [hLl] at hrep1
      rw [List.length_take, hLl, Nat.min_eq_left hjl] at hrep2
      have hE1 : EvSl wr A1 L := Row.evSl (c := c1) (by rw [hLl]; exact HR.out) HOk.out
      have hE2 : EvSl wr A1 (L.take j) := fun i e he => hE1 i e (by rw [List.getElem?_take] at he; split at he; exact he; cases he)
      have HE1 := Lib.hid hE1
      have HE2 := Lib.hid hE2
      clear hLl hE1 hE2
      go_wp2_with fail
      refine (hrep1.out _ HE1.out).mono ?_
      rintro e w3 p3
      obtain ⟨Ba, hBa, rfl, hRa⟩ := p3.good Hin.out
      have HRa := Lib.hid hRa
      have HM3 := Lib.hid (HM.out.no p3.mods)
      have HR3 := Lib.hid (HR.out.no p3.mods)
      have HE3 := Lib.hid (HE2.out.no p3.mods)
      have hBalt : Ba < w3.heap.size := by
        obtain ⟨r, hr, hrl⟩ := (replayL_ok L).at (k := 0) (by omega)
        have := hRa 0 r hr 0 (.int .u8 (r.getD 0 0)) (u8_at (by omega))
        exact World.block_lt_of_cell? _ _ this.1
      clear p3 hRa hBa HM HR HE1 HE2 hrep1
      go_wp2_with fail
      refine (hrep2.out _ HE3.out).mono ?_
      rintro e w4 p4
      obtain ⟨Bb, hBb, rfl, hRb⟩ := p4.good (fun x hx => Hin.out x (List.mem_of_mem_take hx))
      have HRb := Lib.hid hRb
      have HRa4 := Lib.hid (HRa.out.mods p4.mods id)
      have HM4 := Lib.hid (HM3.out.no p4.mods)
      have HR4 := Lib.hid (HR3.out.no p4.mods)
      have hne : Ba ≠ Bb := by omega
      have hne1 : Hid (0 < k → ∀ q, (Value.slice A1 k c1).ownBlock = some q → q ≠ Bb) := fun hk q hq => by
        have := HR3.out.lt (by rw [HR3.out.1]; omega) q hq
        omega
      have hBbn := Nat.le_trans HM3.out.size hBb
      clear p4 hRb hBb HM3 HR3 HE3 HRa hrep2 hsl hBalt
      go_wp2_with fail
      go_loopw [12] (fun q wr => ∃ i : Nat, j ≤ i ∧ i ≤ k ∧ q = .int .i64 i ∧ RegsAt wr Ba 0 (replayL L) ∧ RegsAt wr Bb 0 (replayL (L.take i)) ∧ Row wr 34 (.slice A1 k c1) k (L.flatMap evV) ∧ Mods No W wr) (fun q _ => k - (intOf q).toNat)
      case atStart => exact ⟨j, Nat.le_refl _, hjl, rfl, HRa4.out, HRb.out, HR4.out, HM4.out⟩
      case round =>
        clear HRa4 HRb HR4 HM4
        obtain ⟨i, hji, hik, rfl, hRa, hRb, hR, hM⟩ := hrel
        have HRa := Lib.hid hRa
        have HRb := Lib.hid hRb
        have HR := Lib.hid hR
        have HM := Lib.hid hM
        clear hRa hRb hR hM
        by_cases hlt : i < k
        · obtain ⟨e, he⟩ := some_at (l := L) (i := i) (by rw [HLl.out]; exact hlt)
          have hoke := HOk.out e (List.mem_of_getElem? he)
          obtain ⟨g, o, hAe, hg⟩ := Row.evSl (c := c1) (by rw [HLl.out]; exact HR.out) HOk.out i e he
          have hr2 := HR.out.shape
          obtain ⟨A2, c2, hAe2, -, -, hAp⟩ := hr2
          cases hAe2
          obtain ⟨g2, hA1⟩ := hAp (by omega)
          rw [hA1] at hAe
          cases hAe
          subst hA1
          rw [Nat.zero_add] at hg
          have hkl : (i : Int) < k := by omega
          have hin := Hin.out e (List.mem_of_getElem? he)
          obtain ⟨nn, hnn⟩ : ∃ nn : Nat, e.reg = nn := ⟨e.reg.toNat, by omega⟩
          have hn8 : nn < 8 := by omega
          have hn81 : (nn : Int) < 8 := by omega
          have c0 : wr.cell? ⟨g, i * 34, none⟩ = some (.int .i64 nn) := by rw [← hnn]; exact hg 0 _ rfl
          obtain ⟨r, hr1, hrl⟩ := (replayL_ok (L.take i)).at (k := nn) hn8
          have hst : replayL (L.take (i + 1)) = (replayL (L.take i)).set nn (extL r e.dig) := by
            rw [take_succ_of he, replayL_push]
            unfold stepE
            rw [hnn, Int.toNat_natCast, show (replayL (L.take i)).getD nn [] = r by simp [List.getD, hr1]]
          have hX : (extL r e.dig).length = 32 := shaL_length _
          have hsz : (strOfNums r ++ strOfNums e.dig).size ≤ 1000000 := by rw [ByteArray.size_append, str_size hrl, str_size hoke.dig]; omega
          have hEx : ∀ w, Calls Try.prog 15 #[.string (strOfNums r ++ strOfNums e.dig)] w fun e' w' => e' = .returned (.agg (u8s (extL r e.dig)).toArray) ∧ Mods No w w' := fun w => sum_any _ hsz w
          have s1 : (strOfNums r).size ≤ 100 := by rw [str_size hrl]; omega
          have s2 : (strOfNums e.dig).size ≤ 100 := by rw [str_size hoke.dig]; omega
          obtain ⟨X, hXe⟩ : ∃ X, extL r e.dig = X := ⟨_, rfl⟩
          rw [hXe] at hst hX hEx
          have HX := Lib.hid hX
          have HEx := Lib.hid hEx
          have Hst := Lib.hid hst
          have Hr1 := Lib.hid hr1
          have HRL := Lib.hid hrl
          have hcv1 : ∀ x : Ext wr, (convert 23 9 (.slice (some ⟨Bb, nn * 32, none⟩) 32 32)).run Try.prog x.w = .ok (.string (strOfNums r)) x.w := fun x => by
            refine run_convert_bytes_arg (P := Try.prog) x.w 23 5 Try.underlying23 Try.underlying5 Bb (nn * 32) 32 32 r hrl (fun i hi => ?_) 9 Try.underlying9
            have := (HRb.out.mods x.m id).range hr1 i _ (u8_at (by rw [hrl]; exact hi))
            rw [Nat.zero_add] at this
            exact this
          have hcv2 : ∀ x : Ext wr, (convert 23 9 (.slice (some ⟨g, i * 34 + 1, none⟩) 32 32)).run Try.prog x.w = .ok (.string (strOfNums e.dig)) x.w := fun x => by
            refine run_convert_bytes_arg (P := Try.prog) x.w 23 5 Try.underlying23 Try.underlying5 g (i * 34 + 1) 32 32 e.dig hoke.dig (fun j hj => ?_) 9 Try.underlying9
            have := hg (1 + j) _ (by
              rw [Nat.add_comm]
              show ((u8s e.dig ++ [Value.string e.text]))[j]? = some _
              rw [List.getElem?_append_left (by rw [u8s_length, hoke.dig]; exact hj)]
              exact u8_at (by rw [hoke.dig]; exact hj))
            rw [← Nat.add_assoc] at this
            exact x.m.cell this id
          have hgb : g ≠ Bb := hne1.out (by omega) g rfl
          obtain ⟨D, hD⟩ : ∃ D, e.dig = D := ⟨_, rfl⟩
          rw [hD] at HEx hcv2 s2
          have He := Lib.hid he
          clear hXe hst hX hEx hsz hrl hr1 he hoke hg hin hnn hD
          go_wp2_with fail
          refine wp_region_ext 16 (by kernel_rfl) (by kernel_rfl) ?_
          simp only [List.take_succ_cons, List.take_zero, List.drop_succ_cons, List.drop_zero]
          repeat (first | go_big_quiet_skip | (go_big_quiet_want; first
            | (refine quiet_of_run (.string (strOfNums r)) (fun w ⟨x, h⟩ => h ▸ op_value (convert 23 9 (.slice (some ⟨Bb, nn * 32, none⟩) 32 32)) (by rfl) (hcv1 x)) ?_; go_big_quiet_on; simp only [Act.put, List.setIfInBounds_toArray, List.set_cons_succ, List.set_cons_zero])
            | (refine quiet_of_run (.string (strOfNums D)) (fun w ⟨x, h⟩ => h ▸ op_value (convert 23 9 (.slice (some ⟨g, i * 34 + 1, none⟩) 32 32)) (by rfl) (hcv2 x)) ?_; go_big_quiet_on; simp only [Act.put, List.setIfInBounds_toArray, List.set_cons_succ, List.set_cons_zero])
            | (go_big_quiet_op; first | go_big_quiet_on | go_big_quiet_call ((go_at_call 15; exact Ext.call _ (HEx.out _))))))
          refine wpQuiet_nil ?_
          intro x
          have hA9 := HRb.out.mods x.m id
          have hT9 := thereX (hA9.there Hr1.out) HRL.out HX.out
          have hS9 := hA9.store (replayL_ok _) Hr1.out HX.out
          rw [Nat.zero_add] at hT9 hS9
          have HT := Lib.hid hT9
          have HS2 := Lib.hid hS9
          have HI9 := Lib.hid (info32' HX.out)
          have hms := mods_setCells (F := PF.One Bb) (a := x.w) Bb (.inl rfl) (u8s X) (nn * 32) _ (Mods.refl _ _)
          have HRa2 := Lib.hid ((HRa.out.mods x.m id).mods hms hne)
          have HR2 := Lib.hid (Row.mods (HR.out.no x.m) hms (fun q hq h => by simp only [Value.ownBlock, Option.some.injEq] at hq; unfold PF.One at h; omega))
          have HM2 := Lib.hid (mods_setCells (F := No) (a := W) Bb (.inr hBbn) (u8s X) (nn * 32) _ (HM.out.no x.m))
          clear hA9 hT9 hS9 hms hcv1 hcv2 s1 s2 HRa HRb HR HM c0
          go_wp2_with ((with_reducible refine wpList_store_mid ?_ 26 (.tmp 97) (.tmp 96) ?_ Bb (nn * 32) (u8s X).toArray ?_ ?_ HT.out HI9.out (u8s_one _) ?_); rfl; rfl; rfl; rfl)
          go_roundw
          case rel => exact ⟨i + 1, by omega, by omega, by go_num, HRa2.out, by rw [Hst.out]; exact HS2.out, HR2.out, HM2.out⟩
          case measure => simp [intOf]; omega
        · obtain rfl : i = k := by omega
          have htk : L.take i = L := List.take_of_length_le (by rw [HLl.out]; exact Nat.le_refl _)
          rw [htk] at HRb
          have h8 := (replayL_ok L).eight
          have heq := Lib.hid (fun w (h1 : RegsAt w Ba 0 (replayL L)) (h2 : RegsAt w Bb 0 (replayL L)) => equalD_same (some ⟨Ba, 0, none⟩) (some ⟨Bb, 0, none⟩) 8 8 (replayL L) (replayL_ok L).all (by omega) w h1.regsSl h2.regsSl)
          rw [h8] at heq
          have hkl : (i : Int) ≤ i := Int.le_refl _
          clear htk h8 hlt hik
          go_wp2_with fail
          refine (heq.out _ HRa.out HRb.out).mono ?_
          rintro e w8 ⟨rfl, m8⟩
          have HM8 := Lib.hid (HM.out.no m8)
          clear m8
          go_wp2_with fail
          refine (awake_any _).mono ?_
          rintro e w10 ⟨rfl, m10⟩
          have HM10 := Lib.hid (HM8.out.no m10)
          clear m10
          go_wp2_with fail
          go_ret
          exact ⟨rfl, HM10.out⟩
theorem prefix_law (A : Option Addr) (n cap : Nat) (l0 : List EvW) (hl0 : l0.length = n) (_ : ∀ x ∈ l0, EvW.Good x) (_ : n ≤ cap) (_ : cap ≤ 9223372036854775807) {W : World} (hS0 : Sl W 34 A n (l0.flatMap evW)) (cut : Int) (hcut : -9223372036854775808 ≤ cut ∧ cut < 9223372036854775808) :
    Calls Try.prog 9 #[.slice A n cap, .int .i64 cut] W fun e w' => e = .returned (.bool true) ∧ Below W.heap.size W w' := by
  refine Calls.mono (R := fun e w' => e = .returned (.bool true) ∧ Mods No W w') ?_ (fun e w' ⟨h1, h2⟩ => ⟨h1, h2.toBelow (fun _ h => h.elim) (Nat.le_refl _)⟩)
  obtain ⟨evs, hl, hok, hS⟩ := ev_args hl0 hS0
  by_cases h1 : 20 < n
  · have h1' : (20 : Int) < n := by omega
    clear hS0 hS hok hl hl0 h1
    go_enter Try.func9, Try.ntmps9
    go_wp2_with fail
    refine (awake_any _).mono ?_
    rintro e w9 ⟨rfl, m9⟩
    go_wp2_with fail
    go_ret
    exact ⟨rfl, m9⟩
  · exact prefix_walk A n cap evs hl hok (by omega) cut hcut hS
end Go.Proofs.Ytamdanpkkcdhbaa
