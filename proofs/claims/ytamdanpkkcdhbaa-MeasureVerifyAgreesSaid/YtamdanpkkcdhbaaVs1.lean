/- Words for MeasureVerifyAgrees: a digest is written into an event of a row; what lies behind a place of a slice. -/
import Derived.Test.YtamdanpkkcdhbaaPre1
set_option linter.unusedVariables false
set_option linter.unusedSimpArgs false
namespace Go.Proofs.Ytamdanpkkcdhbaa
open Go.RowKit Go.PF

def setL : List Value → Nat → List Value → List Value
  | xs, _, [] => xs
  | xs, o, v :: vs => setL (xs.set o v) (o + 1) vs
theorem setL_mid (a : List Value) : ∀ (vs b c : List Value), b.length = vs.length → setL (a ++ (b ++ c)) a.length vs = a ++ (vs ++ c) := by
  intro vs
  induction vs generalizing a with
  | nil => intro b c h; rw [List.eq_nil_of_length_eq_zero h]; rfl
  | cons v vs ih =>
    intro b c h
    cases b with
    | nil => simp at h
    | cons x b =>
      have e : (a ++ (x :: b ++ c)).set a.length v = (a ++ [v]) ++ (b ++ c) := by
        rw [List.set_append, if_neg (by omega), Nat.sub_self]
        simp
      have e2 : a.length + 1 = (a ++ [v]).length := by simp
      show setL ((a ++ (x :: b ++ c)).set a.length v) (a.length + 1) vs = _
      rw [e, e2, ih (a ++ [v]) b c (by simpa using h)]
      simp
theorem Row.setCells {k n g c : Nat} : ∀ (vs : List Value) (o : Nat) (w : World) (xs : List Value), Row w k (.slice (some ⟨g, 0, none⟩) n c) n xs → Row (w.setCells g o vs) k (.slice (some ⟨g, 0, none⟩) n c) n (setL xs o vs)
  | [], o, w, xs, h => h
  | v :: vs, o, w, xs, h => Row.setCells vs (o + 1) _ _ (Row.set h o v)
theorem flat_dig (L : List Ev) (hok : ∀ e ∈ L, Ev.Ok e) (i : Nat) (e : Ev) (he : L[i]? = some e) (q : List Int) (hq : q.length = 32) : setL (L.flatMap evV) (i * 34 + 1) (u8s q) = (L.set i ⟨e.reg, q, e.text⟩).flatMap evV := by
  have hil : i < L.length := (List.getElem?_eq_some_iff.1 he).1
  have hLe : L[i] = e := (List.getElem?_eq_some_iff.1 he).2
  have e1 : L = L.take i ++ e :: L.drop (i + 1) := by
    rw [← hLe, ← List.drop_eq_getElem_cons hil, List.take_append_drop]
  have hlt : ((L.take i).flatMap evV).length = i * 34 := by
    rw [flat_length evV 34 _ (fun x hx => evV_length (hok x (List.mem_of_mem_take hx)).dig), List.length_take, Nat.min_eq_left (by omega)]
  have hoke := hok e (List.mem_of_getElem? he)
  have e2 : L.flatMap evV = ((L.take i).flatMap evV ++ [Value.int .i64 e.reg]) ++ (u8s e.dig ++ (Value.string e.text :: (L.drop (i + 1)).flatMap evV)) := by
    conv => lhs; rw [e1]
    rw [List.flatMap_append, List.flatMap_cons]
    simp [evV]
  have e3 : i * 34 + 1 = ((L.take i).flatMap evV ++ [Value.int .i64 e.reg]).length := by rw [List.length_append, hlt]; rfl
  rw [e2, e3, setL_mid _ _ _ _ (by rw [u8s_length, u8s_length, hoke.dig, hq])]
  have e4 : L.set i ⟨e.reg, q, e.text⟩ = L.take i ++ ⟨e.reg, q, e.text⟩ :: L.drop (i + 1) := by
    rw [List.set_eq_take_append_cons_drop, if_pos hil]
  rw [e4, List.flatMap_append, List.flatMap_cons]
  simp [evV]
theorem Row.there {w : World} {k n g c : Nat} {xs : List Value} (h : Row w k (.slice (some ⟨g, 0, none⟩) n c) n xs) (o m : Nat) (ho : o + m ≤ n * k) : w.there g o m := fun j hj => by
  have hj2 : o + j < xs.length := by rw [h.1]; omega
  refine ⟨?_, h.free (by omega)⟩
  rw [h.cell (List.getElem?_eq_getElem hj2)]
  rfl
/-- s[k:] -/
theorem slice_from {P : Program} (T : TypeId) (g n c k s : Nat) (ht : P.underlying T = some (.slice (P.elem T))) (hs : ∀ w : World, (sizeOf (P.elem T)).run P w = .ok s w) (hk : k ≤ n) (hn : n ≤ c) :
    ∃ ad, (∀ w : World, (Instr.slice T (.slice (some ⟨g, 0, none⟩) n c) (some (.int .i64 k)) none none).run P w = .ok (.slice (some ad) (n - k) (c - k)) w) ∧ (0 < n - k → ad = ⟨g, k * s, none⟩) := by
  by_cases h : c = k
  · refine ⟨⟨g, 0, none⟩, fun w => ?_, fun h2 => by omega⟩
    rw [run_slice_l w T (some ⟨g, 0, none⟩) n c ht .i64 k (by omega) (by omega), hs w]
    simp only [Result.andThen_ok, sliced, Int.toNat_natCast]
    rw [if_pos h]
  · refine ⟨⟨g, k * s, none⟩, fun w => ?_, fun _ => rfl⟩
    rw [run_slice_l w T (some ⟨g, 0, none⟩) n c ht .i64 k (by omega) (by omega), hs w]
    simp only [Result.andThen_ok, sliced, Int.toNat_natCast]
    rw [if_neg h]
    simp [Addr.add]
    by_cases h0 : k * s = 0
    · simp [h0]
    · simp [h0]
end Go.Proofs.Ytamdanpkkcdhbaa
