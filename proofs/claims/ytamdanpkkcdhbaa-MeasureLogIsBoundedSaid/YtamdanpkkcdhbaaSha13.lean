/- Digests as texts; equality of digests; the registers' extension. -/
import Derived.Test.YtamdanpkkcdhbaaSha12
import Derived.Stop.BytesEq
set_option linter.unusedVariables false
set_option linter.unusedSimpArgs false
namespace Go.Proofs.Ytamdanpkkcdhbaa
open Go.RowKit Go.PF

theorem all_range_eqI : ∀ (xs ys : List Int), xs.length = ys.length → ((List.range xs.length).all fun i => xs.getD i 0 == ys.getD i 0) = (xs == ys)
  | [], [], _ => rfl
  | x :: xs, y :: ys, h => by
    have ih := all_range_eqI xs ys (by simpa using h)
    rw [List.length_cons, List.range_succ_eq_map, List.all_cons, List.all_map]
    simp only [List.getD_cons_zero, Function.comp_def, List.getD_cons_succ, ih]
    simp [List.cons_beq_cons]
  | [], _ :: _, h => by simp at h
  | _ :: _, [], h => by simp at h

theorem equalIn_u8s {P : Program} (w : World) (d : Nat) (t e : TypeId) (n : Nat) (ht : P.underlying t = some (.array n e)) (he : P.underlying e = some (.int .u8)) (hsz : ∀ w, (sizeOf e).run P w = .ok 1 w)
    (xs ys : List Int) (hx : xs.length = n) (hy : ys.length = n) :
    (Op.equalIn (d + 2) t (.agg (u8s xs).toArray) (.agg (u8s ys).toArray)).run P w = .ok (xs == ys) w := by
  rw [← all_range_eqI xs ys (hx.trans hy.symm), hx, List.range_eq_range', Op.equalIn]
  simp only [Sem.run_bind, run_underlying ht, Result.andThen_ok, hsz, Std.Legacy.Range.forIn_eq_forIn_range', Std.Legacy.Range.size, Nat.sub_zero, Nat.add_sub_cancel, Nat.div_one]
  have hl : ∀ i ∈ List.range' 0 n 1, i < n := fun i hi => by simpa using (List.mem_range'_1.1 hi).2
  generalize List.range' 0 n 1 = l at hl ⊢
  induction l with
  | nil => simp
  | cons i l ih =>
    have hi : i < n := hl i (by simp)
    have px : (part e (u8s xs).toArray (i * 1)).run P w = .ok (.int .u8 (xs.getD i 0)) w := by
      simp [part, isAgg, u8s, run_underlying he, List.getD, List.getElem?_eq_getElem (show i < xs.length by omega)]
    have py : (part e (u8s ys).toArray (i * 1)).run P w = .ok (.int .u8 (ys.getD i 0)) w := by
      simp [part, isAgg, u8s, run_underlying he, List.getD, List.getElem?_eq_getElem (show i < ys.length by omega)]
    have pe : (Op.equalIn (d + 1) e (.int .u8 (xs.getD i 0)) (.int .u8 (ys.getD i 0))).run P w = .ok (xs.getD i 0 == ys.getD i 0) w := run_equalIn_int w d e .u8 .u8 _ _ he
    simp only [List.forIn_cons, Sem.run_bind, px, py, pe, Result.andThen_ok, List.all_cons]
    cases hb : (xs.getD i 0 == ys.getD i 0)
    · simp
    · simp only [Bool.not_true, Bool.false_eq_true, if_false, Sem.run_pure, Result.andThen_ok, Bool.true_and]
      exact ih fun j hj => hl j (by simp [hj])
theorem eql_u8s {P : Program} (w : World) (t e : TypeId) (n : Nat) (ht : P.underlying t = some (.array n e)) (he : P.underlying e = some (.int .u8)) (hsz : ∀ w, (sizeOf e).run P w = .ok 1 w)
    (xs ys : List Int) (hx : xs.length = n) (hy : ys.length = n) :
    (binOp .eql t (.agg (u8s xs).toArray) (.agg (u8s ys).toArray)).run P w = .ok (.bool (xs == ys)) w := by
  rw [run_eql_struct, equalIn_u8s w 9998 t e n ht he hsz xs ys hx hy]
  rfl
theorem neq_u8s {P : Program} (w : World) (t e : TypeId) (n : Nat) (ht : P.underlying t = some (.array n e)) (he : P.underlying e = some (.int .u8)) (hsz : ∀ w, (sizeOf e).run P w = .ok 1 w)
    (xs ys : List Int) (hx : xs.length = n) (hy : ys.length = n) :
    (binOp .neq t (.agg (u8s xs).toArray) (.agg (u8s ys).toArray)).run P w = .ok (.bool (xs != ys)) w := by
  rw [run_neq_struct, equalIn_u8s w 9998 t e n ht he hsz xs ys hx hy]
  rfl
theorem digEq (xs ys : List Int) (hx : xs.length = 32) (hy : ys.length = 32) (w : World) : (binOp .eql 26 (.agg (u8s xs).toArray) (.agg (u8s ys).toArray)).run Try.prog w = .ok (.bool (xs == ys)) w :=
  eql_u8s w 26 5 32 Try.underlying26 Try.underlying5 (fun w => by kernel_rfl) xs ys hx hy
theorem digNe (xs ys : List Int) (hx : xs.length = 32) (hy : ys.length = 32) (w : World) : (binOp .neq 26 (.agg (u8s xs).toArray) (.agg (u8s ys).toArray)).run Try.prog w = .ok (.bool (xs != ys)) w :=
  neq_u8s w 26 5 32 Try.underlying26 Try.underlying5 (fun w => by kernel_rfl) xs ys hx hy

/-- the bytes of a digest, out of the block where it lies -/
theorem Arr.text {w : World} {B : Nat} {l : List Int} (h : Arr w B (u8s l)) (hl : l.length = 32) (c : Nat) : (convert 23 9 (.slice (some ⟨B, 0, none⟩) 32 c)).run Try.prog w = .ok (.string (strOfNums l)) w := by
  refine run_convert_bytes_arg (P := Try.prog) w 23 5 Try.underlying23 Try.underlying5 B 0 32 c l hl (fun i hi => ?_) 9 Try.underlying9
  rw [Nat.zero_add]
  exact (h i _ (u8_at (by omega))).1

theorem Arr.str {w : World} {B : Nat} {l : List Int} (h : Arr w B (u8s l)) (n : Nat) (hl : l.length = n) (c : Nat) : (convert 23 9 (.slice (some ⟨B, 0, none⟩) n c)).run Try.prog w = .ok (.string (strOfNums l)) w := by
  refine run_convert_bytes_arg (P := Try.prog) w 23 5 Try.underlying23 Try.underlying5 B 0 n c l hl (fun i hi => ?_) 9 Try.underlying9
  rw [Nat.zero_add]
  exact (h i _ (u8_at (by omega))).1
theorem text_any (l : List Int) (hl : l.length = 32) (w : World) : Calls Try.prog 40 #[.agg (u8s l).toArray] w fun e w' => e = .returned (.string (strOfNums l)) ∧ Mods No w w' := by
  have hcv := Arr.text (Arr.new w (u8s l) 26) hl 32
  clear hl
  go_enter Try.func40, Try.ntmps40
  go_wp2
  go_ret
  exact ⟨rfl, (Mods.refl _ _).alloc _⟩

def shaS (s : ByteArray) : ByteArray := strOfNums (shaL s)
/-- the digest is laid into the result's variable and handed back -/
theorem ret_digest {fn : Func} {t : Nat} {a : Array Value} {w0 w : World} {B : Nat} {L L0 : List Int} (h0 : Arr w B (u8s L0)) (hl0 : L0.length = 32) (hl : L.length = 32) (hM : Mods No w0 w) (hB : w0.heap.size ≤ B) (hf : fn.results = #[.cell t 26]) (ha : a.getD t undef = .pointer (some ⟨B, 0, none⟩)) :
    (results fn a).run Try.prog (w.setCells B 0 (u8s L)) = .ok (.agg (u8s L).toArray) (w.setCells B 0 (u8s L)) ∧ Mods No w0 (w.setCells B 0 (u8s L)) := by
  have hst := h0.stored (u8s L) (by rw [u8s_length, u8s_length, hl, hl0])
  exact ⟨results_cell1 hf ha (run_loadVar_mid (P := Try.prog) (w.setCells B 0 (u8s L)) B 0 26 (u8s L) _ hst.range Try.underlying26 rfl (info32 hl)), mods_setCells (F := No) (a := w0) B (.inr hB) (u8s L) 0 w hM⟩
/-- the register's value after an extension -/
def extL (v d : List Int) : List Int := shaL (strOfNums v ++ strOfNums d)
theorem str_size {l : List Int} (h : l.length = 32) : (strOfNums l).size = 32 := by rw [strOfNums_size, h]

set_option maxHeartbeats 1000000 in
theorem extend_any (v d : List Int) (hv : v.length = 32) (hd : d.length = 32) (w : World) : Calls Try.prog 43 #[.agg (u8s v).toArray, .agg (u8s d).toArray] w fun e w' => e = .returned (.agg (u8s (extL v d)).toArray) ∧ Mods No w w' := by
  have hsz : (strOfNums v ++ strOfNums d).size ≤ 1000000 := by rw [ByteArray.size_append, str_size hv, str_size hd]; omega
  have s1 : (strOfNums v).size ≤ 100 := by rw [str_size hv]; omega
  have s2 : (strOfNums d).size ≤ 100 := by rw [str_size hd]; omega
  have h1 : Arr (((w.alloc (.cells (u8s v).toArray 26)).alloc (.cells (u8s d).toArray 26)).alloc (.cells (u8s (List.replicate 32 0)).toArray 26)) w.heap.size (u8s v) := ((Arr.new _ _ _).alloc _).alloc _
  have h2 : Arr (((w.alloc (.cells (u8s v).toArray 26)).alloc (.cells (u8s d).toArray 26)).alloc (.cells (u8s (List.replicate 32 0)).toArray 26)) (w.heap.size + 1) (u8s d) := by
    have := Arr.new (w.alloc (.cells (u8s v).toArray 26)) (u8s d) 26
    rw [World.size_alloc] at this
    exact this.alloc _
  have h3 : Arr (((w.alloc (.cells (u8s v).toArray 26)).alloc (.cells (u8s d).toArray 26)).alloc (.cells (u8s (List.replicate 32 0)).toArray 26)) (w.heap.size + 1 + 1) (u8s (List.replicate 32 0)) := by
    have := Arr.new ((w.alloc (.cells (u8s v).toArray 26)).alloc (.cells (u8s d).toArray 26)) (u8s (List.replicate 32 0)) 26
    rw [World.size_alloc, World.size_alloc] at this
    exact this
  have hM : Mods No w (((w.alloc (.cells (u8s v).toArray 26)).alloc (.cells (u8s d).toArray 26)).alloc (.cells (u8s (List.replicate 32 0)).toArray 26)) := (((Mods.refl _ _).alloc _).alloc _).alloc _
  have Hv := Lib.hid hv
  have Hd := Lib.hid hd
  clear hv hd
  have HS := Lib.hid hsz
  clear hsz
  go_enter Try.func43, Try.ntmps43
  go_wp2_with fail
  rw [show (#[Value.int .u8 0, Value.int .u8 0, Value.int .u8 0, Value.int .u8 0, Value.int .u8 0, Value.int .u8 0, Value.int .u8 0, Value.int .u8 0, Value.int .u8 0, Value.int .u8 0, Value.int .u8 0, Value.int .u8 0, Value.int .u8 0, Value.int .u8 0, Value.int .u8 0, Value.int .u8 0, Value.int .u8 0, Value.int .u8 0, Value.int .u8 0, Value.int .u8 0, Value.int .u8 0, Value.int .u8 0, Value.int .u8 0, Value.int .u8 0, Value.int .u8 0, Value.int .u8 0, Value.int .u8 0, Value.int .u8 0, Value.int .u8 0, Value.int .u8 0, Value.int .u8 0, Value.int .u8 0] : Array Value) = (u8s (List.replicate 32 0)).toArray from rfl]
  generalize ((w.alloc (.cells (u8s v).toArray 26)).alloc (.cells (u8s d).toArray 26)).alloc (.cells (u8s (List.replicate 32 0)).toArray 26) = W at h1 h2 h3 hM ⊢
  refine wp_region_ext 6 (by kernel_rfl) (by kernel_rfl) ?_
  simp only [List.take_succ_cons, List.take_zero, List.drop_succ_cons, List.drop_zero, List.take_nil, List.drop_nil]
  repeat (first | go_big_quiet_skip | (go_big_quiet_want; first
    | (refine quiet_load_row 26 (.tmp 2) rfl w.heap.size 0 (by rfl) (u8s v) _ (fun _ ⟨x, e⟩ => e ▸ (h1.ext x).range) Try.underlying26 rfl (info32 Hv.out) ?_; go_big_quiet_on; simp only [Act.put, List.setIfInBounds_toArray, List.set_cons_succ, List.set_cons_zero])
    | (refine quiet_load_row 26 (.tmp 3) rfl (w.heap.size + 1) 0 (by rfl) (u8s d) _ (fun _ ⟨x, e⟩ => e ▸ (h2.ext x).range) Try.underlying26 rfl (info32 Hd.out) ?_; go_big_quiet_on; simp only [Act.put, List.setIfInBounds_toArray, List.set_cons_succ, List.set_cons_zero])
    | (go_big_quiet_op; first | go_big_quiet_on | go_big_quiet_call ((first | (go_at_call_of 40 v; exact Ext.call _ (text_any v Hv.out _)) | (go_at_call_of 40 d; exact Ext.call _ (text_any d Hd.out _)) | (go_at_call 15; exact Ext.call _ (sum_any _ HS.out _)))))))
  refine wpQuiet_nil ?_
  intro x
  have hl := shaL_length (strOfNums v ++ strOfNums d)
  obtain ⟨L, hL⟩ : ∃ L, shaL (strOfNums v ++ strOfNums d) = L := ⟨_, rfl⟩
  rw [hL] at hl ⊢
  have HE := Lib.hid hL
  have HT := Lib.hid ((h3.ext x).there' (vs := (u8s L).toArray) (by rw [List.size_toArray, u8s_length, u8s_length, hl, List.length_replicate]))
  have HI := Lib.hid (info32' hl)
  have H3 := Lib.hid (h3.ext x)
  have HM := Lib.hid (hM.no x.m)
  have HL := Lib.hid hl
  clear hL h1 h2 h3 hM hl s1 s2
  go_wp2_with ((with_reducible refine wpList_store_mid ?_ 26 (.tmp 4) (.tmp 10) ?_ (w.heap.size + 1 + 1) 0 (u8s L).toArray ?_ ?_ HT.out HI.out (u8s_one _) ?_); rfl; rfl; rfl; rfl)
  obtain ⟨r1, r2⟩ := ret_digest (fn := Try.f43) (t := 4) (a := #[.agg (u8s v).toArray, .agg (u8s d).toArray, .pointer (some ⟨w.heap.size, 0, none⟩), .pointer (some ⟨w.heap.size + 1, 0, none⟩), .pointer (some ⟨w.heap.size + 1 + 1, 0, none⟩), .agg (u8s v).toArray, .string (strOfNums v), .agg (u8s d).toArray, .string (strOfNums d), .string (strOfNums v ++ strOfNums d), .agg (u8s L).toArray]) H3.out (by rw [List.length_replicate]) HL.out HM.out (by omega) Try.results43 rfl
  refine bodyPost_ret r1 rfl ⟨?_, r2⟩
  rw [← HE.out]
  rfl
end Go.Proofs.Ytamdanpkkcdhbaa
