/- Quote, on both sides. -/
import Derived.Test.YtamdanpkkcdhbaaLw1
set_option linter.unusedVariables false
set_option linter.unusedSimpArgs false
namespace Go.Proofs.Ytamdanpkkcdhbaa
open Go.RowKit Go.PF

/-- digests that are read -/
def RegsSl (w : World) (A : Option Addr) (rs : List (List Int)) : Prop := ∀ k r, rs[k]? = some r → ∃ g o, A = some ⟨g, o, none⟩ ∧ w.rangeAt g (o + k * 32) (u8s r)
theorem RegsSl.no {w w' : World} {A : Option Addr} {rs : List (List Int)} (h : RegsSl w A rs) (hm : Mods No w w') : RegsSl w' A rs := fun k e hk => by
  obtain ⟨g, o, h1, h2⟩ := h k e hk
  exact ⟨g, o, h1, fun j u hu => hm.cell (h2 j u hu) id⟩
theorem RegsAt.regsSl {w : World} {b : Nat} {rs : List (List Int)} (h : RegsAt w b 0 rs) : RegsSl w (some ⟨b, 0, none⟩) rs := fun k r hk => ⟨b, 0, rfl, h.range hk⟩
theorem Sl.regsSl {w : World} {A : Option Addr} {n : Nat} {rs : List (List Int)} (h : Sl w 32 A n (rs.flatMap u8s)) (hl : rs.length = n) (hok : ∀ r ∈ rs, r.length = 32) : RegsSl w A rs := fun k e hk => by
  have hkl : k < rs.length := (List.getElem?_eq_some_iff.1 hk).1
  obtain ⟨g, o, rfl, hc⟩ := h.2.2 (by omega)
  refine ⟨g, o, rfl, fun j u hu => ?_⟩
  have hl' : ∀ x ∈ rs, (u8s x).length = 32 := fun x hx => by rw [u8s_length]; exact hok x hx
  have hj : j < 32 := by
    have := (List.getElem?_eq_some_iff.1 hu).1
    rw [hl' e (List.mem_of_getElem? hk)] at this
    exact this
  rw [Nat.add_assoc]
  exact hc _ u (by rw [flat_get_mem u8s 32 rs hl' k j hj, hk]; exact hu)

def catL (rs : List (List Int)) : ByteArray := rs.foldl (fun s r => s ++ strOfNums r) ByteArray.empty
theorem catL_push (rs : List (List Int)) (r : List Int) : catL (rs ++ [r]) = catL rs ++ strOfNums r := by simp [catL, List.foldl_append]
theorem catL_size (rs : List (List Int)) (hok : ∀ r ∈ rs, r.length = 32) : (catL rs).size = 32 * rs.length := by
  have : ∀ (rs : List (List Int)) (s : ByteArray), (∀ r ∈ rs, r.length = 32) → (rs.foldl (fun s r => s ++ strOfNums r) s).size = s.size + 32 * rs.length := by
    intro rs
    induction rs with
    | nil => intro s _; simp
    | cons r rs ih =>
      intro s h
      rw [List.foldl_cons, ih _ (fun x hx => h x (by simp [hx])), ByteArray.size_append, str_size (h r (by simp)), List.length_cons]
      omega
  have h := this rs ByteArray.empty hok
  simpa [catL] using h
def quoteL (key : ByteArray) (rs : List (List Int)) (nonce : ByteArray) : List Int × Int := if rs.length = 8 then (macL key (catL rs ++ nonce), 0) else (z32, 1)
theorem quoteL_length (key : ByteArray) (rs : List (List Int)) (nonce : ByteArray) : (quoteL key rs nonce).1.length = 32 := by
  unfold quoteL
  split
  · exact macL_length _ _
  · exact z32_length

set_option maxHeartbeats 2000000 in
set_option maxRecDepth 100000 in
theorem quote_bad (key nonce : ByteArray) (A : Option Addr) (n c : Nat) (hn : n ≠ 8) (hn2 : n ≤ 1000) (w : World) :
    Calls Try.prog 36 #[.string key, .slice A n c, .string nonce] w fun e w' => e = .returned (.tuple #[.agg (u8s z32).toArray, .int .i64 1]) ∧ Mods No w w' := by
  have hN : Arr (w.alloc (.cells #[Value.int .u8 0, Value.int .u8 0, Value.int .u8 0, Value.int .u8 0, Value.int .u8 0, Value.int .u8 0, Value.int .u8 0, Value.int .u8 0, Value.int .u8 0, Value.int .u8 0, Value.int .u8 0, Value.int .u8 0, Value.int .u8 0, Value.int .u8 0, Value.int .u8 0, Value.int .u8 0, Value.int .u8 0, Value.int .u8 0, Value.int .u8 0, Value.int .u8 0, Value.int .u8 0, Value.int .u8 0, Value.int .u8 0, Value.int .u8 0, Value.int .u8 0, Value.int .u8 0, Value.int .u8 0, Value.int .u8 0, Value.int .u8 0, Value.int .u8 0, Value.int .u8 0, Value.int .u8 0] 26)) w.heap.size (u8s z32) := Arr.new w (u8s z32) 26
  have HT := Lib.hid (hN.there' (vs := (u8s z32).toArray) (by rw [List.size_toArray]))
  have HI' := Lib.hid (info32' z32_length)
  have HN := Lib.hid hN
  have hne : ((n : Int) != 8) = true := by simp; omega
  have hne2 : ((n : Int) == 8) = false := by simp; omega
  clear hN
  go_enter Try.func36, Try.ntmps36
  go_wp2_with ((with_reducible refine wpList_store_mid ?_ 26 (.tmp 6) (.tmp 14) ?_ w.heap.size 0 (u8s z32).toArray ?_ ?_ HT.out HI'.out (u8s_one _) ?_); rfl; rfl; rfl; rfl)
  exact bodyPost_ret (ret_digest2 HN.out rfl z32_length Try.results36 rfl rfl) rfl ⟨rfl, mods_setCells (F := No) (a := w) w.heap.size (.inr (Nat.le_refl _)) _ 0 _ ((Mods.refl _ _).alloc _)⟩
set_option maxHeartbeats 2000000 in
set_option maxRecDepth 100000 in
theorem refQuote_bad (key nonce : ByteArray) (A : Option Addr) (n c : Nat) (hn : n ≠ 8) (hn2 : n ≤ 1000) (w : World) :
    Calls Try.prog 33 #[.string key, .slice A n c, .string nonce] w fun e w' => e = .returned (.tuple #[.agg (u8s z32).toArray, .int .i64 1]) ∧ Mods No w w' := by
  have hN : Arr (w.alloc (.cells #[Value.int .u8 0, Value.int .u8 0, Value.int .u8 0, Value.int .u8 0, Value.int .u8 0, Value.int .u8 0, Value.int .u8 0, Value.int .u8 0, Value.int .u8 0, Value.int .u8 0, Value.int .u8 0, Value.int .u8 0, Value.int .u8 0, Value.int .u8 0, Value.int .u8 0, Value.int .u8 0, Value.int .u8 0, Value.int .u8 0, Value.int .u8 0, Value.int .u8 0, Value.int .u8 0, Value.int .u8 0, Value.int .u8 0, Value.int .u8 0, Value.int .u8 0, Value.int .u8 0, Value.int .u8 0, Value.int .u8 0, Value.int .u8 0, Value.int .u8 0, Value.int .u8 0, Value.int .u8 0] 26)) w.heap.size (u8s z32) := Arr.new w (u8s z32) 26
  have HT := Lib.hid (hN.there' (vs := (u8s z32).toArray) (by rw [List.size_toArray]))
  have HI' := Lib.hid (info32' z32_length)
  have HN := Lib.hid hN
  have hne : ((n : Int) != 8) = true := by simp; omega
  have hne2 : ((n : Int) == 8) = false := by simp; omega
  clear hN
  go_enter Try.func33, Try.ntmps33
  go_wp2_with ((with_reducible refine wpList_store_mid ?_ 26 (.tmp 6) (.tmp 13) ?_ w.heap.size 0 (u8s z32).toArray ?_ ?_ HT.out HI'.out (u8s_one _) ?_); rfl; rfl; rfl; rfl)
  exact bodyPost_ret (ret_digest2 HN.out rfl z32_length Try.results33 rfl rfl) rfl ⟨rfl, mods_setCells (F := No) (a := w) w.heap.size (.inr (Nat.le_refl _)) _ 0 _ ((Mods.refl _ _).alloc _)⟩

set_option maxHeartbeats 2000000 in
set_option maxRecDepth 100000 in
theorem quote_ok (key nonce : ByteArray) (A : Option Addr) (c : Nat) (rs : List (List Int)) (hrs : ∀ r ∈ rs, r.length = 32) (h8 : rs.length = 8) (hk : key.size ≤ 1000) (hn : nonce.size ≤ 1000) (D : List Int) (hD : D.length = 32)
    (hMac : ∀ w, Calls Try.prog 17 #[.string key, .string (catL rs ++ nonce)] w fun e w' => e = .returned (.agg (u8s D).toArray) ∧ Mods No w w') (w : World) (hR : RegsSl w A rs) :
    Calls Try.prog 36 #[.string key, .slice A 8 c, .string nonce] w fun e w' => e = .returned (.tuple #[.agg (u8s D).toArray, .int .i64 0]) ∧ Mods No w w' := by
  have HR := Lib.hid hR
  have HRS := Lib.hid hrs
  have HMac := Lib.hid hMac
  have HD := Lib.hid hD
  have H8 := Lib.hid h8
  clear hR hrs hMac hD h8
  go_enter Try.func36, Try.ntmps36
  go_wp2_with fail
  have hN : Arr (w.alloc (.cells #[Value.int .u8 0, Value.int .u8 0, Value.int .u8 0, Value.int .u8 0, Value.int .u8 0, Value.int .u8 0, Value.int .u8 0, Value.int .u8 0, Value.int .u8 0, Value.int .u8 0, Value.int .u8 0, Value.int .u8 0, Value.int .u8 0, Value.int .u8 0, Value.int .u8 0, Value.int .u8 0, Value.int .u8 0, Value.int .u8 0, Value.int .u8 0, Value.int .u8 0, Value.int .u8 0, Value.int .u8 0, Value.int .u8 0, Value.int .u8 0, Value.int .u8 0, Value.int .u8 0, Value.int .u8 0, Value.int .u8 0, Value.int .u8 0, Value.int .u8 0, Value.int .u8 0, Value.int .u8 0] 26)) w.heap.size (u8s z32) := Arr.new w (u8s z32) 26
  have hM : Mods No w (w.alloc (.cells #[Value.int .u8 0, Value.int .u8 0, Value.int .u8 0, Value.int .u8 0, Value.int .u8 0, Value.int .u8 0, Value.int .u8 0, Value.int .u8 0, Value.int .u8 0, Value.int .u8 0, Value.int .u8 0, Value.int .u8 0, Value.int .u8 0, Value.int .u8 0, Value.int .u8 0, Value.int .u8 0, Value.int .u8 0, Value.int .u8 0, Value.int .u8 0, Value.int .u8 0, Value.int .u8 0, Value.int .u8 0, Value.int .u8 0, Value.int .u8 0, Value.int .u8 0, Value.int .u8 0, Value.int .u8 0, Value.int .u8 0, Value.int .u8 0, Value.int .u8 0, Value.int .u8 0, Value.int .u8 0] 26)) := (Mods.refl _ _).alloc _
  obtain ⟨B, hB⟩ : ∃ B, w.heap.size = B := ⟨_, rfl⟩
  have bB : w.heap.size ≤ B := by omega
  rw [hB] at hN ⊢
  clear hB
  generalize w.alloc (.cells #[Value.int .u8 0, Value.int .u8 0, Value.int .u8 0, Value.int .u8 0, Value.int .u8 0, Value.int .u8 0, Value.int .u8 0, Value.int .u8 0, Value.int .u8 0, Value.int .u8 0, Value.int .u8 0, Value.int .u8 0, Value.int .u8 0, Value.int .u8 0, Value.int .u8 0, Value.int .u8 0, Value.int .u8 0, Value.int .u8 0, Value.int .u8 0, Value.int .u8 0, Value.int .u8 0, Value.int .u8 0, Value.int .u8 0, Value.int .u8 0, Value.int .u8 0, Value.int .u8 0, Value.int .u8 0, Value.int .u8 0, Value.int .u8 0, Value.int .u8 0, Value.int .u8 0, Value.int .u8 0] 26) = w1 at hN hM ⊢
  go_loopw [8, 17] (fun s q wr => ∃ k : Nat, k ≤ 8 ∧ q = .int .i64 k ∧ s = .string (catL (rs.take k)) ∧ Arr wr B (u8s z32) ∧ Mods No w wr) (fun _ q _ => 8 - (intOf q).toNat)
  case atStart => exact ⟨0, by omega, rfl, rfl, hN, hM⟩
  case round =>
    obtain ⟨k, hk8, rfl, rfl, gN, gM⟩ := hrel
    have GN := Lib.hid gN
    have GM := Lib.hid gM
    clear hN hM gN gM
    have hsz := catL_size (rs.take k) (fun r hr => HRS.out r (List.mem_of_mem_take hr))
    rw [List.length_take, H8.out] at hsz
    have hsz2 : (catL (rs.take k)).size ≤ 300 := by omega
    clear hsz
    by_cases hlt : k < 8
    · have hkl : (k : Int) < 8 := by omega
      obtain ⟨r, hr⟩ := some_at (l := rs) (i := k) (by rw [H8.out]; exact hlt)
      have hrl := HRS.out r (List.mem_of_getElem? hr)
      obtain ⟨g, o, rfl, hg⟩ := (HR.out.no GM.out) k r hr
      have HG := Lib.hid hg
      have HI := Lib.hid (info32' hrl)
      have HI2 := Lib.hid (info32 hrl)
      have hT3 := Lib.hid (boxD_there wr hrl)
      have hA3 := Lib.hid (boxD_arr wr hrl).range
      have hM3 := Lib.hid (boxD_mods wr r)
      have hs2 : (strOfNums r).size ≤ 100 := by rw [str_size hrl]; omega
      have Hr := Lib.hid hr
      have hTx := Lib.hid (fun w => text_any r hrl w)
      clear hg hr hrl
      go_wp2_with (first
        | ((with_reducible refine wpList_load_mid ?_ 26 (.tmp 19) ?_ g (o + k * 32) ?_ (u8s r) _ HG.out Try.underlying26 rfl HI2.out ?_); rfl; rfl; rfl)
        | ((with_reducible refine wpList_store_mid ?_ 26 (.tmp 10) (.tmp 20) ?_ wr.heap.size 0 (u8s r).toArray ?_ ?_ hT3.out HI.out (u8s_one _) ?_); rfl; rfl; rfl; rfl)
        | ((with_reducible refine wpList_load_mid ?_ 26 (.tmp 10) ?_ wr.heap.size 0 ?_ (u8s r) _ hA3.out Try.underlying26 rfl HI2.out ?_); rfl; rfl; rfl))
      refine (hTx.out _).mono ?_
      rintro e w5 ⟨rfl, m5⟩
      have HN5 := Lib.hid ((GN.out.mods hM3.out id).mods m5 id)
      have HM5 := Lib.hid ((GM.out.no hM3.out).no m5)
      clear m5 hM3 hA3 hT3
      go_wp2_with fail
      go_roundw
      case rel => exact ⟨k + 1, by omega, by go_num, by rw [take_succ_of Hr.out, catL_push], HN5.out, HM5.out⟩
      case measure => simp [intOf]; omega
    · obtain rfl : k = 8 := by omega
      have htk : rs.take 8 = rs := by rw [← H8.out, List.take_length]
      rw [htk] at hsz2 ⊢
      clear htk hlt hk8
      have hIM := Lib.hid (fun w => HMac.out w)
      generalize catL rs = C at hsz2 HMac ⊢
      clear hIM
      go_wp2_with fail
      refine (HMac.out _).mono ?_
      rintro e w5 ⟨rfl, m5⟩
      have HN5 := Lib.hid (GN.out.mods m5 id)
      have HT := Lib.hid (HN5.out.there' (vs := (u8s D).toArray) (by rw [List.size_toArray, u8s_length, u8s_length, HD.out]; rfl))
      have HI' := Lib.hid (info32' HD.out)
      have HM := Lib.hid (mods_setCells (F := No) (a := w) B (.inr bB) (u8s D) 0 _ (GM.out.no m5))
      clear m5
      go_wp2_with ((with_reducible refine wpList_store_mid ?_ 26 (.tmp 6) (.tmp 30) ?_ B 0 (u8s D).toArray ?_ ?_ HT.out HI'.out (u8s_one _) ?_); rfl; rfl; rfl; rfl)
      exact bodyPost_ret (ret_digest2 HN5.out rfl HD.out Try.results36 rfl rfl) rfl ⟨rfl, HM.out⟩

set_option maxHeartbeats 2000000 in
set_option maxRecDepth 100000 in
theorem refQuote_ok (key nonce : ByteArray) (A : Option Addr) (c : Nat) (rs : List (List Int)) (hrs : ∀ r ∈ rs, r.length = 32) (h8 : rs.length = 8) (hk : key.size ≤ 1000) (hn : nonce.size ≤ 1000) (D : List Int) (hD : D.length = 32)
    (hMac : ∀ w, Calls Try.prog 18 #[.string key, .string (catL rs ++ nonce)] w fun e w' => e = .returned (.agg (u8s D).toArray) ∧ Mods No w w') (w : World) (hR : RegsSl w A rs) :
    Calls Try.prog 33 #[.string key, .slice A 8 c, .string nonce] w fun e w' => e = .returned (.tuple #[.agg (u8s D).toArray, .int .i64 0]) ∧ Mods No w w' := by
  have HR := Lib.hid hR
  have HRS := Lib.hid hrs
  have HMac := Lib.hid hMac
  have HD := Lib.hid hD
  have H8 := Lib.hid h8
  clear hR hrs hMac hD h8
  go_enter Try.func33, Try.ntmps33
  go_wp2_with fail
  have hN : Arr (w.alloc (.cells #[Value.int .u8 0, Value.int .u8 0, Value.int .u8 0, Value.int .u8 0, Value.int .u8 0, Value.int .u8 0, Value.int .u8 0, Value.int .u8 0, Value.int .u8 0, Value.int .u8 0, Value.int .u8 0, Value.int .u8 0, Value.int .u8 0, Value.int .u8 0, Value.int .u8 0, Value.int .u8 0, Value.int .u8 0, Value.int .u8 0, Value.int .u8 0, Value.int .u8 0, Value.int .u8 0, Value.int .u8 0, Value.int .u8 0, Value.int .u8 0, Value.int .u8 0, Value.int .u8 0, Value.int .u8 0, Value.int .u8 0, Value.int .u8 0, Value.int .u8 0, Value.int .u8 0, Value.int .u8 0] 26)) w.heap.size (u8s z32) := Arr.new w (u8s z32) 26
  have hM : Mods No w (w.alloc (.cells #[Value.int .u8 0, Value.int .u8 0, Value.int .u8 0, Value.int .u8 0, Value.int .u8 0, Value.int .u8 0, Value.int .u8 0, Value.int .u8 0, Value.int .u8 0, Value.int .u8 0, Value.int .u8 0, Value.int .u8 0, Value.int .u8 0, Value.int .u8 0, Value.int .u8 0, Value.int .u8 0, Value.int .u8 0, Value.int .u8 0, Value.int .u8 0, Value.int .u8 0, Value.int .u8 0, Value.int .u8 0, Value.int .u8 0, Value.int .u8 0, Value.int .u8 0, Value.int .u8 0, Value.int .u8 0, Value.int .u8 0, Value.int .u8 0, Value.int .u8 0, Value.int .u8 0, Value.int .u8 0] 26)) := (Mods.refl _ _).alloc _
  obtain ⟨B, hB⟩ : ∃ B, w.heap.size = B := ⟨_, rfl⟩
  have bB : w.heap.size ≤ B := by omega
  rw [hB] at hN ⊢
  clear hB
  generalize w.alloc (.cells #[Value.int .u8 0, Value.int .u8 0, Value.int .u8 0, Value.int .u8 0, Value.int .u8 0, Value.int .u8 0, Value.int .u8 0, Value.int .u8 0, Value.int .u8 0, Value.int .u8 0, Value.int .u8 0, Value.int .u8 0, Value.int .u8 0, Value.int .u8 0, Value.int .u8 0, Value.int .u8 0, Value.int .u8 0, Value.int .u8 0, Value.int .u8 0, Value.int .u8 0, Value.int .u8 0, Value.int .u8 0, Value.int .u8 0, Value.int .u8 0, Value.int .u8 0, Value.int .u8 0, Value.int .u8 0, Value.int .u8 0, Value.int .u8 0, Value.int .u8 0, Value.int .u8 0, Value.int .u8 0] 26) = w1 at hN hM ⊢
  go_loopw [8, 9] (fun s q wr => ∃ k : Nat, k ≤ 8 ∧ q = .int .i64 k ∧ s = .string (catL (rs.take k)) ∧ Arr wr B (u8s z32) ∧ Mods No w wr) (fun _ q _ => 8 - (intOf q).toNat)
  case atStart => exact ⟨0, by omega, rfl, rfl, hN, hM⟩
  case round =>
    obtain ⟨k, hk8, rfl, rfl, gN, gM⟩ := hrel
    have GN := Lib.hid gN
    have GM := Lib.hid gM
    clear hN hM gN gM
    have hsz := catL_size (rs.take k) (fun r hr => HRS.out r (List.mem_of_mem_take hr))
    rw [List.length_take, H8.out] at hsz
    have hsz2 : (catL (rs.take k)).size ≤ 300 := by omega
    clear hsz
    by_cases hlt : k < 8
    · have hkl : (k : Int) < 8 := by omega
      obtain ⟨r, hr⟩ := some_at (l := rs) (i := k) (by rw [H8.out]; exact hlt)
      have hrl := HRS.out r (List.mem_of_getElem? hr)
      obtain ⟨g, o, rfl, hg⟩ := (HR.out.no GM.out) k r hr
      have hcv : (convert 23 9 (.slice (some ⟨g, o + k * 32, none⟩) 32 32)).run Try.prog wr = .ok (.string (strOfNums r)) wr := by
        refine run_convert_bytes_arg (P := Try.prog) wr 23 5 Try.underlying23 Try.underlying5 g (o + k * 32) 32 32 r hrl (fun i hi => ?_) 9 Try.underlying9
        exact hg i _ (u8_at (by rw [hrl]; exact hi))
      have hs2 : (strOfNums r).size ≤ 100 := by rw [str_size hrl]; omega
      have Hr := Lib.hid hr
      clear hg hr hrl
      go_wp2_with fail
      go_roundw
      case rel => exact ⟨k + 1, by omega, by go_num, by rw [take_succ_of Hr.out, catL_push], GN.out, GM.out⟩
      case measure => simp [intOf]; omega
    · obtain rfl : k = 8 := by omega
      have htk : rs.take 8 = rs := by rw [← H8.out, List.take_length]
      rw [htk] at hsz2 ⊢
      clear htk hlt hk8
      generalize catL rs = C at hsz2 HMac ⊢
      go_wp2_with fail
      refine (HMac.out _).mono ?_
      rintro e w5 ⟨rfl, m5⟩
      have HN5 := Lib.hid (GN.out.mods m5 id)
      have HT := Lib.hid (HN5.out.there' (vs := (u8s D).toArray) (by rw [List.size_toArray, u8s_length, u8s_length, HD.out]; rfl))
      have HI' := Lib.hid (info32' HD.out)
      have HM := Lib.hid (mods_setCells (F := No) (a := w) B (.inr bB) (u8s D) 0 _ (GM.out.no m5))
      clear m5
      go_wp2_with ((with_reducible refine wpList_store_mid ?_ 26 (.tmp 6) (.tmp 31) ?_ B 0 (u8s D).toArray ?_ ?_ HT.out HI'.out (u8s_one _) ?_); rfl; rfl; rfl; rfl)
      exact bodyPost_ret (ret_digest2 HN5.out rfl HD.out Try.results33 rfl rfl) rfl ⟨rfl, HM.out⟩

theorem quote_any (key nonce : ByteArray) (A : Option Addr) (c : Nat) (rs : List (List Int)) (hrs : ∀ r ∈ rs, r.length = 32) (hl : rs.length ≤ 1000) (hk : key.size ≤ 1000) (hn : nonce.size ≤ 1000) (w : World) (hR : RegsSl w A rs) :
    Calls Try.prog 36 #[.string key, .slice A rs.length c, .string nonce] w fun e w' => e = .returned (.tuple #[.agg (u8s (quoteL key rs nonce).1).toArray, .int .i64 (quoteL key rs nonce).2]) ∧ Mods No w w' := by
  by_cases h8 : rs.length = 8
  · rw [show quoteL key rs nonce = (macL key (catL rs ++ nonce), 0) by unfold quoteL; rw [if_pos h8], h8]
    exact quote_ok key nonce A c rs hrs h8 hk hn _ (macL_length _ _) (fun w => mac_any key _ (by omega) (by rw [ByteArray.size_append, catL_size rs hrs]; omega) w) w hR
  · rw [show quoteL key rs nonce = (z32, 1) by unfold quoteL; rw [if_neg h8]]
    exact quote_bad key nonce A rs.length c h8 hl w
theorem refQuote_any (key nonce : ByteArray) (A : Option Addr) (c : Nat) (rs : List (List Int)) (hrs : ∀ r ∈ rs, r.length = 32) (hl : rs.length ≤ 1000) (hk : key.size ≤ 1000) (hn : nonce.size ≤ 1000) (w : World) (hR : RegsSl w A rs) :
    Calls Try.prog 33 #[.string key, .slice A rs.length c, .string nonce] w fun e w' => e = .returned (.tuple #[.agg (u8s (quoteL key rs nonce).1).toArray, .int .i64 (quoteL key rs nonce).2]) ∧ Mods No w w' := by
  by_cases h8 : rs.length = 8
  · rw [show quoteL key rs nonce = (macL key (catL rs ++ nonce), 0) by unfold quoteL; rw [if_pos h8], h8]
    exact refQuote_ok key nonce A c rs hrs h8 hk hn _ (macL_length _ _) (fun w => refMac_any key _ (by omega) (by rw [ByteArray.size_append, catL_size rs hrs]; omega) w) w hR
  · rw [show quoteL key rs nonce = (z32, 1) by unfold quoteL; rw [if_neg h8]]
    exact refQuote_bad key nonce A rs.length c h8 hl w
end Go.Proofs.Ytamdanpkkcdhbaa
