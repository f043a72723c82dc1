/- SHA-256: the model of the compression. -/
import Derived.Test.YtamdanpkkcdhbaaSha5
set_option linter.unusedVariables false
set_option linter.unusedSimpArgs false
namespace Go.Proofs.Ytamdanpkkcdhbaa
open Go.RowKit Go.PF

structure St8 where
  a : Int
  b : Int
  c : Int
  d : Int
  e : Int
  f : Int
  g : Int
  h : Int
def St8.l (s : St8) : List Int := [s.a, s.b, s.c, s.d, s.e, s.f, s.g, s.h]
def St8.vals (s : St8) : List Value := u32s s.l
def w32 (x : Int) : Prop := 0 ≤ x ∧ x < 4294967296
structure St8.Ok (s : St8) : Prop where
  a : w32 s.a
  b : w32 s.b
  c : w32 s.c
  d : w32 s.d
  e : w32 s.e
  f : w32 s.f
  g : w32 s.g
  h : w32 s.h
def not32 (x : Int) : Int := Go.bits .xor .u32 IntKind.u32.max x
def big1 (e : Int) : Int := xor32 (xor32 (rotr e 6) (rotr e 11)) (rotr e 25)
def big0 (a : Int) : Int := xor32 (xor32 (rotr a 2) (rotr a 13)) (rotr a 22)
def chs (e f g : Int) : Int := xor32 (and32 e f) (and32 (not32 e) g)
def maj (a b c : Int) : Int := xor32 (xor32 (and32 a b) (and32 a c)) (and32 b c)
def rndX (t : St8) (k w : Int) : Int := add32 (add32 (add32 (add32 t.h (big1 t.e)) (chs t.e t.f t.g)) k) w
def rndY (t : St8) : Int := add32 (big0 t.a) (maj t.a t.b t.c)
def rnd (t : St8) (k w : Int) : St8 := ⟨add32 (rndX t k w) (rndY t), t.a, t.b, t.c, add32 t.d (rndX t k w), t.e, t.f, t.g⟩
def rnds (K L : List Int) (s : St8) : Nat → St8
  | 0 => s
  | n + 1 => rnd (rnds K L s n) (K.getD n 0) (L.getD n 0)
def St8.add (t s : St8) : St8 := ⟨add32 t.a s.a, add32 t.b s.b, add32 t.c s.c, add32 t.d s.d, add32 t.e s.e, add32 t.f s.f, add32 t.g s.g, add32 t.h s.h⟩
def comp (b : ByteArray) (s : St8) : St8 := (rnds kL (schedTo b 64) s 64).add s

theorem rnd_ok {t : St8} (h : t.Ok) (k w : Int) : (rnd t k w).Ok := ⟨add32_range _ _, h.a, h.b, h.c, add32_range _ _, h.e, h.f, h.g⟩
theorem rnds_ok (K L : List Int) {s : St8} (h : s.Ok) : ∀ n, (rnds K L s n).Ok
  | 0 => h
  | n + 1 => rnd_ok (rnds_ok K L h n) _ _
theorem rnds_zero (K L : List Int) (s : St8) : rnds K L s 0 = s := rfl
theorem rnds_succ (K L : List Int) (s : St8) (n : Nat) : rnds K L s (n + 1) = rnd (rnds K L s n) (K.getD n 0) (L.getD n 0) := rfl
theorem comp_ok (b : ByteArray) (s : St8) : (comp b s).Ok := ⟨add32_range _ _, add32_range _ _, add32_range _ _, add32_range _ _, add32_range _ _, add32_range _ _, add32_range _ _, add32_range _ _⟩
theorem vals_length (s : St8) : s.vals.length = 8 := rfl
theorem info8 (s : St8) : (Try.prog.info? 63).map (·.size) = some s.vals.length := by rw [vals_length]; kernel_rfl
theorem info8' (s : St8) : (Try.prog.info? 63).map (·.size) = some s.vals.toArray.size := by rw [List.size_toArray]; exact info8 s
theorem u32_at {l : List Int} {i : Nat} (h : i < l.length) : (u32s l)[i]? = some (.int .u32 (l.getD i 0)) := by
  simp [u32s, List.getD, List.getElem?_eq_getElem h]
theorem vals_one (s : St8) : s.vals.toArray.all (·.oneCell') = true := u32s_one s.l
theorem kL_length : kL.length = 64 := rfl
theorem zeros_length (n : Nat) : (u32s (List.replicate n 0)).length = n := by simp [u32s]
theorem kL_range : ∀ i, 0 ≤ kL.getD i 0 ∧ kL.getD i 0 < 4294967296 := by
  intro i
  by_cases h : i < 64
  · have : ∀ i < 64, 0 ≤ kL.getD i 0 ∧ kL.getD i 0 < 4294967296 := by decide +kernel
    exact this i h
  · have : kL.getD i 0 = 0 := by
      simp only [List.getD]
      rw [List.getElem?_eq_none (by show 64 ≤ i; omega)]
      rfl
    rw [this]
    omega
/-- the first i words added -/
def mixl (T S : List Int) (i : Nat) : List Int := (List.range 8).map fun j => if j < i then add32 (T.getD j 0) (S.getD j 0) else T.getD j 0
theorem mixl_zero (t : St8) (S : List Int) : mixl t.l S 0 = t.l := rfl
theorem mixl_full (t s : St8) : mixl t.l s.l 8 = (t.add s).l := rfl
theorem mixl_length (T S : List Int) (i : Nat) : (mixl T S i).length = 8 := by simp [mixl]
theorem mixl_at (T S : List Int) (i : Nat) (h : i < 8) : (u32s (mixl T S i))[i]? = some (.int .u32 (T.getD i 0)) := by
  rw [u32_at (by rw [mixl_length]; exact h)]
  congr 2
  simp [mixl, List.getD, h]
theorem mixl_set (T S : List Int) (i : Nat) (h : i < 8) : (u32s (mixl T S i)).set i (.int .u32 (add32 (T.getD i 0) (S.getD i 0))) = u32s (mixl T S (i + 1)) := by
  match i, h with
  | 0, _ => rfl
  | 1, _ => rfl
  | 2, _ => rfl
  | 3, _ => rfl
  | 4, _ => rfl
  | 5, _ => rfl
  | 6, _ => rfl
  | 7, _ => rfl
theorem vals_at (s : St8) (i : Nat) (h : i < 8) : s.vals[i]? = some (.int .u32 (s.l.getD i 0)) := u32_at h
/-- what lies where, while the rounds run -/
structure CIn (w wr : World) (N R B5 B6 B7 : Nat) (K L : List Int) (s t : St8) : Prop where
  a5 : Arr wr B5 (u32s L)
  a6 : Arr wr B6 (u32s K)
  a7 : Arr wr B7 t.vals
  aS : Arr wr N s.vals
  aR : Arr wr R (u32s [0, 0, 0, 0, 0, 0, 0, 0])
  m : Mods No w wr
theorem CIn.ext {w wr : World} {N R B5 B6 B7 : Nat} {K L : List Int} {s t : St8} (h : CIn w wr N R B5 B6 B7 K L s t) (x : Ext wr) : CIn w x.w N R B5 B6 B7 K L s t :=
  ⟨h.a5.ext x, h.a6.ext x, h.a7.ext x, h.aS.ext x, h.aR.ext x, h.m.no x.m⟩
theorem CIn.round {w wr : World} {N R B5 B6 B7 : Nat} {K L : List Int} {s t : St8} (h : CIn w wr N R B5 B6 B7 K L s t) (t' : St8) (vs : List Value) (hv : vs = t'.vals) (h5 : B5 ≠ B7) (h6 : B6 ≠ B7) (hN : N ≠ B7) (hR : R ≠ B7) (hw : w.heap.size ≤ B7) :
    CIn w (wr.setCells B7 0 vs) N R B5 B6 B7 K L s t' := by
  subst hv
  exact ⟨h.a5.farCells _ h5 _, h.a6.farCells _ h6 _, h.a7.stored _ rfl, h.aS.farCells _ hN _, h.aR.farCells _ hR _, mods_setCells (F := No) B7 (.inr hw) _ 0 _ h.m⟩
/-- what lies where, while the reference makes its schedule -/
structure BIn (w wr : World) (N R B5 B6 : Nat) (K : List Int) (s : St8) (l : List Int) : Prop where
  a5 : Arr wr B5 (u32s K)
  a6 : W64 wr B6 l
  aS : Arr wr N s.vals
  aR : Arr wr R (u32s [0, 0, 0, 0, 0, 0, 0, 0])
  m : Mods No w wr
theorem BIn.ext {w wr : World} {N R B5 B6 : Nat} {K l : List Int} {s : St8} (h : BIn w wr N R B5 B6 K s l) (x : Ext wr) : BIn w x.w N R B5 B6 K s l :=
  ⟨h.a5.ext x, h.a6.mods x.m id, h.aS.ext x, h.aR.ext x, h.m.no x.m⟩
theorem BIn.next {w wr : World} {N R B5 B6 : Nat} {K : List Int} {s : St8} {b : ByteArray} {k : Nat} (h : BIn w wr N R B5 B6 K s (schedTo b k)) (hk : k < 64) (v : Int) (hv : v = wNext b (schedTo b k)) (h5 : B5 ≠ B6) (hN : N ≠ B6) (hR : R ≠ B6) (hw : w.heap.size ≤ B6) :
    BIn w (wr.setCell ⟨B6, k, none⟩ (.int .u32 v)) N R B5 B6 K s (schedTo b (k + 1)) :=
  ⟨h.a5.far _ h5 _, h.a6.next hk v hv, h.aS.far _ hN _, h.aR.far _ hR _, h.m.setCell (.inr hw) _⟩
end Go.Proofs.Ytamdanpkkcdhbaa
