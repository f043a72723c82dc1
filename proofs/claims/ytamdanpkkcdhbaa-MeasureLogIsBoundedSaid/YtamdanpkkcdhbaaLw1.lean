/- Two logs side by side: the program's and the reference's. -/
import Derived.Test.YtamdanpkkcdhbaaRr1
import Derived.Test.YtamdanpkkcdhbaaMd2
import Derived.Test.YtamdanpkkcdhbaaEv3
set_option linter.unusedVariables false
set_option linter.unusedSimpArgs false
namespace Go.Proofs.Ytamdanpkkcdhbaa
open Go.RowKit Go.PF

theorem regRes_length {regs : List (List Int)} (h : Regs regs) (k : Int) : (regRes regs k).1.length = 32 := by
  unfold regRes
  split
  · rename_i hk
    obtain ⟨r, hr, hl⟩ := h.at (k := k.toNat) (by omega)
    simp [List.getD, hr, hl]
  · exact z32_length
theorem measRes_len (regs : List (List Int)) (evs : List Ev) (k : Int) (t d : ByteArray) : (measRes regs evs k t d).2.2.length ≤ evs.length + 1 := by
  unfold measRes
  split
  · simp
  · split <;> simp
/-- a digest is laid in a block of its own -/
theorem boxD_there (w : World) {L : List Int} (hl : L.length = 32) : (w.alloc (.cells #[Value.int .u8 0, Value.int .u8 0, Value.int .u8 0, Value.int .u8 0, Value.int .u8 0, Value.int .u8 0, Value.int .u8 0, Value.int .u8 0, Value.int .u8 0, Value.int .u8 0, Value.int .u8 0, Value.int .u8 0, Value.int .u8 0, Value.int .u8 0, Value.int .u8 0, Value.int .u8 0, Value.int .u8 0, Value.int .u8 0, Value.int .u8 0, Value.int .u8 0, Value.int .u8 0, Value.int .u8 0, Value.int .u8 0, Value.int .u8 0, Value.int .u8 0, Value.int .u8 0, Value.int .u8 0, Value.int .u8 0, Value.int .u8 0, Value.int .u8 0, Value.int .u8 0, Value.int .u8 0] 26)).there w.heap.size 0 (u8s L).toArray.size :=
  Arr.there' (Arr.new w (u8s z32) 26) (by rw [List.size_toArray, u8s_length, u8s_length, hl]; rfl)
theorem boxD_arr (w : World) {L : List Int} (hl : L.length = 32) : Arr ((w.alloc (.cells #[Value.int .u8 0, Value.int .u8 0, Value.int .u8 0, Value.int .u8 0, Value.int .u8 0, Value.int .u8 0, Value.int .u8 0, Value.int .u8 0, Value.int .u8 0, Value.int .u8 0, Value.int .u8 0, Value.int .u8 0, Value.int .u8 0, Value.int .u8 0, Value.int .u8 0, Value.int .u8 0, Value.int .u8 0, Value.int .u8 0, Value.int .u8 0, Value.int .u8 0, Value.int .u8 0, Value.int .u8 0, Value.int .u8 0, Value.int .u8 0, Value.int .u8 0, Value.int .u8 0, Value.int .u8 0, Value.int .u8 0, Value.int .u8 0, Value.int .u8 0, Value.int .u8 0, Value.int .u8 0] 26)).setCells w.heap.size 0 (u8s L)) w.heap.size (u8s L) :=
  Arr.stored (Arr.new w (u8s z32) 26) (u8s L) (by rw [u8s_length, u8s_length, hl]; rfl)
theorem boxD_mods (w : World) (L : List Int) : Mods No w ((w.alloc (.cells #[Value.int .u8 0, Value.int .u8 0, Value.int .u8 0, Value.int .u8 0, Value.int .u8 0, Value.int .u8 0, Value.int .u8 0, Value.int .u8 0, Value.int .u8 0, Value.int .u8 0, Value.int .u8 0, Value.int .u8 0, Value.int .u8 0, Value.int .u8 0, Value.int .u8 0, Value.int .u8 0, Value.int .u8 0, Value.int .u8 0, Value.int .u8 0, Value.int .u8 0, Value.int .u8 0, Value.int .u8 0, Value.int .u8 0, Value.int .u8 0, Value.int .u8 0, Value.int .u8 0, Value.int .u8 0, Value.int .u8 0, Value.int .u8 0, Value.int .u8 0, Value.int .u8 0, Value.int .u8 0] 26)).setCells w.heap.size 0 (u8s L)) :=
  mods_setCells (F := No) (a := w) w.heap.size (.inr (Nat.le_refl _)) (u8s L) 0 _ ((Mods.refl No w).alloc _)

/-- a guarded load of an array, in a plain region -/
theorem wpList_load_mid_g {P : Program} {ops : Array Oper} {rest : List Oper} {op : Oper} {a : Act} {w : World} {Q : Exit → Act → World → Prop} (hw : Region.wanted op (yielded ops a.tmps) = true) (ty : TypeId) (x : Operand) (ho : op.op = .load ty x)
    (b o : Nat) (hx : a.eval x = .pointer (some ⟨b, o, none⟩)) (cs : List Value) (d : TypeDesc) (hc : w.rangeAt b o cs)
    (hu : P.underlying ty = some d) (hd : d.isRow = true) (hi : (P.info? ty).map (·.size) = some cs.length)
    (h : wpList P ops Q rest (a.put op.dst (.agg cs.toArray)) w) : wpList P ops Q (op :: rest) a w :=
  wpList_step fun K hK => by rw [if_pos hw]; exact wp_load_mid ty x ho b o hx cs d hc hu hd hi (hK _ _ h)
/-- s[:k] -/
theorem slice_to {P : Program} {w : World} (T : TypeId) (A : Option Addr) (n c k s : Nat) (ht : P.underlying T = some (.slice (P.elem T))) (hs : (sizeOf (P.elem T)).run P w = .ok s w) (hk : k ≤ c) :
    (Instr.slice T (.slice A n c) none (some (.int .i64 k)) none).run P w = .ok (.slice A k c) w := by
  rw [run_slice_h w T A n c ht .i64 k (by omega) (by omega), hs]
  simp only [Result.andThen_ok, sliced, Nat.zero_mul, Int.toNat_natCast, Nat.sub_zero]
  split
  · rfl
  · cases A with
    | none => rfl
    | some a => simp [Addr.add]

structure Two (W w : World) (bA bB : Nat) (vA vB : Value) (evs : List Ev) : Prop where
  a : LogAt w bA vA (replayL evs) evs
  b : RefAt w bB vB evs
  inr : inRegs evs
  apart : ∀ q, Foot bA vA q → ¬ Foot bB vB q
  newA : ∀ q, Foot bA vA q → W.heap.size ≤ q
  newB : ∀ q, Foot bB vB q → W.heap.size ≤ q
  mods : Mods No W w
theorem Two.no {W w w' : World} {bA bB : Nat} {vA vB : Value} {evs : List Ev} (h : Two W w bA bB vA vB evs) (hm : Mods No w w') : Two W w' bA bB vA vB evs :=
  ⟨h.a.no hm, h.b.no hm, h.inr, h.apart, h.newA, h.newB, h.mods.no hm⟩
theorem Two.lowA {W w : World} {bA bB : Nat} {vA vB : Value} {evs : List Ev} (h : Two W w bA bB vA vB evs) : ∀ q, Foot bA vA q → q < w.heap.size := fun q hq => by
  rcases hq with rfl | hq
  · exact h.a.lt
  · exact h.a.low q hq
theorem Two.lowB {W w : World} {bA bB : Nat} {vA vB : Value} {evs : List Ev} (h : Two W w bA bB vA vB evs) : ∀ q, Foot bB vB q → q < w.heap.size := fun q hq => by
  rcases hq with rfl | hq
  · exact h.b.lt
  · exact h.b.low q hq
theorem foot_new {b : Nat} {v v' : Value} {n : Nat} (hb : v'.ownBlock = v.ownBlock ∨ ∃ g, v'.ownBlock = some g ∧ n ≤ g) : ∀ q, Foot b v' q → Foot b v q ∨ n ≤ q := by
  intro q hq
  rcases hq with rfl | hq
  · exact .inl (.inl rfl)
  · rcases hb with h | ⟨g, h1, h2⟩
    · exact .inl (.inr (by rw [← h]; exact hq))
    · rw [h1] at hq
      cases hq
      exact .inr h2
theorem Two.refStill {W w w1 : World} {bA bB : Nat} {vA vB : Value} {evs : List Ev} {r : Int × List (List Int) × List Ev} {e : Ending} (h : Two W w bA bB vA vB evs) (p : MeasPost bA vA r w e w1) : RefAt w1 bB vB evs :=
  h.b.mods p.mods (fun q hq hf => h.apart q hf hq)
theorem Two.step {W w w1 w2 : World} {bA bB : Nat} {vA vB : Value} {evs : List Ev} {k : Int} {t d : ByteArray} {e e' : Ending} (h : Two W w bA bB vA vB evs) (p : MeasPost bA vA (measRes (replayL evs) evs k t d) w e w1)
    (p' : RefPost bB vB (measRes (replayL evs) evs k t d).1 (measRes (replayL evs) evs k t d).2.2 w1 e' w2) : ∃ vA' vB', Two W w2 bA bB vA' vB' (measRes (replayL evs) evs k t d).2.2 := by
  obtain ⟨vA', hA, gA⟩ := p.log
  obtain ⟨vB', hB, gB⟩ := p'.log
  have h1 := foot_new (b := bA) gA
  have h2 := foot_new (b := bB) gB
  have s1 := p.mods.size
  refine ⟨vA', vB', ?_, hB, measRes_inRegs _ _ _ _ _ h.inr, fun q hq hf => ?_, fun q hq => ?_, fun q hq => ?_, ?_⟩
  · rw [← measRes_replay]
    refine hA.mods p'.mods (fun q hq hf => ?_)
    rcases h1 q hq with h3 | h3
    · exact h.apart q h3 hf
    · have := h.lowB q hf
      omega
  · have hlow : q < w1.heap.size := by
      rcases hq with rfl | hq
      · exact hA.lt
      · exact hA.low q hq
    rcases h2 q hf with h4 | h4
    · rcases h1 q hq with h3 | h3
      · exact h.apart q h3 h4
      · have := h.lowB q h4
        omega
    · omega
  · rcases h1 q hq with h3 | h3
    · exact h.newA q h3
    · exact Nat.le_trans h.mods.size h3
  · rcases h2 q hq with h3 | h3
    · exact h.newB q h3
    · exact Nat.le_trans (Nat.le_trans h.mods.size s1) h3
  · refine (h.mods.trans p.mods (fun q hq => .inr (h.newA q hq))).trans p'.mods (fun q hq => .inr (h.newB q hq))
end Go.Proofs.Ytamdanpkkcdhbaa
