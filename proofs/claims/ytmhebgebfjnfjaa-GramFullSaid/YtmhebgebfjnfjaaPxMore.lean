/-
  More words: worlds that differ at some blocks alone; strings by their bytes.
-/
import Derived.Test.YtmhebgebfjnfjaaPxRow
import Derived.Lib.Bytealg
import Derived.Lib.Strings
import Derived.Laws.DeepStrings4
namespace Go.Px
open Go.RowKit

/-- Nothing has turned but at blocks in F, and new ones. -/
structure Chg (F : Nat → Prop) (w w' : World) : Prop where
  os : w'.os = w.os
  tape : w'.tape = w.tape
  output : w'.output = w.output
  size : w.heap.size ≤ w'.heap.size
  block : ∀ k, k < w.heap.size → ¬ F k → w'.heap[k]? = w.heap[k]?

section
variable {F G : Nat → Prop} {a b c w w' : World}
theorem Chg.refl (F : Nat → Prop) (w : World) : Chg F w w := ⟨rfl, rfl, rfl, Nat.le_refl _, fun _ _ _ => rfl⟩
theorem Chg.trans (h : Chg F a b) (k : Chg F b c) : Chg F a c :=
  ⟨k.os.trans h.os, k.tape.trans h.tape, k.output.trans h.output, Nat.le_trans h.size k.size, fun i hi hF => (k.block i (Nat.lt_of_lt_of_le hi h.size) hF).trans (h.block i hi hF)⟩
/-- .. where the second may turn more, of what is new. -/
theorem Chg.trans' (h : Chg F a b) (k : Chg G b c) (hG : ∀ i, i < a.heap.size → G i → F i) : Chg F a c :=
  ⟨k.os.trans h.os, k.tape.trans h.tape, k.output.trans h.output, Nat.le_trans h.size k.size, fun i hi hF => (k.block i (Nat.lt_of_lt_of_le hi h.size) (fun hg => hF (hG i hi hg))).trans (h.block i hi hF)⟩
theorem Chg.mono (h : Chg F w w') (hF : ∀ i, i < w.heap.size → F i → G i) : Chg G w w' := ⟨h.os, h.tape, h.output, h.size, fun k hk hg => h.block k hk fun hf => hg (hF k hk hf)⟩
theorem Chg.drew (h : Chg F a w) : Chg F a w.drew := ⟨h.os, h.tape, h.output, h.size, h.block⟩
theorem Chg.alloc (h : Chg F a w) (o : Obj) : Chg F a (w.alloc o) :=
  h.trans' (G := fun _ => False) ⟨rfl, rfl, rfl, by simp, fun k hk _ => Below.heap_alloc _ _ _ hk⟩ (fun _ _ h => h.elim)
theorem Chg.setCell (h : Chg F a w) {p : Addr} (hp : F p.block ∨ a.heap.size ≤ p.block) (u : Value) : Chg F a (w.setCell p u) :=
  ⟨h.os, h.tape, h.output, by simpa using h.size, fun k hk hF => by
    rw [Below.heap_setCell _ _ _ _ (by rintro rfl; rcases hp with hp | hp; exact hF hp; omega)]
    exact h.block k hk hF⟩
theorem Chg.grown {row : Option Nat} (h : Chg F a w) (hg : w.grownBy w' row) (hr : ∀ k, row = some k → F k ∨ a.heap.size ≤ k) : Chg F a w' :=
  ⟨hg.os.trans h.os, hg.tape.trans h.tape, hg.output.trans h.output, Nat.le_trans h.size hg.size, fun k hk hF => by
    rw [hg.block k (Nat.lt_of_lt_of_le hk h.size) (fun e => by rcases hr k e.symm with h1 | h1; exact hF h1; omega)]
    exact h.block k hk hF⟩
theorem Chg.cell (h : Chg F w w') {p : Addr} (hp : p.block < w.heap.size) (hF : ¬ F p.block) : w'.cell? p = w.cell? p := World.cell?_of_block (w := w) (h.block p.block hp hF)
/-- A cell that was there. -/
theorem Chg.at (h : Chg F w w') {p : Addr} {v : Value} (hv : w.cell? p = some v) (hF : ¬ F p.block) : w'.cell? p = some v := (h.cell (World.block_lt_of_cell? w p hv) hF).trans hv
theorem Chg.frozen (h : Chg F w w') {p : Addr} (hp : p.block < w.heap.size) (hF : ¬ F p.block) : w'.frozen? p = w.frozen? p := World.frozen?_of_block (w := w) (h.block p.block hp hF)
theorem Chg.below {B : Nat} (h : Chg F w w') (hB : B ≤ w.heap.size) (hF : ∀ k, k < B → ¬ F k) : Below B w w' := ⟨h.os, h.tape, h.output, h.size, fun k hk => h.block k (by omega) (hF k hk)⟩
theorem Below.chg (h : Below w.heap.size w w') : Chg F w w' := ⟨h.os, h.tape, h.output, h.size, fun k hk _ => h.block k hk⟩
theorem Chg.down (h : Chg F a w) (k : Chg G w w') (hG : ∀ i, i < a.heap.size → ¬ G i) : Chg F a w' := h.trans' k fun i hi hg => (hG i hi hg).elim
end

/-! ### Bytes of a string -/
def bt (s : ByteArray) (i : Nat) : Nat := if h : i < s.size then (s[i]'h).toNat else 0

theorem bt_lt (s : ByteArray) (i : Nat) : bt s i < 256 := by
  unfold bt
  split
  · exact UInt8.toNat_lt _
  · omega

section
variable {P : Program} {w : World}
theorem index_bt {t : TypeId} {s : ByteArray} {k : IntKind} {i : Nat} (h : P.underlying t = some .string) (hi : i < s.size) : (Instr.index t (.string s) (.int k (i : Int))).run P w = .ok (.int .u8 (bt s i)) w := by
  rw [run_index_string w t s k i h, dif_pos (by omega)]
  unfold bt
  rw [dif_pos hi]
  rfl

theorem slice_ij {t : TypeId} {s : ByteArray} {k k' : IntKind} {i j : Nat} (h : P.underlying t = some .string) (hi : i ≤ j) (hj : j ≤ s.size) : (Instr.sliceAt t (.string s) (some (.int k i)) (some (.int k' j)) none).run P w = .ok (.string (s.extract i j)) w := by
  rw [run_sliceAt_string w t _ _ _ _ h, run_slice_string w t s k k' i j h (by omega) (by omega) (by omega)]
  rfl
theorem slice_i {t : TypeId} {s : ByteArray} {k : IntKind} {i : Nat} (h : P.underlying t = some .string) (hi : i ≤ s.size) : (Instr.sliceAt t (.string s) (some (.int k i)) none none).run P w = .ok (.string (s.extract i s.size)) w := by
  rw [run_sliceAt_string w t _ _ _ _ h, run_slice_string_from_if w t s k i h, if_pos (by omega)]
  rfl
theorem slice_j {t : TypeId} {s : ByteArray} {k : IntKind} {j : Nat} (h : P.underlying t = some .string) (hj : j ≤ s.size) : (Instr.sliceAt t (.string s) none (some (.int k j)) none).run P w = .ok (.string (s.extract 0 j)) w := by
  rw [run_sliceAt_string w t _ _ _ _ h, run_slice_string_to_if w t s k j h, if_pos (by omega)]
  rfl
end
end Go.Px
