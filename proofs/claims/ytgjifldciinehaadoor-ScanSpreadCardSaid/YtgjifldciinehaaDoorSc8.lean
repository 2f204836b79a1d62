/-
  scan.Words: the words of a text, or its bad place.
-/
import Derived.Test.YtgjifldciinehaaDoorSc7
import Derived.Test.YtgjifldciinehaaDoorPxOwn
namespace Go.Proofs.YtgjifldciinehaaDoor
open Go.Px Go.Px.Scan Go.RowKit
set_option maxHeartbeats 1000000
set_option linter.unusedSimpArgs false

def encW (x : Wd) : List Value := [.int .i64 x.1, .string x.2.1, .int .i64 x.2.2]

/-- What was collected. -/
def Out (p b : Nat) (pre : List Wd) (w : World) : Prop := ∃ v, w.cell? ⟨p, 0, none⟩ = some v ∧ w.frozen? ⟨p, 0, none⟩ = false ∧ w.ownsRow (b + 1) 36 3 v pre.length (pre.flatMap encW)

theorem info36 : (Tryd.prog.info? 36).map (fun i => (i.zero, i.size, i.bytes)) = some (some (.agg #[.int .i64 0, .string ⟨#[]⟩, .int .i64 0]), 3, 32) := by kernel_rfl

theorem Words1_ct {p b : Nat} {pre : List Wd} {x : Wd} {w : World} (hpb : p < b) (h : Out p b pre w) (hl : pre.length < 10000) (hb : b < w.heap.size) :
    Ct Tryd.prog scan_Words_1.id #[wdV x, .pointer (some ⟨p, 0, none⟩)] w fun v w' => v = .bool true ∧ Out p b (pre ++ [x]) w' ∧ Chg (fun i => i = p ∨ b < i) w w' := by
  refine scan_Words_1.ct fun R hR => ?_
  obtain ⟨v, hv, hf, ho⟩ := h
  have hp := World.block_lt_of_cell? w _ hv
  obtain ⟨i0, hi, hz0, hz1, hz2⟩ := info_parts info36
  unfold scan_Words_1.run scan_Words_1.b1
  unfold wdV
  generalize hap : Builtin.append_ = ap
  simp [go_sem, World.cell?_alloc_lt, hp, hv]
  rw [← hap]
  clear hap ap
  generalize hw2 : (w.alloc (Obj.cells #[Value.int IntKind.i64 x.1, Value.string x.2.1, Value.int IntKind.i64 x.2.2] 36)).alloc _ = w2
  have hn : ∀ j u, (encW x)[j]? = some u → w2.cell? ((⟨w.heap.size + 1, 0, none⟩ : Addr).add j) = some u := by
    rw [← hw2]
    exact alloc_cells (w.alloc _) (encW x) 36 (by simp)
  have hc2 : Chg (fun _ => False) w w2 := by rw [← hw2]; exact ((Chg.refl _ _).alloc _).alloc _
  have ho2 := ownsRow_chg ho hc2 (fun _ _ => id)
  have hs2 : w2.heap.size = w.heap.size + 2 := by rw [← hw2]; simp
  clear hw2
  refine append_own 26 26 36 Tryd.underlying26 hi hz0 hz1 hz2 rfl (by omega) ho2 rfl hn ?_ (by unfold maxLen; omega) (by unfold maxBytes; omega) (by omega) ?_
  · intro u hu
    simp [encW] at hu
    rcases hu with rfl | rfl | rfl <;> rfl
  intro g c3 w3 ho3 hg3 hgb
  have hc3 : Chg (fun i => b < i) w2 w3 := grown_chg hg3 fun k hk => (ownsRow_block ho2 hk).1
  have hv3 := (hc2.at hv id)
  have hv4 := hc3.at hv3 (by simp; omega)
  have hf4 : w3.frozen? ⟨p, 0, none⟩ = false := (hc3.frozen (p := ⟨p, 0, none⟩) (by omega) (by simp; omega)).trans ((hc2.frozen (p := ⟨p, 0, none⟩) hp id).trans hf)
  simp [go_sem, hv4, hf4]
  have hc2' : Chg (fun i => i = p ∨ b < i) w w2 := hc2.mono (fun i _ h => h.elim)
  have hc4 : Chg (fun i => i = p ∨ b < i) w w3 := hc2'.trans' hc3 (fun i _ h => Or.inr h)
  refine hR _ _ ⟨rfl, ⟨_, World.cell?_setCell_same _ _ _ hv4, by rw [World.frozen?_setCell]; exact hf4, ?_⟩, hc4.setCell (Or.inl (Or.inl rfl)) _⟩
  have := ownsRow_chg ho3 (Chg.setCell (F := (· = p)) (p := ⟨p, 0, none⟩) (Chg.refl _ _) (Or.inl rfl) (.slice (some ⟨g, 0, none⟩) (pre.length + 1) c3)) (fun i hi e => by omega)
  simpa using this
end Go.Proofs.YtgjifldciinehaaDoor
