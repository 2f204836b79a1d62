/-
  Texts of this claim: Gw0, GwA, GwG.
-/
import Derived.Test.YtkacbjhiobnbfaaMb
import Derived.Test.YtkacbjhiobnbfaaPa
import Derived.Test.YtkacbjhiobnbfaaRows
import Derived.WalkKit
import Derived.ProofKit
import Derived.OpenShut
import Derived.Deep.DeepHandedRow
import Derived.Deep.DeepWitnessRowRef
import Derived.Test.YtkacbjhiobnbfaaMa
import Derived.Test.YtkacbjhiobnbfaaWc
/-
  The rows of this seat in general.
-/
namespace Go.Proofs.Ytkacbjhiobnbfaa
open Go.Px Go.Px.Scan Go.ChangeShapes Go.WideShapes Go.ChangeAt Go.RowKit

theorem own : ownKnob Try.prog.godebug = none := by kernel_rfl
theorem cells9 : Try.prog.cellsOf 9 = 1 := by kernel_rfl
theorem opens9 : Opens Try.prog 9 rStr := opens_str Try.underlying9 cells9 (by kernel_rfl)
theorem opens3 : Opens Try.prog 3 rInt := opens_int Try.underlying3 (by kernel_rfl) (by kernel_rfl)
theorem opens24 : Opens Try.prog 24 (rSlice rInt) := opens_slice Try.underlying24 (by kernel_rfl) (by kernel_rfl) (by decide) opens3
theorem laid_none (P : Program) (w : World) : laidMetH P [] w := ⟨[], rfl, List.nodup_nil, fun _ _ h => by cases h⟩
end Go.Proofs.Ytkacbjhiobnbfaa

/-
  Rows with grammars.
-/
namespace Go.Proofs.Ytkacbjhiobnbfaa
open Go.Px Go.Px.Scan Go.ChangeShapes Go.WideShapes Go.ChangeAt Go.RowKit
theorem opens106 : Opens Try.prog 106 rTerm := opens_struct Try.underlying106 (by kernel_rfl) (by kernel_rfl) (opensF_cons opens9 (opensF_one opens3))
theorem opens22 : Opens Try.prog 22 (rSlice rTerm) := opens_slice Try.underlying22 (by kernel_rfl) (by kernel_rfl) (by decide) opens106
theorem opens23 : Opens Try.prog 23 (rSlice rStr) := opens_slice Try.underlying23 (by kernel_rfl) (by kernel_rfl) (by decide) opens9
theorem opens47 : Opens Try.prog 47 rPr := opens_struct Try.underlying47 (by kernel_rfl) (by kernel_rfl) (opensF_cons opens3 (opensF_cons opens24 (opensF_one opens3)))
theorem opens25 : Opens Try.prog 25 (rSlice rPr) := opens_slice Try.underlying25 (by kernel_rfl) (by kernel_rfl) (by decide) opens47
theorem opens27 : Opens Try.prog 27 rGram := opens_map (g := fun a => ⟨a.1, a.2.1, a.2.2.1, a.2.2.2.1, a.2.2.2.2⟩) (fun _ => rfl)
  (opens_struct Try.underlying27 (by kernel_rfl) (by kernel_rfl) (opensF_cons opens22 (opensF_cons opens23 (opensF_cons opens24 (opensF_cons opens3 (opensF_one opens25))))))
end Go.Proofs.Ytkacbjhiobnbfaa
namespace Go.Px.Scan
open Go.Px
theorem sum_mem {α : Type} {f : α → Nat} {l : List α} {x : α} (h : x ∈ l) : f x ≤ (l.map f).sum := by
  induction l with
  | nil => cases h
  | cons y r ih =>
    rw [List.map_cons, List.sum_cons]
    rcases List.mem_cons.1 h with rfl | h
    · omega
    · have := ih h; omega
theorem sum_ge {α : Type} {f : α → Nat} {l : List α} (h : ∀ x, 1 ≤ f x) : l.length ≤ (l.map f).sum := by
  induction l with
  | nil => simp
  | cons y r ih =>
    rw [List.map_cons, List.sum_cons, List.length_cons]
    have := h y; omega
theorem bulk_ints (l : List Int) : l.length ≤ (rSlice rInt).bulk l := by
  show l.length ≤ (l.map rInt.bulk).sum + 1
  have := sum_ge (f := rInt.bulk) (l := l) (fun _ => Nat.le_refl 1)
  omega
theorem bulk_right {g : Gr} {n : Nat} (h : rGram.bulk g ≤ n) : ∀ p ∈ g.prods, p.2.1.length ≤ n := by
  intro p hp
  have h1 : (g.prods.map rPr.bulk).sum + 1 ≤ n := by
    have e : rGram.bulk g = (rSlice rTerm).bulk g.terms + ((rSlice rStr).bulk g.nons + ((rSlice rInt).bulk g.levels + (rInt.bulk g.start + (rSlice rPr).bulk g.prods))) := rfl
    have e2 : (rSlice rPr).bulk g.prods = (g.prods.map rPr.bulk).sum + 1 := rfl
    omega
  have h2 := sum_mem (f := rPr.bulk) hp
  have h3 : rPr.bulk p = 1 + ((rSlice rInt).bulk p.2.1 + 1) := rfl
  have h4 := bulk_ints p.2.1
  omega
end Go.Px.Scan
namespace Go.Proofs.Ytkacbjhiobnbfaa
open Go.Px
theorem bulkOf {H : Type} : BulkOf (H := H) Rows.uptoBulk Rows.uptoBulkAll where
  str b := by simp [Rows.uptoBulk]
  lit l := by cases l <;> simp [Rows.uptoBulk]
  nil := by simp [Rows.uptoBulk]
  slice e s := by simp [Rows.uptoBulk]
  agg p := by simp [Rows.uptoBulk]
  all0 := by simp [Rows.uptoBulkAll]
  allc d r := by simp [Rows.uptoBulkAll]
end Go.Proofs.Ytkacbjhiobnbfaa

/-
  A grammar's row: what its weight gives.
-/
namespace Go.Proofs.Ytkacbjhiobnbfaa
open Go.Px Go.Px.Scan
theorem gram_fitR {g : Gr} (h : rGram.fit g) : GFitR g where
  terms := h.1.1
  nons := h.2.1.1
  levels := h.2.2.1.1
  prods := h.2.2.2.2.1
  right p hp := (h.2.2.2.2.2 p hp).2.1.1
end Go.Proofs.Ytkacbjhiobnbfaa

