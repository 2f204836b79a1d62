/-
  Texts of this claim: Gw0, Gw1.
-/
import Derived.Test.YtmhebgebfjnfjaaMa
import Derived.Test.YtmhebgebfjnfjaaPa
import Derived.Test.YtmhebgebfjnfjaaRows
import Derived.WalkKit
import Derived.ProofKit
import Derived.OpenShut
import Derived.Deep.DeepHandedRow
import Derived.Deep.DeepWitnessRowRef
/-
  The rows of this seat in general.
-/
namespace Go.Proofs.Ytmhebgebfjnfjaa
open Go.Px Go.Px.Scan Go.ChangeShapes Go.WideShapes Go.ChangeAt Go.RowKit

theorem own : ownKnob Try.prog.godebug = none := by kernel_rfl
theorem cells9 : Try.prog.cellsOf 9 = 1 := by kernel_rfl
theorem opens9 : Opens Try.prog 9 rStr := opens_str Try.underlying9 cells9 (by kernel_rfl)
theorem opens3 : Opens Try.prog 3 rInt := opens_int Try.underlying3 (by kernel_rfl) (by kernel_rfl)
theorem opens30 : Opens Try.prog 30 (rSlice rInt) := opens_slice Try.underlying30 (by kernel_rfl) (by kernel_rfl) (by decide) opens3
theorem laid_none (P : Program) (w : World) : laidMetH P [] w := ⟨[], rfl, List.nodup_nil, fun _ _ h => by cases h⟩
end Go.Proofs.Ytmhebgebfjnfjaa

/-
  Rows with grammars.
-/
namespace Go.Px
open Go.RowKit
theorem opens_map {α β : Type} {P : Program} {t : TypeId} {r : Rep α} {f : β → α} {g : α → β} (hg : ∀ a, f (g a) = a) (h : Opens P t r) : Opens P t (r.map f) := by
  refine ⟨h.1, h.2.1, fun enc W base sp held fuel cs x hx => ?_⟩
  obtain ⟨a, ha, hf⟩ := h.2.2 enc W base sp held fuel cs x hx
  exact ⟨g a, by show r.ok _ _ _ _; rw [hg]; exact ha, fun hw => by show r.fit _; rw [hg]; exact hf hw⟩
end Go.Px
namespace Go.Proofs.Ytmhebgebfjnfjaa
open Go.Px Go.Px.Scan Go.ChangeShapes Go.WideShapes Go.ChangeAt Go.RowKit
theorem opens56 : Opens Try.prog 56 rTerm := opens_struct Try.underlying56 (by kernel_rfl) (by kernel_rfl) (opensF_cons opens9 (opensF_one opens3))
theorem opens32 : Opens Try.prog 32 (rSlice rTerm) := opens_slice Try.underlying32 (by kernel_rfl) (by kernel_rfl) (by decide) opens56
theorem opens33 : Opens Try.prog 33 (rSlice rStr) := opens_slice Try.underlying33 (by kernel_rfl) (by kernel_rfl) (by decide) opens9
theorem opens59 : Opens Try.prog 59 rPr := opens_struct Try.underlying59 (by kernel_rfl) (by kernel_rfl) (opensF_cons opens3 (opensF_cons opens30 (opensF_one opens3)))
theorem opens34 : Opens Try.prog 34 (rSlice rPr) := opens_slice Try.underlying34 (by kernel_rfl) (by kernel_rfl) (by decide) opens59
theorem opens36 : Opens Try.prog 36 rGram := opens_map (g := fun a => ⟨a.1, a.2.1, a.2.2.1, a.2.2.2.1, a.2.2.2.2⟩) (fun _ => rfl)
  (opens_struct Try.underlying36 (by kernel_rfl) (by kernel_rfl) (opensF_cons opens32 (opensF_cons opens33 (opensF_cons opens30 (opensF_cons opens3 (opensF_one opens34))))))
end Go.Proofs.Ytmhebgebfjnfjaa

