/- The statement GramNames holds: the law returns true and nothing that was there before the call has turned. No condition. -/
import Derived.Test.YtmhebgebfjnfjaaGnParts
import Derived.Test.YtmhebgebfjnfjaaPxRow
import Derived.Test.YtmhebgebfjnfjaaRows
namespace Go.Proofs.Ytmhebgebfjnfjaa.gramNames
open Go.Px Go.ChangeShapes Go.WideShapes Go.ChangeAt Go.RowKit

theorem own : ownKnob Try.prog.godebug = none := by kernel_rfl

theorem reads {H : Type} {enc : TypeId × Value → H} {W : World} {args : Array Value} {ds gs : List (DataW H)} {before : List MemPlace}
    (hW : DataW.Whole enc Try.prog Try.f3.params.toList [] false W args.toList ds gs before) : args = #[] ∧ ds = [] ∧ gs = [] := by
  obtain ⟨p, q, hA, hV, _⟩ := hW
  obtain ⟨rfl, rfl, _⟩ := trodAll_none (show DataW.TrodAll enc Try.prog W 0 (fun _ => true) true [] args.toList ds p from hA)
  obtain ⟨rfl, _⟩ := trodVars_none hV
  exact ⟨rfl, rfl, rfl⟩

set_option maxRecDepth 100000 in
theorem lifted (os : Os) (started : os.Started) (H : Type) (enc : TypeId × Value → H) :
    ReturnsInHanded {} Try.checked os 3 .any (Rows.gramNamesSpec.pre6 enc Try.prog Try.f3 Rows.gramNamesRow.domain false) (Rows.gramNamesSpec.post enc Try.prog Try.f3 false true false false) := by
  refine returnsInHanded_of_change (C := Try.checked) own started (by kernel_rfl) Try.func3
    (ChangeSpec.witness6 (enc := enc) (C := Try.checked) false ⟨#[], #[], []⟩ 8 (by kernel_rfl) (by kernel_rfl) (by kernel_rfl) (by kernel_rfl)) ?_
  intro W base args ds gs before _ hW _ _
  obtain ⟨rfl, rfl, rfl⟩ := reads hW
  refine (GramNames_ct W).2.mono fun e W' he => ?_
  cases e with
  | returned v =>
    obtain ⟨rfl, hb⟩ := he
    exact ⟨_, rfl, law_post (t := 4) (by kernel_rfl) (fun t ht => by cases ht) rfl Try.underlying4 rfl hW rfl rfl rfl hb⟩
  | _ => exact he.elim

theorem done : Rows.GramNamesSaid :=
  OpenClaim.holds_of_wide 3 Try.f3 rfl rfl rfl rfl rfl rfl rfl ⟨rfl, rfl, rfl, rfl, rfl⟩ rfl rfl rfl rfl rfl (by kernel_rfl) Try.func3 (by kernel_rfl)
    (of_decide_eq_true (by kernel_rfl)) (by unfold Func.isWrapper; first | (rw [if_pos (by decide +kernel)]; kernel_rfl) | (rw [if_neg (by decide +kernel)]; exact ⟨rfl, rfl⟩))
    (fun os started H enc _ => lifted os started H enc)
end Go.Proofs.Ytmhebgebfjnfjaa.gramNames

namespace Go.Proofs.Ytmhebgebfjnfjaa
theorem GramNames_holds : Rows.GramNamesSaid := gramNames.done
end Go.Proofs.Ytmhebgebfjnfjaa
#print axioms Go.Proofs.Ytmhebgebfjnfjaa.GramNames_holds
