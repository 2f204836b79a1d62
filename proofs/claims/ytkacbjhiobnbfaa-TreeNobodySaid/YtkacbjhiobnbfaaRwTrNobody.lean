/-
  The law TreeNobody returns true for every number and list, and nothing that was there before the call has turned: no condition but that no argument takes more than a machine has.
-/
import Derived.Test.YtkacbjhiobnbfaaGwT
import Derived.Test.YtkacbjhiobnbfaaTl
namespace Go.Proofs.Ytkacbjhiobnbfaa.treeNobody
open Go.Px Go.ChangeShapes Go.WideShapes Go.ChangeAt Go.RowKit Go.Px.Scan

set_option maxRecDepth 100000 in
theorem contract (H : Type) (enc : TypeId × Value → H) (W : World) (base : Nat) (args : Array Value) (ds gs : List (DataW H)) (before : List MemPlace)
    (hval : ∀ (j : Nat) t v, Try.f13.params[j]? = some t → args[j]? = some v → Value.okWide Try.prog W .any base t v)
    (hW : DataW.Whole enc Try.prog Try.f13.params.toList Rows.treeNobodySpec.vars false W args.toList ds gs before)
    (hwt : (DataW.weightsEach Try.prog (Try.f13.params.toList ++ (OpenSpec.ofChange Rows.treeNobodySpec).bare.plain.varTypes Try.prog) (ds ++ gs)).all (· ≤ reachBytes) = true) :
    Calls Try.prog 13 args W fun e W' => ∃ v, e = .returned v ∧ Rows.treeNobodySpec.post enc Try.prog Try.f13 false true false false W args v W' := by
  have hW' := hW
  obtain ⟨p, q, hA0, hV, rfl, hfz, hnd⟩ := hW
  have hA : DataW.TrodAll enc Try.prog W 0 (fun _ => true) true Try.f13.params.toList args.toList ds p := hA0
  rw [Try.params13] at hA hval hwt
  obtain ⟨v0, vs0, d0, ds0, p0, q0, hargs0, rfl, rfl, h0, r0⟩ := trodAll_cons hA
  obtain ⟨v1, vs1, d1, ds1, p1, q1, hargs1, rfl, rfl, h1, r1⟩ := trodAll_cons r0
  obtain ⟨rfl, rfl, rfl⟩ := trodAll_nil r1
  obtain rfl : args = #[v0, v1] := by cases args; simp_all
  obtain ⟨rfl, rfl⟩ := trodVars_none hV
  have hwt' : (DataW.weightsEach Try.prog ([3, 24] ++ []) ([d0, d1] ++ [])).all (· ≤ reachBytes) = true := hwt
  simp only [List.append_nil, DataW.weightsEach, List.all_append, Bool.and_eq_true] at hwt'
  have ec0 : v0.cells = #[v0] := by obtain ⟨_, rfl⟩ := okWide_int Try.underlying3 (hval 0 3 v0 rfl rfl); rfl
  obtain ⟨a0, ha0, hf0, hb0⟩ := open_arg1 opens3 ec0 h0
  have hf0 := hf0 hwt'.1
  obtain ⟨rfl, hs0⟩ := int_at1 ha0
  have ec1 : v1.cells = #[v1] := by obtain ⟨_, _, _, rfl⟩ := okWide_slice Try.underlying24 (hval 1 24 v1 rfl rfl); rfl
  obtain ⟨a1, ha1, hf1, hb1⟩ := open_arg1 opens24 ec1 h1
  have hf1 := hf1 hwt'.2
  refine (TreeNobody_ct ha1 (Nat.le_refl _) (reach_max (ints_fit hf1)) hs0).2.mono fun e W' he => ?_
  cases e with
  | returned v =>
    obtain ⟨rfl, hb⟩ := he
    exact ⟨_, rfl, law_post (t := 4) (by kernel_rfl) (fun t ht => by
      rw [Try.params13] at ht
      simp only [List.mem_cons, List.not_mem_nil, or_false] at ht
      rcases ht with rfl | rfl <;> exact ⟨by kernel_rfl, by decide +kernel⟩) rfl Try.underlying4 rfl hW' rfl rfl rfl (hb.below (Nat.le_refl _) fun _ _ => id)⟩
  | _ => exact he.elim

theorem reads (os : Os) {H : Type} (enc : TypeId × Value → H) : ∃ places, DataW.whole enc Try.prog ((World.holding Try.prog os ⟨#[], #[], []⟩).forCall (fun _ _ => 0) ⟨#[], #[.int .i64 0, .slice none 0 0], []⟩).memory Try.f13.params.toList Rows.treeNobodySpec.vars false #[.int .i64 0, .slice none 0 0].toList 8 = some ([.lit (.int .i64 0), .nil], [], places) :=
  ⟨[], by kernel_rfl⟩

set_option maxRecDepth 100000 in
theorem lifted (os : Os) (started : os.Started) (H : Type) (enc : TypeId × Value → H) (F : Stop.Interp) :
    ReturnsInHanded {} Try.checked os 13 .any ((OpenSpec.ofChange Rows.treeNobodySpec).preRow enc Try.prog Try.f13 Rows.treeNobodyRow.domain false Rows.treeNobodyRow.laid) (((OpenSpec.ofChange Rows.treeNobodySpec).at F).post enc Try.prog Try.f13 false true false false) := by
  obtain ⟨places, hx⟩ := reads os enc
  refine returnsInHanded_of_row (C := Try.checked) (s := OpenSpec.ofChange Rows.treeNobodySpec) own started (by kernel_rfl) Try.func13
    (witness_row_at (enc := enc) (C := Try.checked) false (World.holding Try.prog os ⟨#[], #[], []⟩) #[.int .i64 0, .slice none 0 0] rfl (by kernel_rfl) (by kernel_rfl) (by kernel_rfl)
      (OpenSpec.preRow_of_cond 8 hx (by kernel_rfl) (fun k hk => by cases hk) (by kernel_rfl) (laid_none _ _))) ?_
  intro W base args ds gs before hval hW _ _ hwt _ _ _
  exact contract H enc W base args ds gs before hval hW hwt

theorem said : Rows.TreeNobodySaid :=
  OpenClaim.holds_of_cond 13 Try.f13 rfl rfl rfl rfl rfl rfl rfl ⟨rfl, rfl, rfl, rfl, rfl⟩ rfl rfl rfl rfl rfl (by kernel_rfl) Try.func13 (by kernel_rfl)
    (of_decide_eq_true (by kernel_rfl)) (by unfold Func.isWrapper; first | (rw [if_pos (by decide +kernel)]; kernel_rfl) | (rw [if_neg (by decide +kernel)]; exact ⟨rfl, rfl⟩))
    (fun os started H enc _ F => by rw [OpenClaim.pre_eq_preRow]; exact lifted os started H enc F)

end Go.Proofs.Ytkacbjhiobnbfaa.treeNobody

namespace Go.Proofs.Ytkacbjhiobnbfaa
theorem TreeNobody_holds : Rows.TreeNobodySaid := treeNobody.said
end Go.Proofs.Ytkacbjhiobnbfaa
#print axioms Go.Proofs.Ytkacbjhiobnbfaa.TreeNobody_holds

