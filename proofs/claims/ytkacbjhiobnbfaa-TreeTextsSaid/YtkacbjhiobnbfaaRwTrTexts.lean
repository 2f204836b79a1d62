/-
  The law TreeTexts returns true for every grammar, all nodes and every root, and nothing that was there before the call has turned: no condition but that no argument takes more than a machine has.
-/
import Derived.Test.YtkacbjhiobnbfaaGwT
import Derived.Test.YtkacbjhiobnbfaaTh
namespace Go.Proofs.Ytkacbjhiobnbfaa.treeTexts
open Go.Px Go.ChangeShapes Go.WideShapes Go.ChangeAt Go.RowKit Go.Px.Scan

set_option maxRecDepth 100000 in
theorem contract (H : Type) (enc : TypeId × Value → H) (W : World) (base : Nat) (args : Array Value) (ds gs : List (DataW H)) (before : List MemPlace)
    (hval : ∀ (j : Nat) t v, Try.f9.params[j]? = some t → args[j]? = some v → Value.okWide Try.prog W .any base t v)
    (hW : DataW.Whole enc Try.prog Try.f9.params.toList Rows.treeTextsSpec.vars false W args.toList ds gs before)
    (hwt : (DataW.weightsEach Try.prog (Try.f9.params.toList ++ (OpenSpec.ofChange Rows.treeTextsSpec).bare.plain.varTypes Try.prog) (ds ++ gs)).all (· ≤ reachBytes) = true) :
    Calls Try.prog 9 args W fun e W' => ∃ v, e = .returned v ∧ Rows.treeTextsSpec.post enc Try.prog Try.f9 false true false false W args v W' := by
  have hW' := hW
  obtain ⟨p, q, hA0, hV, rfl, hfz, hnd⟩ := hW
  have hA : DataW.TrodAll enc Try.prog W 0 (fun _ => true) true Try.f9.params.toList args.toList ds p := hA0
  rw [Try.params9] at hA hval hwt
  obtain ⟨v0, vs0, d0, ds0, p0, q0, hargs0, rfl, rfl, h0, r0⟩ := trodAll_cons hA
  obtain ⟨v1, vs1, d1, ds1, p1, q1, hargs1, rfl, rfl, h1, r1⟩ := trodAll_cons r0
  obtain ⟨v2, vs2, d2, ds2, p2, q2, hargs2, rfl, rfl, h2, r2⟩ := trodAll_cons r1
  obtain ⟨rfl, rfl, rfl⟩ := trodAll_nil r2
  obtain rfl : args = #[v0, v1, v2] := by cases args; simp_all
  obtain ⟨rfl, rfl⟩ := trodVars_none hV
  have hwt' : (DataW.weightsEach Try.prog ([27, 49, 3] ++ []) ([d0, d1, d2] ++ [])).all (· ≤ reachBytes) = true := hwt
  simp only [List.append_nil, DataW.weightsEach, List.all_append, Bool.and_eq_true] at hwt'
  obtain ⟨cs0, ec0, _⟩ := okWide_struct Try.underlying27 (hval 0 27 v0 rfl rfl)
  obtain ⟨a0, ha0, hf0, hb0⟩ := open_argN opens27 ec0 h0
  have hf0 := hf0 hwt'.1
  have ec1 : v1.cells = #[v1] := by obtain ⟨_, _, _, rfl⟩ := okWide_slice Try.underlying49 (hval 1 49 v1 rfl rfl); rfl
  obtain ⟨a1, ha1, hf1, hb1⟩ := open_arg1 opens49 ec1 h1
  have hf1 := hf1 hwt'.2.1
  have ec2 : v2.cells = #[v2] := by obtain ⟨_, rfl⟩ := okWide_int Try.underlying3 (hval 2 3 v2 rfl rfl); rfl
  obtain ⟨a2, ha2, hf2, hb2⟩ := open_arg1 opens3 ec2 h2
  have hf2 := hf2 hwt'.2.2
  obtain ⟨rfl, hs2⟩ := int_at1 ha2
  obtain ⟨hN1, hk1⟩ := nd_fit hf1
  refine (TreeTexts_ct ha0 ha1 (Nat.le_refl _) (gram_fit hf0) hN1 hk1 hs2).2.mono fun e W' he => ?_
  cases e with
  | returned v =>
    obtain ⟨rfl, hb⟩ := he
    exact ⟨_, rfl, law_post (t := 4) (by kernel_rfl) (fun t ht => by
      rw [Try.params9] at ht
      simp only [List.mem_cons, List.not_mem_nil, or_false] at ht
      rcases ht with rfl | rfl | rfl <;> exact ⟨by kernel_rfl, by decide +kernel⟩) rfl Try.underlying4 rfl hW' rfl rfl rfl (hb.below (Nat.le_refl _) fun _ _ => id)⟩
  | _ => exact he.elim

theorem reads (os : Os) {H : Type} (enc : TypeId × Value → H) : ∃ places, DataW.whole enc Try.prog ((World.holding Try.prog os ⟨#[], #[], []⟩).forCall (fun _ _ => 0) ⟨#[], #[.agg #[.slice none 0 0, .slice none 0 0, .slice none 0 0, .int .i64 0, .slice none 0 0], .slice none 0 0, .int .i64 0], []⟩).memory Try.f9.params.toList Rows.treeTextsSpec.vars false #[.agg #[.slice none 0 0, .slice none 0 0, .slice none 0 0, .int .i64 0, .slice none 0 0], .slice none 0 0, .int .i64 0].toList 8 = some ([.agg [.nil, .nil, .nil, .lit (.int .i64 0), .nil], .nil, .lit (.int .i64 0)], [], places) :=
  ⟨[], by kernel_rfl⟩

set_option maxRecDepth 100000 in
theorem lifted (os : Os) (started : os.Started) (H : Type) (enc : TypeId × Value → H) (F : Stop.Interp) :
    ReturnsInHanded {} Try.checked os 9 .any ((OpenSpec.ofChange Rows.treeTextsSpec).preRow enc Try.prog Try.f9 Rows.treeTextsRow.domain false Rows.treeTextsRow.laid) (((OpenSpec.ofChange Rows.treeTextsSpec).at F).post enc Try.prog Try.f9 false true false false) := by
  obtain ⟨places, hx⟩ := reads os enc
  refine returnsInHanded_of_row (C := Try.checked) (s := OpenSpec.ofChange Rows.treeTextsSpec) own started (by kernel_rfl) Try.func9
    (witness_row_at (enc := enc) (C := Try.checked) false (World.holding Try.prog os ⟨#[], #[], []⟩) #[.agg #[.slice none 0 0, .slice none 0 0, .slice none 0 0, .int .i64 0, .slice none 0 0], .slice none 0 0, .int .i64 0] rfl (by kernel_rfl) (by kernel_rfl) (by kernel_rfl)
      (OpenSpec.preRow_of_cond 8 hx (by kernel_rfl) (fun k hk => by cases hk) (by kernel_rfl) (laid_none _ _))) ?_
  intro W base args ds gs before hval hW _ _ hwt _ _ _
  exact contract H enc W base args ds gs before hval hW hwt

theorem said : Rows.TreeTextsSaid :=
  OpenClaim.holds_of_cond 9 Try.f9 rfl rfl rfl rfl rfl rfl rfl ⟨rfl, rfl, rfl, rfl, rfl⟩ rfl rfl rfl rfl rfl (by kernel_rfl) Try.func9 (by kernel_rfl)
    (of_decide_eq_true (by kernel_rfl)) (by unfold Func.isWrapper; first | (rw [if_pos (by decide +kernel)]; kernel_rfl) | (rw [if_neg (by decide +kernel)]; exact ⟨rfl, rfl⟩))
    (fun os started H enc _ F => by rw [OpenClaim.pre_eq_preRow]; exact lifted os started H enc F)

end Go.Proofs.Ytkacbjhiobnbfaa.treeTexts

namespace Go.Proofs.Ytkacbjhiobnbfaa
theorem TreeTexts_holds : Rows.TreeTextsSaid := treeTexts.said
end Go.Proofs.Ytkacbjhiobnbfaa
#print axioms Go.Proofs.Ytkacbjhiobnbfaa.TreeTexts_holds

