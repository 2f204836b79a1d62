/-
  The law GramWhich returns true for every grammar, and nothing that was there before the call has turned: where what it reads is of bulk at most 1048576.
-/
import Derived.Test.YtkacbjhiobnbfaaWa
import Derived.Test.YtkacbjhiobnbfaaWe
namespace Go.Proofs.Ytkacbjhiobnbfaa.gramWhich
open Go.Px Go.ChangeShapes Go.WideShapes Go.ChangeAt Go.RowKit Go.Px.Scan

set_option maxRecDepth 100000 in
theorem contract (H : Type) (enc : TypeId × Value → H) (W : World) (base : Nat) (args : Array Value) (ds gs : List (DataW H)) (before : List MemPlace)
    (hval : ∀ (j : Nat) t v, Try.f14.params[j]? = some t → args[j]? = some v → Value.okWide Try.prog W .any base t v)
    (hW : DataW.Whole enc Try.prog Try.f14.params.toList Rows.gramWhichSpec.vars false W args.toList ds gs before)
    (hup : Rows.uptoSmall H (ds ++ gs) = true)
    (hwt : (DataW.weightsEach Try.prog (Try.f14.params.toList ++ (Rows.OpenSpec.upto Rows.gramWhichSpec).bare.plain.varTypes Try.prog) (ds ++ gs)).all (· ≤ reachBytes) = true) :
    Calls Try.prog 14 args W fun e W' => ∃ v, e = .returned v ∧ Rows.gramWhichSpec.post enc Try.prog Try.f14 false true false false W args v W' := by
  have hW' := hW
  obtain ⟨p, q, hA0, hV, rfl, hfz, hnd⟩ := hW
  have hA : DataW.TrodAll enc Try.prog W 0 (fun _ => true) true Try.f14.params.toList args.toList ds p := hA0
  rw [Try.params14] at hA hval hwt
  obtain ⟨v0, vs0, d0, ds0, p0, q0, hargs0, rfl, rfl, h0, r0⟩ := trodAll_cons hA
  obtain ⟨rfl, rfl, rfl⟩ := trodAll_nil r0
  obtain rfl : args = #[v0] := by cases args; simp_all
  obtain ⟨rfl, rfl⟩ := trodVars_none hV
  have hwt' : (DataW.weightsEach Try.prog ([27] ++ []) ([d0] ++ [])).all (· ≤ reachBytes) = true := hwt
  simp only [List.append_nil, DataW.weightsEach, List.all_append, Bool.and_eq_true] at hwt'
  obtain ⟨cs0, ec0, _⟩ := okWide_struct Try.underlying27 (hval 0 27 v0 rfl rfl)
  obtain ⟨a0, ha0, hf0, hb0⟩ := open_argN opens27 ec0 h0
  have hf0 := hf0 hwt'
  have hup' : Rows.uptoBulkAll ([d0] ++ []) ≤ 1048576 := of_decide_eq_true hup
  have hn0 := hb0 _ _ bulkOf
  simp only [List.cons_append, List.nil_append, bulkOf.allc, bulkOf.all0] at hup'
  refine (GramWhich_ct ha0 (Nat.le_refl _) (gram_fitR hf0)).2.mono fun e W' he => ?_
  cases e with
  | returned v =>
    obtain ⟨rfl, hb⟩ := he
    exact ⟨_, rfl, law_post (t := 4) (by kernel_rfl) (fun t ht => by
      rw [Try.params14] at ht
      simp only [List.mem_cons, List.not_mem_nil, or_false] at ht
      rcases ht with rfl <;> exact ⟨by kernel_rfl, by decide +kernel⟩) rfl Try.underlying4 rfl hW' rfl rfl rfl (hb.below (Nat.le_refl _) fun _ _ => id)⟩
  | _ => exact he.elim

theorem reads (os : Os) {H : Type} (enc : TypeId × Value → H) : ∃ places, DataW.whole enc Try.prog ((World.holding Try.prog os ⟨#[], #[], []⟩).forCall (fun _ _ => 0) ⟨#[], #[.agg #[.slice none 0 0, .slice none 0 0, .slice none 0 0, .int .i64 0, .slice none 0 0]], []⟩).memory Try.f14.params.toList Rows.gramWhichSpec.vars false #[.agg #[.slice none 0 0, .slice none 0 0, .slice none 0 0, .int .i64 0, .slice none 0 0]].toList 8 = some ([.agg [.nil, .nil, .nil, .lit (.int .i64 0), .nil]], [], places) :=
  ⟨[], by kernel_rfl⟩

set_option maxRecDepth 100000 in
theorem lifted (os : Os) (started : os.Started) (H : Type) (enc : TypeId × Value → H) (F : Stop.Interp) :
    ReturnsInHanded {} Try.checked os 14 .any ((Rows.OpenSpec.upto Rows.gramWhichSpec).preRow enc Try.prog Try.f14 Rows.gramWhichUptoRow.domain false Rows.gramWhichUptoRow.laid) (((Rows.OpenSpec.upto Rows.gramWhichSpec).at F).post enc Try.prog Try.f14 false true false false) := by
  obtain ⟨places, hx⟩ := reads os enc
  refine returnsInHanded_of_row (C := Try.checked) (s := Rows.OpenSpec.upto Rows.gramWhichSpec) own started (by kernel_rfl) Try.func14
    (witness_row_at (enc := enc) (C := Try.checked) false (World.holding Try.prog os ⟨#[], #[], []⟩) #[.agg #[.slice none 0 0, .slice none 0 0, .slice none 0 0, .int .i64 0, .slice none 0 0]] rfl (by kernel_rfl) (by kernel_rfl) (by kernel_rfl)
      (OpenSpec.preRow_of_cond 8 hx (by kernel_rfl) (fun k hk => by cases hk; kernel_rfl) (by kernel_rfl) (laid_none _ _))) ?_
  intro W base args ds gs before hval hW _ hcond hwt _ _ _
  exact contract H enc W base args ds gs before hval hW (hcond _ rfl) hwt

theorem said : Rows.GramWhichUptoSaid :=
  OpenClaim.holds_of_cond 14 Try.f14 rfl rfl rfl rfl rfl rfl rfl ⟨rfl, rfl, rfl, rfl, rfl⟩ rfl rfl rfl rfl rfl (by kernel_rfl) Try.func14 (by kernel_rfl)
    (of_decide_eq_true (by kernel_rfl)) (by unfold Func.isWrapper; first | (rw [if_pos (by decide +kernel)]; kernel_rfl) | (rw [if_neg (by decide +kernel)]; exact ⟨rfl, rfl⟩))
    (fun os started H enc _ F => by rw [OpenClaim.pre_eq_preRow]; exact lifted os started H enc F)

end Go.Proofs.Ytkacbjhiobnbfaa.gramWhich

namespace Go.Proofs.Ytkacbjhiobnbfaa
theorem GramWhich_holds : Rows.GramWhichUptoSaid := gramWhich.said
end Go.Proofs.Ytkacbjhiobnbfaa
#print axioms Go.Proofs.Ytkacbjhiobnbfaa.GramWhich_holds

