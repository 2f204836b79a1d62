/-
  The law TopCores returns true for every grammar, and nothing that was there before the call has turned: no condition but that no argument takes more than a machine has.
-/
import Derived.Test.YtmoepnfobnpdiaaY10
import Derived.Test.YtmoepnfobnpdiaaY15
namespace Go.Proofs.Ytmoepnfobnpdiaa.topCores
open Go.Px Go.ChangeShapes Go.WideShapes Go.ChangeAt Go.RowKit Go.Px.Scan

set_option maxRecDepth 100000 in
theorem contract (H:Type) (enc:TypeId×Value→H) (W:World) (base:Nat) (args:Array Value) (ds gs:List (DataW H)) (before:List MemPlace)
  (hval:∀(j:Nat) t v,Try.f3.params[j]?=some t→args[j]?=some v→Value.okWide Try.prog W .any base t v)
  (hW:DataW.Whole enc Try.prog Try.f3.params.toList Rows.topCoresSpec.vars false W args.toList ds gs before)
  (hwt:(DataW.weightsEach Try.prog (Try.f3.params.toList++(OpenSpec.ofChange Rows.topCoresSpec).bare.plain.varTypes Try.prog) (ds++gs)).all (·≤reachBytes)=true) :
  Calls Try.prog 3 args W fun e W'=>∃v,e = .returned v∧Rows.topCoresSpec.post enc Try.prog Try.f3 false true false false W args v W':=by
 have hW':=hW
 obtain ⟨p,q,hA0,hV,rfl,hfz,hnd⟩:=hW
 have hA:DataW.TrodAll enc Try.prog W 0 (fun _=>true) true Try.f3.params.toList args.toList ds p:=hA0
 rw [Try.params3] at hA hval hwt
 obtain ⟨v0,vs0,d0,ds0,p0,q0,hargs0,rfl,rfl,h0,r0⟩:=trodAll_cons hA
 obtain ⟨rfl,rfl,rfl⟩:=trodAll_nil r0
 obtain rfl:args=#[v0]:=by cases args;simp_all
 obtain ⟨rfl,rfl⟩:=trodVars_none hV
 have hwt':(DataW.weightsEach Try.prog ([27]++[]) ([d0]++[])).all (·≤reachBytes)=true:=hwt
 simp only [List.append_nil,DataW.weightsEach,List.all_append,Bool.and_eq_true] at hwt'
 obtain ⟨cs0,ec0,_⟩:=okWide_struct Try.underlying27 (hval 0 27 v0 rfl rfl)
 obtain ⟨a0,ha0,hf0,hb0⟩:=open_argN opens27 ec0 h0
 have hf0:=hf0 hwt'
 refine (TopCores_ct ha0 (Nat.le_refl _)).2.mono fun e W' he=>?_
 cases e with
 | returned v =>
  obtain ⟨rfl,hb⟩:=he
  exact ⟨_,rfl,law_post (t:=4) (by kernel_rfl) (fun t ht=>by
   rw [Try.params3] at ht
   simp only [List.mem_cons,List.not_mem_nil,or_false] at ht
   rcases ht with rfl <;> exact ⟨by kernel_rfl,by decide +kernel⟩) rfl Try.underlying4 rfl hW' rfl rfl rfl (hb.below (Nat.le_refl _) fun _ _=>id)⟩
 | _=>exact he.elim

theorem reads (os:Os) {H:Type} (enc:TypeId×Value→H):∃places,DataW.whole enc Try.prog ((World.holding Try.prog os ⟨#[],#[],[]⟩).forCall (fun _ _=>0) ⟨#[],#[.agg #[.slice none 0 0,.slice none 0 0,.slice none 0 0,.int .i64 0,.slice none 0 0]],[]⟩).memory Try.f3.params.toList Rows.topCoresSpec.vars false #[.agg #[.slice none 0 0,.slice none 0 0,.slice none 0 0,.int .i64 0,.slice none 0 0]].toList 8=some ([.agg [.nil,.nil,.nil,.lit (.int .i64 0),.nil]],[],places) :=
 ⟨[],by kernel_rfl⟩

set_option maxRecDepth 100000 in
theorem lifted (os:Os) (started:os.Started) (H:Type) (enc:TypeId×Value→H) (F:Stop.Interp) :
  ReturnsInHanded {} Try.checked os 3 .any ((OpenSpec.ofChange Rows.topCoresSpec).preRow enc Try.prog Try.f3 Rows.topCoresRow.domain false Rows.topCoresRow.laid) (((OpenSpec.ofChange Rows.topCoresSpec).at F).post enc Try.prog Try.f3 false true false false):=by
 obtain ⟨places,hx⟩:=reads os enc
 refine returnsInHanded_of_row (C:=Try.checked) (s:=OpenSpec.ofChange Rows.topCoresSpec) own started (by kernel_rfl) Try.func3
  (witness_row_at (enc:=enc) (C:=Try.checked) false (World.holding Try.prog os ⟨#[],#[],[]⟩) #[.agg #[.slice none 0 0,.slice none 0 0,.slice none 0 0,.int .i64 0,.slice none 0 0]] rfl (by kernel_rfl) (by kernel_rfl) (by kernel_rfl)
   (OpenSpec.preRow_of_cond 8 hx (by kernel_rfl) (fun k hk=>by cases hk) (by kernel_rfl) (laid_none _ _))) ?_
 intro W base args ds gs before hval hW _ _ hwt _ _ _
 exact contract H enc W base args ds gs before hval hW hwt

theorem said:Rows.TopCoresSaid :=
 OpenClaim.holds_of_cond 3 Try.f3 rfl rfl rfl rfl rfl rfl rfl ⟨rfl,rfl,rfl,rfl,rfl⟩ rfl rfl rfl rfl rfl (by kernel_rfl) Try.func3 (by kernel_rfl)
  (of_decide_eq_true (by kernel_rfl)) (by unfold Func.isWrapper;first | (rw [if_pos (by decide +kernel)];kernel_rfl) | (rw [if_neg (by decide +kernel)];exact ⟨rfl,rfl⟩))
  (fun os started H enc _ F=>by rw [OpenClaim.pre_eq_preRow];exact lifted os started H enc F)

end Go.Proofs.Ytmoepnfobnpdiaa.topCores

namespace Go.Proofs.Ytmoepnfobnpdiaa
theorem TopCores_holds:Rows.TopCoresSaid:=topCores.said
end Go.Proofs.Ytmoepnfobnpdiaa
#print axioms Go.Proofs.Ytmoepnfobnpdiaa.TopCores_holds
