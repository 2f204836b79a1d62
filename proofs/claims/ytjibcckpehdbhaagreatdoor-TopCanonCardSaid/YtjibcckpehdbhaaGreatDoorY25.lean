/-
  The law TopCanon returns true for every grammar, and nothing that was there before the call has turned: the tied card; its condition is that the library's table math/bits.deBruijn64tab lies as it was laid when the call begins, and no argument takes more than a machine has.
-/
import Derived.Test.YtjibcckpehdbhaaGreatDoorY24
namespace Go.Proofs.YtjibcckpehdbhaaGreatDoor.topCanon
open Go.Px Go.ChangeShapes Go.WideShapes Go.ChangeAt Go.RowKit Go.Px.Scan
set_option maxRecDepth 100000 in
theorem contract (H:Type)(enc:TypeId×Value->H)(W:World)(base:Nat)(args:Array Value)(ds gs:List (DataW H))(before:List MemPlace)
  (hval:∀(j:Nat) t v,Tryz.f3.params[j]?=some t->args[j]?=some v->Value.okWide Tryz.prog W .any base t v)
  (hW:DataW.Whole enc Tryz.prog Tryz.f3.params.toList Rows.topCanonSpec.vars false W args.toList ds gs before)
  (hwt:(DataW.weightsEach Tryz.prog (Tryz.f3.params.toList++(OpenSpec.ofChange Rows.topCanonSpec).bare.plain.varTypes Tryz.prog) (ds++gs)).all (·<=reachBytes)=true) (hL:laidMetH Tryz.prog Rows.topCanonRow.laid W) :
  Calls Tryz.prog 3 args W λ e W'=>∃v,e = .returned v/\Rows.topCanonSpec.post enc Tryz.prog Tryz.f3 false true false false W args v W':=by
 have hW':=hW;obtain ⟨p,q,hA0,hV,rfl,hfz,hnd⟩:=hW;have hA:DataW.TrodAll enc Tryz.prog W 0 (λ _=>true) true Tryz.f3.params.toList args.toList ds p:=hA0;rw[Tryz.params3]at hA hval hwt;obtain ⟨v0,vs0,d0,ds0,p0,q0,hargs0,rfl,rfl,h0,r0⟩:=trodAll_cons hA;obtain ⟨rfl,rfl,rfl⟩:=trodAll_nil r0;obtain rfl:args=#[v0]:=by cases args;simp_all
 obtain ⟨rfl,rfl⟩:=trodVars_none hV;have hwt':(DataW.weightsEach Tryz.prog ([27]++[]) ([d0]++[])).all (·<=reachBytes)=true:=hwt;simp only[Qas,DataW.weightsEach,Qbn,Qad]at hwt';obtain ⟨cs0,ec0,_⟩:=okWide_struct Tryz.underlying27 (hval 0 27 v0 rfl rfl);obtain ⟨a0,ha0,hf0,hb0⟩:=Zuu ZZ44 ec0 h0;have hf0:=hf0 hwt';have hO:=Zpc hL;refine (Zpp ha0 (Ql _) hO).2.mono λ e W' he=>?_
 cases e with
 | returned v=>
  obtain ⟨rfl,hb⟩:=he;exact ⟨_,rfl,Zzb (t:=4) (by kernel_rfl) (λ t ht=>by
   rw[Tryz.params3]at ht
   simp only[Qaa,Qcb,or_false]at ht
   rcases ht with rfl<;>exact ⟨by kernel_rfl,by decide +kernel⟩) rfl Tryz.underlying4 rfl hW' rfl rfl rfl (hb.below (Ql _) λ _ _=>id)⟩
 | _=>exact he.elim
theorem reads (os:Os){H:Type}(enc:TypeId×Value->H):∃places,DataW.whole enc Tryz.prog ((Zkn os).forCall (λ _ _=>0) ⟨#[],#[.agg #[.slice none 0 0,.slice none 0 0,.slice none 0 0,.int .i64 0,.slice none 0 0]],[]⟩).memory Tryz.f3.params.toList Rows.topCanonSpec.vars false #[.agg #[.slice none 0 0,.slice none 0 0,.slice none 0 0,.int .i64 0,.slice none 0 0]].toList 8=some ([.agg [.nil,.nil,.nil,.lit (.int .i64 0),.nil]],[],places) :=
 ⟨[],by kernel_rfl⟩
set_option maxRecDepth 100000 in
theorem lifted (os:Os)(started:os.Started)(H:Type)(enc:TypeId×Value->H)(F:Stop.Interp) :
  ReturnsInHanded {} Tryz.checked os 3 .any ((OpenSpec.ofChange Rows.topCanonSpec).preRow enc Tryz.prog Tryz.f3 Rows.topCanonRow.domain false Rows.topCanonRow.laid) (((OpenSpec.ofChange Rows.topCanonSpec).at F).post enc Tryz.prog Tryz.f3 false true false false):=by
 obtain ⟨places,hx⟩:=reads os enc;refine returnsInHanded_of_row (C:=Tryz.checked) (s:=OpenSpec.ofChange Rows.topCanonSpec) own started (by kernel_rfl) Tryz.func3
  (witness_row_atRef (enc:=enc) (C:=Tryz.checked) false (Zkn os) #[.agg #[.slice none 0 0,.slice none 0 0,.slice none 0 0,.int .i64 0,.slice none 0 0]] rfl (by kernel_rfl) (by kernel_rfl) (by kernel_rfl)
   (OpenSpec.preRow_of_cond 8 hx (by kernel_rfl) (λ k hk=>by cases hk) (by kernel_rfl) (Zxf os _))) ?_
 intro W base args ds gs before hval hW _ _ hwt hL _ _;exact contract H enc W base args ds gs before hval hW hwt hL
theorem said:Rows.TopCanonSaid :=
 OpenClaim.holds_of_cond 3 Tryz.f3 rfl rfl rfl rfl rfl rfl rfl ⟨rfl,rfl,rfl,rfl,rfl⟩ rfl rfl rfl rfl rfl (by kernel_rfl) Tryz.func3 jFacts3
  (of_decide_eq_true (by kernel_rfl)) (by unfold Func.isWrapper;first | (rw[if_pos (by decide +kernel)];kernel_rfl) | (rw[if_neg (by decide +kernel)];exact ⟨rfl,rfl⟩))
  (λ os started H enc _ F=>by rw[OpenClaim.pre_eq_preRow];exact lifted os started H enc F)
theorem plain (f:FuncId)(fn:Func)(hf:Tryz.pinned.checked.prog.funcNamed "presage/presagetop.TopCanon" = some f) (hfn:Tryz.pinned.checked.prog.funcs[f]?=some fn) :
  false=Tryz.pinned.checked.prog.looks []/\∀(j:Nat) t,fn.params[j]?=some t->Tryz.pinned.checked.prog.wantsStandIn t=false:=by
 obtain rfl:f=3:=Option.some.inj ((show Tryz.prog.funcNamed "presage/presagetop.TopCanon" = some 3 by kernel_rfl).symm.trans hf) |>.symm;obtain rfl:fn=Tryz.f3:=(Option.some.inj (Tryz.func3.symm.trans hfn)).symm;refine ⟨by kernel_rfl,λ j t ht=>?_⟩;rw[Tryz.params3]at ht;have hm:=Array.mem_of_getElem? ht;simp only[List.mem_toArray,Qaa,Qcb,or_false]at hm;rcases hm with rfl
 ·exact (show Tryz.prog.wantsStandIn 27=false by kernel_rfl)
theorem card:Rows.TopCanonCardSaid :=
 Claim7.holds_tied_plain_at .later [] _ _ _ _ said (λ _ h=>by cases h) (by kernel_rfl) (λ _ h=>by cases h) topCanon_row_tie rfl ⟨rfl,rfl⟩ (by kernel_rfl) rfl plain (by kernel_rfl)
end Go.Proofs.YtjibcckpehdbhaaGreatDoor.topCanon
namespace Go.Proofs.YtjibcckpehdbhaaGreatDoor
theorem TopCanon_holds:Rows.TopCanonCardSaid:=topCanon.card
end Go.Proofs.YtjibcckpehdbhaaGreatDoor
#print axioms Go.Proofs.YtjibcckpehdbhaaGreatDoor.TopCanon_holds
