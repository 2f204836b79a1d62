/-
  Texts of this claim: Le2, RwBegins.
-/
import Derived.Test.YtckbgeedlobfaaaDoorY26
set_option maxHeartbeats 1000000
set_option linter.unusedSimpArgs false
set_option linter.unusedVariables false
set_option maxRecDepth 100000
/-
  SpecBegins; the document's words, in pieces.
-/
namespace Go.Proofs.YtckbgeedlobfaaaDoor
open Go.Px Go.Px.Scan Go.Px.Spec Go.RowKit
attribute [-go_sem] Builtin.append_ law04_SpecBegins.b1_4 law04_SpecBegins.b1_3 law04_SpecBegins.b1_2 law04_SpecBegins.b1_1 law04_SpecBegins.b10_4 law04_SpecBegins.b10_3 law04_SpecBegins.b10_2 law04_SpecBegins.b10_1 law04_SpecBegins.b5 law04_SpecBegins.b5_1 law04_SpecBegins.b6 law04_SpecBegins.b6_3 law04_SpecBegins.b6_2 law04_SpecBegins.b6_1 law04_SpecBegins.b4 law04_SpecBegins.b4_1

theorem refAll_ct {s:ByteArray} (hs:s.size≤maxLen) (w:World):Ct Tryd.prog ref03_All.id #[.string s] w fun v w' =>
  ∃A c,v = .tuple #[.slice A (wordsS s).1.length c,badV (wordsS s).2]∧St noB w w' [rowC 46 3 A (wordsS s).1.length c ((wordsS s).1.flatMap encW)] :=
 (ref_All_ct hs w).mono fun v w' ⟨⟨sl,e,hrow⟩,hc⟩=>by
  obtain ⟨Aw,cw,rfl⟩:∃A c,sl = .slice A (wordsS s).1.length c:=by
   rcases hrow.2 with ⟨rfl,h0⟩ | ⟨g,cap,cur,rfl,_⟩
   ·exact ⟨none,0,by rw [h0]⟩
   ·exact ⟨_,_,rfl⟩
  exact ⟨Aw,cw,e,St.ofRow hrow hc⟩

/-- A word of a row of words. -/
theorem word_at {G:Nat→Prop} {W w:World} {L:List Ch} {k:Nat} {A:Option Addr} {n c:Nat} {l:List Wd} (s:St G W w L) (hk:L[k]?=some (rowC 46 3 A n c (l.flatMap encW))) {i:Nat} (hi:i<l.length) :
  n=l.length∧∃g,A=some ⟨g,0,none⟩∧w.cell? ⟨g,i*3,none⟩=some (.int .i64 l[i].1)∧w.cell? ⟨g,i*3+1,none⟩=some (.string l[i].2.1)∧w.cell? ⟨g,i*3+2,none⟩=some (.int .i64 l[i].2.2):=by
 obtain ⟨F,ho,_⟩:=s.get hk
 have hn:=(row_size ho).1
 have hfl:∀l:List Wd,(l.flatMap encW).length=l.length*3:=fun l=>by
  induction l with
  | nil=>rfl
  | cons x l ih=>rw [List.flatMap_cons,List.length_append,ih,List.length_cons];show 3+_=_;omega
 rw [hfl] at hn
 obtain ⟨g,hg,hc,_⟩:=row_elem ho (fun _ _=>rfl) (by omega) (List.getElem?_eq_getElem hi)
 exact ⟨by omega,g,hg,hc 0 _ rfl,hc 1 _ rfl,hc 2 _ rfl⟩

theorem word_sz {s:ByteArray} {x:Wd} (hx:x∈(wordsS s).1):x.2.1.size≤16:=by
 have h:=words_wp s x hx
 obtain ⟨h1,h2,h3,h4,h5,_⟩:=h
 rcases h5 with h5 | h5 | h5 | h5
 ·exact (h1 h5).2.1
 ·exact (h2 h5).2.1
 ·have:=h3 h5
  unfold whole at this
  rw [List.any_eq_true] at this
  obtain ⟨o,ho,e⟩:=this
  have e':o=x.2.1:=toList_inj.1 (by simpa using e:x.2.1.toList=o.toList).symm
  rw [←e']
  revert ho
  have:∀o∈ordersL,o.size≤16:=by decide
  exact this o
 ·have:=(h4 h5).1;omega

theorem SpecBegins_ct {s mo:ByteArray} {w:World} {B:Nat} (hs:s.size≤maxLen) (hmo:mo.size≤reachN) (hO:Ord w B) (hB:B≤w.heap.size) :
  Ct Tryd.prog law04_SpecBegins.id #[.string s,.string mo] w fun v w'=>v = .bool true∧Chg noB w w':=by
 refine law04_SpecBegins.ct fun R hR=>?_
 unfold law04_SpecBegins.run law04_SpecBegins.b1
 refine CALL_of (awake_ct hO hB) ?_
 rintro _ w1 ⟨rfl,hc1⟩
 have ord:∀w',Chg noB w1 w'→Ord w' B∧B≤w'.heap.size:=fun w' hc=>⟨hO.chg (hc1.trans hc) hB fun _ _=>id,by have:=(hc1.trans hc).size;omega⟩
 have fin:∀w',Chg noB w1 w'→R (.returned (.bool true)) w':=fun w' hc=>hR _ _ ⟨rfl,hc1.trans hc⟩
 have o1:=ord w1 (Chg.refl _ _)
 unfold law04_SpecBegins.b1_4
 simp -dsimp [go_sem]
 refine SPL_intro (fun h=>?_) (fun h=>?_) <;> simp at h
 ·unfold law04_SpecBegins.b1_1
  simp -dsimp [go_sem]
  refine CALL_of (Bad_ct hs o1.1 o1.2) ?_
  rintro _ w2 ⟨rfl,hc2⟩
  rw [bad_big (by omega)]
  simp -dsimp [go_sem]
  exact fin _ hc2
 have h8:s.size≤8192:=by omega
 unfold law04_SpecBegins.b1_3
 refine CALL_of (Bad_ct hs o1.1 o1.2) ?_
 rintro _ w2 ⟨rfl,hc2⟩
 refine CALL_of (refAll_ct hs w2) ?_
 rintro _ w3 ⟨A,c,rfl,s3⟩
 have hc3:=hc2.trans s3.chg
 unfold law04_SpecBegins.b1_2
 simp -dsimp [go_sem]
 have hlen:=words_len s
 refine law04_SpecBegins.l9_intro _ _ _ _ _ _ _ _ _ (fun y w'=>∃i:Nat,y = .int .i64 i∧i≤(wordsS s).1.length∧(∀j,(hj:j<i)→(hl:j<(wordsS s).1.length)→((wordsS s).1[j]).2.2≠badS s)∧St noB w2 w' [rowC 46 3 A (wordsS s).1.length c ((wordsS s).1.flatMap encW)])
  (fun y _=>(wordsS s).1.length-iv y) ⟨0,rfl,by omega,fun j hj=>by omega,s3⟩ ?_
 rintro _ w4 ⟨i,rfl,hi,hall,s4⟩ C9 hC
 have hc4:=hc2.trans s4.chg
 unfold law04_SpecBegins.b10
 simp -dsimp [go_sem]
 refine SPL_intro (fun p1=>?_) (fun p1=>?_) <;> simp at p1
 ·obtain ⟨_,g,rfl,e0,e1,e2⟩:=word_at s4 (k:=0) rfl p1
  have wi:IntKind.i64.wrap ((i:Int)+1)=(i:Int)+1:=IntWalk.i64_in _ (by omega)
  have hx:=List.getElem_mem p1
  unfold law04_SpecBegins.b10_4
  simp -dsimp [go_sem,p1,Nat.not_le.2 p1,e2]
  refine SPL_intro (fun p2=>?_) (fun p2=>?_) <;> simp at p2
  ·simp -dsimp [go_sem,wi]
   refine hC _ _ ⟨i+1,by simp,p1,fun j hj hl=>?_,s4⟩ (by simp [iv];omega)
   by_cases hji:j<i
   ·exact hall j hji hl
   ·have:j=i:=by omega
    subst this;exact p2
  ·obtain ⟨k,N,hk,hkN,hNs,hw,hbad⟩:=bad_word h8 hx p2
   have hks:k≤s.size:=by omega
   have hxs:(s.extract 0 k).size=k:=extract_size (by omega) hks
   have hwsz:(wr (wordsS s).1[i]).size=N-k:=by rw [hw,extract_size (by omega) hNs]
   have hsz1:=word_sz hx
   have hr2:mo.size≤140737488351232+4096:=by unfold reachN at hmo;omega
   have hwv:Value.agg #[.int .i64 (wordsS s).1[i].1,.string (wordsS s).1[i].2.1,.int .i64 (wordsS s).1[i].2.2]=wdV (wordsS s).1[i]:=rfl
   have s4d:=s4.old (Chg.refl noB w4).drew
   obtain ⟨_,g',hg',e0',e1',e2'⟩:=word_at s4d (k:=0) rfl p1
   injection hg' with hg';injection hg' with hg';subst hg'
   have hnk:¬(s.size:Int)<k:=by omega
   rw [hk]
   unfold law04_SpecBegins.b10_3
   simp -dsimp [go_sem,p1,Nat.not_le.2 p1,e0',e1',e2',hnk,hks,Nat.not_lt.2 hks]
   rw [hwv]
   refine CALL_of (written_ct (by omega)) ?_
   rintro _ w5 ⟨rfl,hc5⟩
   have hc5':=hc4.trans ((Chg.refl noB w4).drew.trans hc5)
   unfold law04_SpecBegins.b10_2
   have z1:(⟨#[32]⟩:ByteArray).size=1:=rfl
   have q1:¬9223372036854775807<k+(wr (wordsS s).1[i]).size:=by omega
   have q2:¬9223372036854775807<k+(wr (wordsS s).1[i]).size+1:=by omega
   have q3:¬9223372036854775807<k+(wr (wordsS s).1[i]).size+1+mo.size:=by omega
   simp -dsimp [go_sem,ByteArray.size_append,hxs,z1,q1,q2,q3]
   refine SPL_intro (fun p3=>?_) (fun p3=>?_) <;> simp at p3
   ·exact fin _ hc5'
   have hbt:=hbad (s.extract 0 k++wr (wordsS s).1[i]++(⟨#[32]⟩:ByteArray)++mo) (by simp only [ByteArray.size_append,hxs,z1];omega) (by simp only [ByteArray.size_append,hxs,z1];omega) (fun j hj=>?_) (fun _=>?_)
   ·have hum:(s.extract 0 k++wr (wordsS s).1[i]++(⟨#[32]⟩:ByteArray)++mo).size≤maxLen:=by simp only [ByteArray.size_append,hxs,z1];unfold maxLen;omega
    have o5:=ord w5 hc5'
    simp -dsimp [go_sem]
    unfold law04_SpecBegins.b10_1
    refine CALL_of (Bad_ct hum o5.1 o5.2) ?_
    rintro _ w6 ⟨rfl,hc6⟩
    rw [hbt]
    simp -dsimp [go_sem]
    exact fin _ (hc5'.trans hc6)
   ·have hT:(s.extract 0 k++wr (wordsS s).1[i]).size=N:=by rw [ByteArray.size_append,hxs,hwsz];omega
    rw [app_assoc,app_bt (by omega)]
    by_cases hjk:j<k
    ·rw [app_bt (by omega),extract_bt' hks (by omega),Nat.zero_add]
    ·have:=app_bt2 (s:=s.extract 0 k) (t:=wr (wordsS s).1[i]) (j-k)
     rw [hxs,show k+(j-k)=j by omega] at this
     rw [this,hw,extract_bt' hNs (by omega),show k+(j-k)=j by omega]
   ·have hT:(s.extract 0 k++wr (wordsS s).1[i]).size=N:=by rw [ByteArray.size_append,hxs,hwsz];omega
    have:=app_bt2 (s:=s.extract 0 k++wr (wordsS s).1[i]) (t:=(⟨#[32]⟩:ByteArray)++mo) 0
    rw [app_assoc,←hT]
    rw [Nat.add_zero] at this
    rw [this,app_bt (by rw [z1];omega)];rfl
 ·have hall':∀x∈(wordsS s).1,x.2.2≠badS s:=fun x hx=>by
   obtain ⟨j,hj,rfl⟩:=List.getElem_of_mem hx
   exact hall j (by omega) hj
  have hlast:∀w',Chg noB w1 w'→(badS s = -1∨badS s=s.size)→law04_SpecBegins.b4 R (.string s) (.bool true) (.int .i64 (badS s)) w':=fun w' hc hb=>by
   unfold law04_SpecBegins.b4
   rcases hb with hb | hb
   ·rw [hb]
    simp -dsimp [go_sem]
    exact fin _ hc
   ·rw [hb]
    simp -dsimp [go_sem]
    refine SPL_intro (fun p=>absurd (beq_iff_eq.1 p) (by omega)) (fun _=>?_)
    unfold law04_SpecBegins.b4_1
    simp -dsimp [go_sem]
    exact fin _ hc
  unfold law04_SpecBegins.b5
  rcases bad_no h8 hall' with ⟨k,hb,hk,hks,hbad⟩ | ⟨hb,hk⟩
  ·rw [hb,hk]
   have hk0:(0:Int)≤k:=by omega
   unfold badV
   simp -dsimp [go_sem,hk0]
   unfold law04_SpecBegins.b5_1
   simp -dsimp [go_sem]
   by_cases hlt:k<s.size
   ·have hxs:(s.extract 0 (k+1)).size=k+1:=extract_size (by omega) (by omega)
    have hlt':(k:Int)<s.size:=by omega
    have hnk:¬(s.size:Int)<(k:Int)+1:=by omega
    have wk:IntKind.i64.wrap ((k:Int)+1)=(k:Int)+1:=IntWalk.i64_in _ (by omega)
    have hr2:mo.size≤140737488351232+4096:=by unfold reachN at hmo;omega
    have q1:¬9223372036854775807<k+1+mo.size:=by omega
    have hk1:k+1≤s.size:=by omega
    have htn:((k:Int)+1).toNat=k+1:=by omega
    have hng:¬(k:Int)+1<0:=by omega
    unfold law04_SpecBegins.b6
    simp -dsimp [go_sem,hlt,hlt']
    unfold law04_SpecBegins.b6_3
    simp -dsimp [go_sem,wk,show (0:Int)≤(k:Int)+1∧(k:Int)+1≤s.size by omega,hxs,q1]
    unfold law04_SpecBegins.b6_2
    simp -dsimp [go_sem,ByteArray.size_append,hxs]
    refine SPL_intro (fun p3=>?_) (fun p3=>?_) <;> simp at p3
    ·exact fin _ hc4
    have hbt:=hbad hlt (s.extract 0 (k+1)++mo) (by rw [ByteArray.size_append,hxs];omega) (by rw [ByteArray.size_append,hxs];omega) (fun j hj=>by rw [app_bt (by omega),extract_bt' hk1 (by omega),Nat.zero_add])
    have hum:(s.extract 0 (k+1)++mo).size≤maxLen:=by rw [ByteArray.size_append,hxs];unfold maxLen;omega
    have o4:=ord w4 hc4
    unfold law04_SpecBegins.b6_1
    refine CALL_of (Bad_ct hum o4.1 o4.2) ?_
    rintro _ w6 ⟨rfl,hc6⟩
    rw [hbt]
    simp -dsimp [go_sem]
    exact fin _ (hc4.trans hc6)
   ·have hlt':¬(k:Int)<s.size:=by omega
    unfold law04_SpecBegins.b6
    simp -dsimp [go_sem,hlt,hlt']
    have:=hlast w4 hc4 (.inr (by rw [hk];omega))
    rw [hk] at this
    exact this
  ·rw [hb]
   rw [show badV none = .int .i64 (-1) from rfl]
   have hb6:law04_SpecBegins.b6 R (.string s) (.string mo) (.bool true) (.int .i64 (badS s)) (.bool false) w4:=by
    unfold law04_SpecBegins.b6
    simp -dsimp [go_sem]
    exact hlast w4 hc4 hk
   have hn:¬badS s = -1∨¬0≤badS s:=by
    rcases hk with h | h <;> omega
   simp -dsimp [go_sem]
   refine SPL_intro (fun p2=>?_) (fun p2=>?_) <;> simp at p2
   ·simp -dsimp [go_sem]
    refine SPL_intro (fun p=>absurd (beq_iff_eq.1 p) (by omega)) (fun _=>hb6)
   ·exact hb6
end Go.Proofs.YtckbgeedlobfaaaDoor

/-
  The law SpecBegins returns true for every two texts, and nothing that was there before the call has turned: the tied card; its condition is that scan.orders holds its seven texts when the call begins, and no argument takes more than a machine has.
-/
namespace Go.Proofs.YtckbgeedlobfaaaDoor.specBegins
open Go.Px Go.ChangeShapes Go.WideShapes Go.ChangeAt Go.RowKit Go.Px.Scan

set_option maxRecDepth 100000 in
theorem contract (H:Type) (enc:TypeId×Value→H) (W:World) (base:Nat) (args:Array Value) (ds gs:List (DataW H)) (before:List MemPlace)
  (hval:∀(j:Nat) t v,Tryd.f5.params[j]?=some t→args[j]?=some v→Value.okWide Tryd.prog W .any base t v)
  (hW:DataW.Whole enc Tryd.prog Tryd.f5.params.toList Rows.specBeginsSpec.vars false W args.toList ds gs before)
  (hwt:(DataW.weightsEach Tryd.prog (Tryd.f5.params.toList++(OpenSpec.ofChange Rows.specBeginsSpec).bare.plain.varTypes Tryd.prog) (ds++gs)).all (·≤reachBytes)=true) (hL:laidMetH Tryd.prog Rows.specBeginsRow.laid W) :
  Calls Tryd.prog 5 args W fun e W'=>∃v,e = .returned v∧Rows.specBeginsSpec.post enc Tryd.prog Tryd.f5 false true false false W args v W':=by
 have hW':=hW
 obtain ⟨p,q,hA0,hV,rfl,hfz,hnd⟩:=hW
 have hA:DataW.TrodAll enc Tryd.prog W 0 (fun _=>true) true Tryd.f5.params.toList args.toList ds p:=hA0
 rw [Tryd.params5] at hA hval hwt
 obtain ⟨v0,vs0,d0,ds0,p0,q0,hargs0,rfl,rfl,h0,r0⟩:=trodAll_cons hA
 obtain ⟨v1,vs1,d1,ds1,p1,q1,hargs1,rfl,rfl,h1,r1⟩:=trodAll_cons r0
 obtain ⟨rfl,rfl,rfl⟩:=trodAll_nil r1
 obtain rfl:args=#[v0,v1]:=by cases args;simp_all
 obtain ⟨rfl,rfl⟩:=trodVars_none hV
 have hwt':(DataW.weightsEach Tryd.prog ([9,9]++[]) ([d0,d1]++[])).all (·≤reachBytes)=true:=hwt
 simp only [List.append_nil,DataW.weightsEach,List.all_append,Bool.and_eq_true] at hwt'
 have ec0:v0.cells=#[v0]:=by obtain ⟨_,rfl⟩:=okWide_string Tryd.underlying9 (hval 0 9 v0 rfl rfl);rfl
 obtain ⟨a0,ha0,hf0,hb0⟩:=open_arg1 opens9 ec0 h0
 have hf0:=hf0 hwt'.1
 obtain ⟨rfl,hs0⟩:=str_at1 ha0
 have ec1:v1.cells=#[v1]:=by obtain ⟨_,rfl⟩:=okWide_string Tryd.underlying9 (hval 1 9 v1 rfl rfl);rfl
 obtain ⟨a1,ha1,hf1,hb1⟩:=open_arg1 opens9 ec1 h1
 have hf1:=hf1 hwt'.2
 obtain ⟨rfl,hs1⟩:=str_at1 ha1
 have hO:=ord_of_laid hL
 refine (SpecBegins_ct hs0 hf1 hO (Nat.le_refl _)).2.mono fun e W' he=>?_
 cases e with
 | returned v =>
  obtain ⟨rfl,hb⟩:=he
  exact ⟨_,rfl,law_post (t:=4) (by kernel_rfl) (fun t ht=>by
   rw [Tryd.params5] at ht
   simp only [List.mem_cons,List.not_mem_nil,or_false] at ht
   rcases ht with rfl | rfl <;> exact ⟨by kernel_rfl,by decide +kernel⟩) rfl Tryd.underlying4 rfl hW' rfl rfl rfl (hb.below (Nat.le_refl _) fun _ _=>id)⟩
 | _=>exact he.elim

theorem reads (os:Os) {H:Type} (enc:TypeId×Value→H):∃places,DataW.whole enc Tryd.prog ((laidWorld os).forCall (fun _ _=>0) ⟨#[],#[.string ⟨#[]⟩,.string ⟨#[]⟩],[]⟩).memory Tryd.f5.params.toList Rows.specBeginsSpec.vars false #[.string ⟨#[]⟩,.string ⟨#[]⟩].toList 8=some ([.lit (.string []),.lit (.string [])],[],places) :=
 ⟨[],by kernel_rfl⟩

set_option maxRecDepth 100000 in
theorem lifted (os:Os) (started:os.Started) (H:Type) (enc:TypeId×Value→H) (F:Stop.Interp) :
  ReturnsInHanded {} Tryd.checked os 5 .any ((OpenSpec.ofChange Rows.specBeginsSpec).preRow enc Tryd.prog Tryd.f5 Rows.specBeginsRow.domain false Rows.specBeginsRow.laid) (((OpenSpec.ofChange Rows.specBeginsSpec).at F).post enc Tryd.prog Tryd.f5 false true false false):=by
 obtain ⟨places,hx⟩:=reads os enc
 refine returnsInHanded_of_row (C:=Tryd.checked) (s:=OpenSpec.ofChange Rows.specBeginsSpec) own started (by kernel_rfl) Tryd.func5
  (witness_row_atRef (enc:=enc) (C:=Tryd.checked) false (laidWorld os) #[.string ⟨#[]⟩,.string ⟨#[]⟩] rfl (by kernel_rfl) (by kernel_rfl) (by kernel_rfl)
   (OpenSpec.preRow_of_cond 8 hx (by kernel_rfl) (fun k hk=>by cases hk) (by kernel_rfl) (laid_met os _))) ?_
 intro W base args ds gs before hval hW _ _ hwt hL _ _
 exact contract H enc W base args ds gs before hval hW hwt hL

theorem said:Rows.SpecBeginsSaid :=
 OpenClaim.holds_of_cond 5 Tryd.f5 rfl rfl rfl rfl rfl rfl rfl ⟨rfl,rfl,rfl,rfl,rfl⟩ rfl rfl rfl rfl rfl (by kernel_rfl) Tryd.func5 (by kernel_rfl)
  (of_decide_eq_true (by kernel_rfl)) (by unfold Func.isWrapper;first | (rw [if_pos (by decide +kernel)];kernel_rfl) | (rw [if_neg (by decide +kernel)];exact ⟨rfl,rfl⟩))
  (fun os started H enc _ F=>by rw [OpenClaim.pre_eq_preRow];exact lifted os started H enc F)

theorem plain (f:FuncId) (fn:Func) (hf:Tryd.pinned.checked.prog.funcNamed "presage/presagelaw04.SpecBegins" = some f) (hfn:Tryd.pinned.checked.prog.funcs[f]?=some fn) :
  true=Tryd.pinned.checked.prog.looks []∧∀(j:Nat) t,fn.params[j]?=some t→Tryd.pinned.checked.prog.wantsStandIn t=false:=by
 obtain rfl:f=5:=Option.some.inj ((show Tryd.prog.funcNamed "presage/presagelaw04.SpecBegins" = some 5 by kernel_rfl).symm.trans hf) |>.symm
 obtain rfl:fn=Tryd.f5:=(Option.some.inj (Tryd.func5.symm.trans hfn)).symm
 refine ⟨by kernel_rfl,fun j t ht=>?_⟩
 rw [Tryd.params5] at ht
 have hm:=Array.mem_of_getElem? ht
 simp only [List.mem_toArray,List.mem_cons,List.not_mem_nil,or_false] at hm
 rcases hm with rfl | rfl
 ·exact (show Tryd.prog.wantsStandIn 9=false by kernel_rfl)
 ·exact (show Tryd.prog.wantsStandIn 9=false by kernel_rfl)

theorem card:Rows.SpecBeginsCardSaid :=
 Claim7.holds_tied_plain_at .later [] _ _ _ _ said (fun _ h=>by cases h) (by kernel_rfl) (fun _ h=>by cases h) specBegins_row_tie rfl ⟨rfl,rfl⟩ (by kernel_rfl) rfl plain (by kernel_rfl)

end Go.Proofs.YtckbgeedlobfaaaDoor.specBegins

namespace Go.Proofs.YtckbgeedlobfaaaDoor
theorem SpecBegins_holds:Rows.SpecBeginsCardSaid:=specBegins.card
end Go.Proofs.YtckbgeedlobfaaaDoor
#print axioms Go.Proofs.YtckbgeedlobfaaaDoor.SpecBegins_holds
