/-
  Texts of this claim: Le1, Le2, Lf2, Lf3, Lf4, RwSpread.
-/
import Derived.Test.YtckbgeedlobfaaaDoorY26
set_option maxHeartbeats 1000000
set_option linter.unusedSimpArgs false
set_option linter.unusedVariables false
set_option maxRecDepth 100000
/-
  SpecLong; a word as it is written.
-/
namespace Go.Proofs.YtckbgeedlobfaaaDoor
open Go.Px Go.Px.Scan Go.Px.Spec Go.RowKit

theorem addS (o1 o2:Operand) {a b:ByteArray} (h:a.size+b.size≤maxLen) (w:World):(bins .add 9 o1 o2 (.string a) (.string b)).run Tryd.prog w = .ok (.string (a++b)) w:=by
 have:¬9223372036854775807<a.size+b.size:=by unfold maxLen at h;omega
 simp -dsimp [go_sem,this]

attribute [-go_sem] Builtin.append_ law04_written.b1_1 law04_written.b1_2

theorem written_ct {w:World} {x:Wd} (hx:x.2.1.size≤100):Ct Tryd.prog law04_written.id #[wdV x] w fun v w'=>v = .string (wr x)∧Chg noB w w':=by
 refine law04_written.ct fun R hR=>?_
 unfold law04_written.run
 rw [show wdV x = .agg #[.int .i64 x.1,.string x.2.1,.int .i64 x.2.2] from rfl]
 have s1:=(St.refl noB w).alloc #[.int .i64 x.1,.string x.2.1,.int .i64 x.2.2] 46
 simp -dsimp [go_sem]
 generalize w.alloc (.cells _ 46)=w1 at s1 ⊢
 have k0:=(s1.box 0 rfl).1
 simp [boxAt] at k0
 refine SPL_intro (fun h=>?_) (fun h=>?_) <;> simp at h
 ·unfold law04_written.b1_1
  have e1:¬9223372036854775807<1+x.2.1.size:=by omega
  have e2:¬9223372036854775807<1+x.2.1.size+1:=by omega
  have z1:(⟨#[39]⟩:ByteArray).size=1:=rfl
  simp -dsimp [go_sem,k0,e1,e2,z1,ByteArray.size_append]
  refine hR _ _ ⟨?_,s1.chg⟩
  unfold wr quo;rw [if_pos h]
 ·unfold law04_written.b1_2
  simp -dsimp [go_sem,k0]
  refine hR _ _ ⟨?_,s1.chg⟩
  unfold wr;rw [if_neg h]

end Go.Proofs.YtckbgeedlobfaaaDoor

/-
  SpecBegins; the document's words, in pieces.
-/
namespace Go.Proofs.YtckbgeedlobfaaaDoor
open Go.Px Go.Px.Scan Go.Px.Spec Go.RowKit
attribute [-go_sem] Builtin.append_

theorem refAll_ct {s:ByteArray} (hs:s.size≤maxLen) (w:World):Ct Tryd.prog ref03_All.id #[.string s] w fun v w' =>
  ∃A c,v = .tuple #[.slice A (wordsS s).1.length c,badV (wordsS s).2]∧St noB w w' [rowC 46 3 A (wordsS s).1.length c ((wordsS s).1.flatMap encW)] :=
 (ref_All_ct hs w).mono fun v w' ⟨⟨sl,e,hrow⟩,hc⟩=>by
  obtain ⟨Aw,cw,rfl⟩:∃A c,sl = .slice A (wordsS s).1.length c:=by
   rcases hrow.2 with ⟨rfl,h0⟩ | ⟨g,cap,cur,rfl,_⟩
   ·exact ⟨none,0,by rw [h0]⟩
   ·exact ⟨_,_,rfl⟩
  exact ⟨Aw,cw,e,St.ofRow hrow hc⟩

/-- A word of a row of words. -/
theorem word_at {G:Nat→Prop} {W w:World} {L:List Ch} {k:Nat} {A:Option Addr} {n c:Nat} {l:List Wd} (s:St G W w L) (hk:L[k]?=some (rowC 46 3 A n c (l.flatMap encW))) {i:Nat} (hi:i<l.length) :
  n=l.length∧∃g,A=some ⟨g,0,none⟩∧w.cell? ⟨g,i*3,none⟩=some (.int .i64 l[i].1)∧w.cell? ⟨g,i*3+1,none⟩=some (.string l[i].2.1)∧w.cell? ⟨g,i*3+2,none⟩=some (.int .i64 l[i].2.2):=by
 obtain ⟨F,ho,_⟩:=s.get hk
 have hn:=(row_size ho).1
 have hfl:∀l:List Wd,(l.flatMap encW).length=l.length*3:=fun l=>by
  induction l with
  | nil=>rfl
  | cons x l ih=>rw [List.flatMap_cons,List.length_append,ih,List.length_cons];show 3+_=_;omega
 rw [hfl] at hn
 obtain ⟨g,hg,hc,_⟩:=row_elem ho (fun _ _=>rfl) (by omega) (List.getElem?_eq_getElem hi)
 exact ⟨by omega,g,hg,hc 0 _ rfl,hc 1 _ rfl,hc 2 _ rfl⟩

theorem word_sz {s:ByteArray} {x:Wd} (hx:x∈(wordsS s).1):x.2.1.size≤16:=by
 have h:=words_wp s x hx
 obtain ⟨h1,h2,h3,h4,h5,_⟩:=h
 rcases h5 with h5 | h5 | h5 | h5
 ·exact (h1 h5).2.1
 ·exact (h2 h5).2.1
 ·have:=h3 h5
  unfold whole at this
  rw [List.any_eq_true] at this
  obtain ⟨o,ho,e⟩:=this
  have e':o=x.2.1:=toList_inj.1 (by simpa using e:x.2.1.toList=o.toList).symm
  rw [←e']
  revert ho
  have:∀o∈ordersL,o.size≤16:=by decide
  exact this o
 ·have:=(h4 h5).1;omega

end Go.Proofs.YtckbgeedlobfaaaDoor

/-
  SpecSpread: gaps.
-/
namespace Go.Proofs.YtckbgeedlobfaaaDoor
open Go.Px Go.Px.Scan Go.Px.Spec Go.RowKit
attribute [-go_sem] Builtin.append_ law04_gap.b2 law04_gap.b1_1

def gapsL:List ByteArray:=[⟨#[32]⟩,⟨#[10]⟩,⟨#[9,32]⟩,⟨#[32,35,32,97,32,39,98,32,58,32,59,10]⟩,⟨#[13,10,10]⟩,⟨#[35,10]⟩]
def behindB (g:ByteArray):Bool:=decide (0<g.size) && (blankN (bt g 0) || decide (bt g 0=35))
theorem behind_of {g:ByteArray} (h:behindB g=true):Behind g∧0<g.size:=by
 simp [behindB] at h
 exact ⟨Or.inr h.2,h.1⟩
theorem gaps_ok:∀g∈gapsL,behindB g=true∧gapRun (bytesN g) false=some false∧g.size≤12:=by decide +kernel

theorem bGaps (w:World):(Instr.buildSlice 24 6 #[(0,Value.string ⟨#[32]⟩),(1,Value.string ⟨#[10]⟩),(2,Value.string ⟨#[9,32]⟩),(3,Value.string ⟨#[32,35,32,97,32,39,98,32,58,32,59,10]⟩),(4,Value.string ⟨#[13,10,10]⟩),(5,Value.string ⟨#[35,10]⟩)]).run Tryd.prog w =
  .ok (.slice (some ⟨w.heap.size,0,none⟩) 6 6) (w.alloc (.cells (gapsL.map Value.string).toArray 9)):=by simp [go_sem,gapsL]

theorem gap_ct {n:Int} (hn:inI64 n) (w:World):Ct Tryd.prog law04_gap.id #[.int .i64 n] w fun v w'=>(∃g,v = .string g∧g∈gapsL)∧Chg noB w w':=by
 refine law04_gap.ct fun R hR=>?_
 unfold inI64 at hn
 have s1:=(St.refl noB w).lit 9 1 6 (gapsL.map Value.string).toArray (by decide) rfl
 have b2:∀x:Int,0≤x→x≤9223372036854775807→∀w1,St noB w w1 [rowC 9 1 (some ⟨w.heap.size,0,none⟩) 6 6 (gapsL.map Value.string)]→law04_gap.b2 R (.int .i64 x) (.slice (some ⟨w.heap.size,0,none⟩) 6 6) w1:=fun x h0 h1 w1 s=>by
  have t0:0≤x.tmod 6∧x.tmod 6<6:=⟨Int.tmod_nonneg _ h0,Int.tmod_lt_of_pos _ (by decide)⟩
  obtain ⟨k,hk⟩:∃k:Nat,x.tmod 6=k:=⟨(x.tmod 6).toNat,by omega⟩
  have hk6:k<(gapsL.map Value.string).length:=by simp [gapsL];omega
  obtain ⟨g,hg,cc,_⟩:=s.rowAt 0 rfl hk6
  injection hg with hg;injection hg with hg;subst hg
  have hk7:k<gapsL.length:=by simpa using hk6
  rw [List.getElem_map] at cc
  unfold law04_gap.b2
  have hk8:(k:Int)<6:=by rw [←hk];exact t0.2
  simp -dsimp [go_sem,hk,hk8,cc]
  exact hR _ _ ⟨⟨_,rfl,List.getElem_mem hk7⟩,s.chg⟩
 unfold law04_gap.run law04_gap.b1
 rw [RUN_eq,bGaps,RES_ok]
 simp -dsimp [go_sem]
 refine SPL_intro (fun h=>?_) (fun h=>?_) <;> simp at h
 ·have wk:IntKind.i64.wrap (n+1)=n+1:=IntWalk.i64_in _ (by omega)
  have wn:IntKind.i64.wrap (-(n+1)) = -(n+1):=IntWalk.i64_in _ (by omega)
  unfold law04_gap.b1_1
  simp -dsimp [go_sem,wk,wn]
  exact b2 _ (by omega) (by omega) _ s1
 ·exact b2 _ h (by omega) _ s1
end Go.Proofs.YtckbgeedlobfaaaDoor

/-
  SpecSpread.
-/
namespace Go.Px.Scan
open Go.Px
theorem all_sorted {s:ByteArray} (i:Nat):(∀x∈(allS s i).1,(i:Int)≤x.2.2)∧(allS s i).1.Pairwise (fun x y=>x.2.2<y.2.2):=by
 induction i using allS.induct s with
 | case1 i h k0 h1=>rw [all_bad h h1];simp
 | case2 i h kd a b n h1 ih =>
  rw [all_word h h1]
  have hw:=one_word h h1
  have hg:=skip_ge s false i
  refine ⟨fun x hx=>?_,List.pairwise_cons.2 ⟨fun y hy=>?_,ih.2⟩⟩
  ·rcases List.mem_cons.1 hx with rfl | hx
   ·simp;omega
   ·have:=ih.1 x hx;omega
  ·have:=ih.1 y hy
   show ((skipS s false i:Nat):Int)<_
   omega
 | case3 i h=>rw [all_end h];simp
end Go.Px.Scan
namespace Go.Proofs.YtckbgeedlobfaaaDoor
open Go.Px Go.Px.Scan Go.Px.Spec Go.RowKit
attribute [-go_sem] Builtin.append_ law04_SpecSpread.b1_1 law04_SpecSpread.b4 law04_SpecSpread.b4_5 law04_SpecSpread.b4_4 law04_SpecSpread.b4_3 law04_SpecSpread.b4_2 law04_SpecSpread.b4_1 law04_SpecSpread.b3 law04_SpecSpread.b3_1 law04_SpecSpread.b10 law04_SpecSpread.b14 law04_SpecSpread.b13 law04_SpecSpread.b13_1 law04_SpecSpread.b12 law04_SpecSpread.b12_1 law04_SpecSpread.b16 law04_SpecSpread.b15_1 law04_SpecSpread.b5

/-- A word by itself. -/
theorem okw_wp {x:Wd} (h:WP x):∃kd:Nat,x.1=(kd:Int)∧OKW (wr x) kd x.2.1∧(wr x).size≤18:=by
 obtain ⟨h1,h2,h3,h4,h5,_⟩:=h
 have hno:∀n:Int,x.1=n→n≠2→wr x=x.2.1:=fun n hn h2=>by unfold wr;rw [if_neg (by omega)]
 rcases h5 with h5 | h5 | h5 | h5
 ·rw [hno 1 h5 (by omega)]
  exact ⟨1,h5,okw_name (h1 h5),by have:=(h1 h5).2.1;omega⟩
 ·have hw:wr x=quo x.2.1:=by unfold wr;rw [if_pos h5]
  rw [hw]
  exact ⟨2,h5,okw_quo (h2 h5),by rw [quo_size];have:=(h2 h5).2.1;omega⟩
 ·rw [hno 3 h5 (by omega)]
  have:=h3 h5
  unfold whole at this
  rw [List.any_eq_true] at this
  obtain ⟨o,ho,e⟩:=this
  have e':o=x.2.1:=toList_inj.1 (by simpa using e:x.2.1.toList=o.toList).symm
  rw [←e']
  have hall:∀o∈ordersL,okwB o 3=true∧o.size≤18:=by decide +kernel
  have:=hall o ho
  exact ⟨3,h5,okw_of this.1,this.2⟩
 ·rw [hno 4 h5 (by omega)]
  obtain ⟨e1,e2⟩:=h4 h5
  refine ⟨4,h5,⟨by omega,?_,?_,0,x.2.1.size,?_,extract_all _⟩,by omega⟩
  ·simp [signN,blankN] at *;omega
  ·simp [signN] at e2;omega
  ·unfold oneS;rw [if_pos e2,e1]

theorem spread_last {T:ByteArray} {W:List Wd} (h:Spread T W) (hT:T.size≤8192):wordsS T=(W,none):=by
 rw [small_words (by omega)]
 have:=spread_end (U:=⟨#[]⟩) (cm:=false) h (Or.inl rfl) rfl
 have e:T++(⟨#[]⟩:ByteArray)=T:=by apply bs_ext;simp [ByteArray.data_append]
 rw [e] at this;exact this

/-- The end of it. -/
theorem spread_fin {s T:ByteArray} {l W:List Wd} {a:Int} (hs:wordsS s=(l,none)) (hsz:s.size≤8192) (hT:T.size≤8192) (hsp:Spread T W) (he:W.map erW=l.map erW)
  (ha:∀(j:Nat) (h:j<l.length) (h':j<W.length),l[j].2.2=badS s→a=W[j].2.2) (hn:(∀x∈l,x.2.2≠badS s)→a = -1) :
  badS T=(if badS s=s.size then (T.size:Int) else a)∧((if badS s=s.size then (T.size:Int) else a)<0↔badS s<0):=by
 have hw:=spread_last hsp hT
 obtain ⟨m,m',hm,hc⟩:=two_texts hs hw he.symm
 have hlt:∀x∈l,x.2.2<(s.size:Int)∧0≤x.2.2:=fun x hx=>by
  have e:(allS s 0).1=l:=by rw [←small_words (by omega:¬8192<s.size),hs]
  exact ⟨all_lt s 0 x (by rw [e];exact hx),words_at s x (by rw [hs];exact hx)⟩
 have hle:W.length=l.length:=by have:=congrArg List.length he;simpa using this
 rcases hc with ⟨A,x,C,A',x',C',a1,b1,hl,g1,g2⟩ | ⟨g1,g2⟩
 ·have p1:badS s=x.2.2:=bad_stuck (m:=m) (C:=C) (by rw [hs];exact g1)
  have p2:badS T=x'.2.2:=bad_stuck (m:=m') (C:=C') (by rw [hw];exact g2)
  have hx:=hlt x (by rw [a1];simp)
  have hx':=words_at T x' (by rw [hw,b1];simp)
  have hj:A.length<l.length:=by rw [a1];simp
  have hj':A.length<W.length:=by omega
  have e1:l[A.length]=x:=by simp [a1]
  have e2:W[A.length]=x':=by simp [b1,hl]
  have:=ha A.length hj hj' (by rw [e1,p1])
  rw [e2] at this
  rw [if_neg (by omega),p2,this]
  exact ⟨rfl,by omega⟩
 ·have hb:∀{s:ByteArray} {l:List Wd} {m:Mc},wordsS s=(l,none)→goM m0 l=(m,[])→badS s=if endOk m then -1 else (s.size:Int):=fun {s l m} hs hg=>by
   unfold badS;rw [hs];simp only [hg]
  have b1:=hb hs g1
  have b2:=hb hw g2
  have hen:endOk m=endOk m':=by rw [←er_end m,hm,er_end]
  have hno:∀x∈l,x.2.2≠badS s:=fun x hx=>by
   have:=hlt x hx
   rw [b1];split <;> omega
  have hna:=hn hno
  by_cases hE:endOk m=true
  ·rw [if_pos hE] at b1
   rw [←hen,if_pos hE] at b2
   rw [if_neg (by omega),b2,hna,b1]
   exact ⟨rfl,Iff.rfl⟩
  ·rw [if_neg hE] at b1
   rw [←hen,if_neg hE] at b2
   rw [if_pos b1,b2,b1]
   exact ⟨rfl,by omega⟩
end Go.Proofs.YtckbgeedlobfaaaDoor

/-
  SpecSpread.
-/
namespace Go.Proofs.YtckbgeedlobfaaaDoor
open Go.Px Go.Px.Scan Go.Px.Spec Go.RowKit
attribute [-go_sem] Builtin.append_ law04_SpecSpread.b1_1 law04_SpecSpread.b4 law04_SpecSpread.b4_5 law04_SpecSpread.b4_4 law04_SpecSpread.b4_3 law04_SpecSpread.b4_2 law04_SpecSpread.b4_1 law04_SpecSpread.b3 law04_SpecSpread.b3_1 law04_SpecSpread.b10 law04_SpecSpread.b14 law04_SpecSpread.b13 law04_SpecSpread.b13_1 law04_SpecSpread.b12 law04_SpecSpread.b12_1 law04_SpecSpread.b16 law04_SpecSpread.b15_1 law04_SpecSpread.b5

section
variable {s T:ByteArray} {w1 w2:World} {B:Nat} {R:EP} {l W:List Wd} {a:Int}
/-- The two texts are read. -/
theorem spread_read (hs:s.size≤maxLen) (ht:T.size≤maxLen) (ord:∀w',Chg noB w1 w'→Ord w' B∧B≤w'.heap.size) (fin:∀w',Chg noB w1 w'→R (.returned (.bool true)) w') (h1:(refG s).1=(refG T).1) (h2:(refG s).2.1=(refG T).2.1)
  (hb:badS T=a) (ha:(a<0↔badS s<0)) (hc2:Chg noB w1 w2):law04_SpecSpread.b4 R (.string s) (.bool true) (.string T) (.int .i64 a) (.int .i64 (badS s)) w2:=by
 unfold law04_SpecSpread.b4
 have o2:=ord w2 hc2
 refine CALL_of (Read_as hs o2.1 o2.2) ?_
 rintro _ w3 ⟨vg,rfl,hr,hc3⟩
 generalize refG s=x at *
 obtain ⟨A1,c1,A2,c2,A3,c3,A4,c4,rfl,_⟩:=(rGram_open hr).ex
 unfold law04_SpecSpread.b4_5
 refine take2 (L:=[]) (St.refl noB w3) fun q1 q2 w4 hc4 s4=>?_
 have hcc4:=hc2.trans (hc3.trans hc4)
 have o4:=ord w4 hcc4
 refine CALL_of (Read_as ht o4.1 o4.2) ?_
 rintro _ w5 ⟨vh,rfl,hr5,hc5⟩
 generalize refG T=y at *
 obtain ⟨B1,d1,B2,d2,B3,d3,B4,d4,rfl,_⟩:=(rGram_open hr5).ex
 unfold law04_SpecSpread.b4_4
 refine take2 (s4.old hc5) fun q3 q4 w6 hc6 s6=>?_
 have l1:=loadG s6 (k:=0) rfl
 have l2:=loadG s6 (k:=2) rfl
 rw [RUN_eq,l1,RES_ok,RUN_eq,l2,RES_ok]
 have hb1:=(hc4.trans (hc5.trans hc6)).below (Nat.le_refl _) fun _ _=>id
 have z1:w3.heap.size≤w5.heap.size:=(hc4.trans hc5).size
 have hb2:=hc6.below (Nat.le_refl _) fun _ _=>id
 refine CALL_of (refSame_ct (rGram_up (rGram_below hr hb1) z1) (rGram_below hr5 hb2) hc6.size) ?_
 rintro _ w7 ⟨rfl,hc7⟩
 rw [sameB_iff.2 h1]
 have s7:=s6.old hc7
 have k1:=(s7.box 1 rfl).1
 have k3:=(s7.box 3 rfl).1
 simp [boxAt,mB] at k1 k3
 have hcc:=hcc4.trans (hc5.trans (hc6.trans hc7))
 simp -dsimp [go_sem]
 unfold law04_SpecSpread.b4_3
 simp -dsimp [go_sem,k1,k3,h2]
 unfold law04_SpecSpread.b4_2
 have o7:=ord w7 hcc
 refine CALL_of (Bad_ct ht o7.1 o7.2) ?_
 rintro _ w8 ⟨rfl,hc8⟩
 rw [hb]
 simp -dsimp [go_sem]
 unfold law04_SpecSpread.b4_1
 simp -dsimp [go_sem]
 have e:(decide (a<0) == decide (badS s<0))=true:=by
  by_cases h:a<0
  ·simp [h,ha.1 h]
  ·have:=fun h'=>h (ha.2 h')
   simp [h];omega
 rw [e]
 exact fin _ (hcc.trans hc8)
end

theorem SpecSpread_ct {s:ByteArray} {g:List Int} {w:World} {B:Nat} {vg:Value} (hs:s.size≤maxLen) (hg:(rSlice rInt).at1 w B vg g) (hO:Ord w B) (hB:B≤w.heap.size) :
  Ct Tryd.prog law04_SpecSpread.id #[.string s,vg] w fun v w'=>v = .bool true∧Chg noB w w':=by
 refine law04_SpecSpread.ct fun R hR=>?_
 obtain ⟨Ag,cg,rfl,hgc,hgm,_⟩:=slice_form hg
 unfold law04_SpecSpread.run law04_SpecSpread.b1
 refine CALL_of (awake_ct hO hB) ?_
 rintro _ w1 ⟨rfl,hc1⟩
 have ord:∀w',Chg noB w1 w'→Ord w' B∧B≤w'.heap.size:=fun w' hc=>⟨hO.chg (hc1.trans hc) hB fun _ _=>id,by have:=(hc1.trans hc).size;omega⟩
 have fin:∀w',Chg noB w1 w'→R (.returned (.bool true)) w':=fun w' hc=>hR _ _ ⟨rfl,hc1.trans hc⟩
 refine CALL_of (refAll_ct hs w1) ?_
 rintro _ w2 ⟨A,c,rfl,s2⟩
 have hc2:=s2.chg
 have hlen:=words_len s
 have hlo:=bad_lo s
 have hhi:=(bad_hi s).2
 unfold law04_SpecSpread.b1_1
 simp -dsimp [go_sem]
 cases hbd:(wordsS s).2 with
 | some k =>
  have hk0:(0:Int)≤k:=by omega
  unfold badV
  simp -dsimp [hk0,go_sem]
  exact fin _ hc2
 | none =>
 obtain ⟨l,hl⟩:∃l,wordsS s=(l,none):=⟨(wordsS s).1,by rw [←hbd]⟩
 have hsz:s.size≤8192:=by
  refine Classical.byContradiction fun h=>?_
  rw [big_words (by omega)] at hl;cases hl
 have hwp:=words_wp s
 have hls:=(all_sorted (s:=s) 0).2
 rw [←small_words (by omega),hl] at hls
 rw [hl] at s2 hlen hwp ⊢
 have hls:l.Pairwise fun x y=>x.2.2<y.2.2:=hls
 unfold badV
 simp -dsimp [go_sem]
 have o2:=ord w2 hc2
 refine CALL_of (Bad_ct hs o2.1 o2.2) ?_
 rintro _ w3 ⟨rfl,hc3⟩
 have s3:=s2.old hc3
 have hll:l.length≤8192:=hlen
 unfold law04_SpecSpread.b5
 refine law04_SpecSpread.l7_intro _ _ _ _ _ _ _ _ _ _
  (fun y8 y9 y11 w'=>∃(i:Nat) (T:ByteArray) (W:List Wd) (a:Int),y8 = .string T∧y9 = .int .i64 a∧y11 = .int .i64 i∧i≤l.length∧T.size≤8300∧Spread T W∧W.map erW=(l.take i).map erW ∧
   (∀(j:Nat) (h:j<l.length) (h':j<W.length),l[j].2.2=badS s→a=W[j].2.2)∧((∀(j:Nat) (h:j<l.length),j<i→l[j].2.2≠badS s)→a = -1)∧St noB w1 w' [rowC 46 3 A l.length c (l.flatMap encW)])
  (fun _ _ y11 _=>l.length-iv y11) ⟨0,⟨#[]⟩,[],-1,rfl,rfl,rfl,by omega,by decide,spread_nil,by simp,fun j _ h'=>by simp at h',fun _=>rfl,s3⟩ ?_
 rintro _ _ _ w4 ⟨i,T,W,a,rfl,rfl,rfl,hi,hT,hsp,hW,ha1,ha2,s4⟩ C7 hC
 have hWl:W.length=i:=by have:=congrArg List.length hW;simp at this;omega
 have hend:T.size≤8192→i=l.length→law04_SpecSpread.b3 R (.string s) (.bool true) (.string T) (.int .i64 a) (.int .i64 (badS s)) w4:=fun h1 h2=>by
  subst h2
  have hn:(∀x∈l,x.2.2≠badS s)→a = -1:=fun h=>ha2 fun j hj _=>h _ (List.getElem_mem hj)
  have hW':W.map erW=l.map erW:=by rw [hW,List.take_length]
  have hf:=spread_fin hl hsz h1 hsp hW' ha1 hn
  have hal:=ref_alike hl (spread_last hsp h1) hW'.symm
  have hTm:T.size≤maxLen:=by unfold maxLen;omega
  have p1:¬(8192:Int)<T.size:=by omega
  unfold law04_SpecSpread.b3
  simp -dsimp [go_sem,p1]
  unfold law04_SpecSpread.b3_1
  simp -dsimp [go_sem]
  refine SPL_intro (fun h3=>?_) (fun h3=>?_) <;> simp at h3
  ·rw [if_pos h3] at hf
   simp -dsimp [go_sem]
   exact spread_read hs hTm ord fin hal.1 hal.2 hf.1 hf.2 s4.chg
  ·rw [if_neg h3] at hf
   exact spread_read hs hTm ord fin hal.1 hal.2 hf.1 hf.2 s4.chg
 unfold law04_SpecSpread.b15
 simp -dsimp [go_sem]
 refine SPL_intro (fun p1=>?_) (fun p1=>?_) <;> simp at p1
 ·unfold law04_SpecSpread.b15_1
  simp -dsimp [go_sem]
  unfold law04_SpecSpread.b16
  refine SPL_intro (fun p2=>?_) (fun p2=>?_) <;> simp at p2
  ·have hT8:T.size≤8192:=by omega
   have hxl:=List.getElem_mem p1
   obtain ⟨kd,k1,k2,k3⟩:=okw_wp (hwp _ hxl)
   have wi:IntKind.i64.wrap ((i:Int)+1)=(i:Int)+1:=IntWalk.i64_in _ (by omega)
   have go13:∀(n:Int),inI64 n→∀w5,St noB w1 w5 [rowC 46 3 A l.length c (l.flatMap encW)] →
     law04_SpecSpread.b13 R C7 (.slice A l.length c) (.string T) (.int .i64 a) (.int .i64 (badS s)) (.int .i64 i) (.int .i64 n) w5:=fun n hn w5 s5=>by
    unfold law04_SpecSpread.b13
    refine CALL_of (gap_ct hn w5) ?_
    rintro _ w6 ⟨⟨g,rfl,hgm⟩,hc6⟩
    obtain ⟨g1,g2,g3⟩:=gaps_ok g hgm
    obtain ⟨g4,g5⟩:=behind_of g1
    have s6:=s5.old hc6
    obtain ⟨_,gg,rfl,e0,e1,e2⟩:=word_at s6 (k:=0) rfl p1
    have hsz1:(T++g).size=T.size+g.size:=ByteArray.size_append
    have htx:l[i].2.1.size≤100:=by have:=word_sz (s:=s) (x:=l[i]) (by rw [hl];exact hxl);omega
    have hwv:Value.agg #[.int .i64 l[i].1,.string l[i].2.1,.int .i64 l[i].2.2]=wdV l[i]:=rfl
    have hsp':=spread_step hsp k2 g2 (Or.inr ⟨g4,g5⟩)
    have hsz2:(T++g++wr l[i]).size=T.size+g.size+(wr l[i]).size:=by rw [ByteArray.size_append,hsz1]
    have hW':(W++[((kd:Int),l[i].2.1,((T.size+g.size:Nat):Int))]).map erW=(l.take (i+1)).map erW:=by
     rw [List.take_succ_eq_append_getElem p1,List.map_append,List.map_append,hW,←k1];rfl
    have rest:∀a':Int,(∀(j:Nat) (h:j<l.length) (h':j<(W++[((kd:Int),l[i].2.1,((T.size+g.size:Nat):Int))]).length),l[j].2.2=badS s→a'=(W++[((kd:Int),l[i].2.1,((T.size+g.size:Nat):Int))])[j].2.2) →
      ((∀(j:Nat) (h:j<l.length),j<i+1→l[j].2.2≠badS s)→a' = -1)→law04_SpecSpread.b14 R C7 (.slice (some ⟨gg,0,none⟩) l.length c) (.string (T++g)) (.int .i64 a') (.int .i64 i) w6:=fun a' h1 h2=>by
     unfold law04_SpecSpread.b14
     simp -dsimp [go_sem,p1,Nat.not_le.2 p1,e0,e1,e2]
     rw [hwv]
     refine CALL_of (written_ct htx) ?_
     rintro _ w7 ⟨rfl,hc7⟩
     rw [RUN_eq,addS _ _ (by rw [hsz1];unfold maxLen;omega),RES_ok]
     unfold law04_SpecSpread.b10
     simp -dsimp [go_sem,wi]
     refine hC _ _ _ _ ⟨i+1,_,_,a',rfl,rfl,by simp,p1,by rw [hsz2];omega,hsp',hW',h1,h2,s6.old hc7⟩ (by simp [iv];omega)
    unfold law04_SpecSpread.b13_1
    rw [RUN_eq,addS _ _ (by unfold maxLen;omega),RES_ok]
    simp -dsimp [go_sem,p1,Nat.not_le.2 p1,e2]
    refine SPL_intro (fun p3=>?_) (fun p3=>?_) <;> simp at p3
    ·simp -dsimp [go_sem,hsz1]
     have:=rest ((T.size:Int)+g.size) (fun j h h' hj=>?_) (fun h=>absurd p3 (h i p1 (by omega)))
     ·exact this
     ·have hij:j=i:=by
       rcases Nat.lt_trichotomy j i with h3 | h3 | h3
       ·have:=List.pairwise_iff_getElem.1 hls j i h p1 h3;omega
       ·exact h3
       ·have:=List.pairwise_iff_getElem.1 hls i j p1 h h3;omega
      subst hij
      rw [List.getElem_append_right (by omega)]
      simp [hWl]
    ·refine rest a (fun j h h' hj=>?_) (fun h=>ha2 fun j hj hji=>h j hj (by omega))
     have hji:j≠i:=fun e=>by subst e;exact p3 hj
     have hjW:j<W.length:=by simp at h';omega
     rw [List.getElem_append_left hjW]
     exact ha1 j h hjW hj
   unfold law04_SpecSpread.b12
   simp -dsimp [go_sem]
   refine SPL_intro (fun p3=>?_) (fun p3=>?_) <;> simp at p3
   ·obtain ⟨r,hr⟩:∃r,i % g.length=r:=⟨_,rfl⟩
    have hm:r<g.length:=by rw [←hr];exact Nat.mod_lt _ p3
    have hbb:Below B w w4:=(hc1.trans s4.chg).below hB fun _ _=>id
    have hg4:(rSlice rInt).at1 w4 B (.slice Ag g.length cg) g:=Rep.below hg hbb
    obtain ⟨gb,go,rfl,_,gc,gi⟩:=Go.Px.ints_at hg4 hm
    have hmod2:(i:Int) % (g.length:Int)=(r:Int):=by rw [←hr];exact (Int.natCast_emod i g.length).symm
    have hmod3:(i:Int).tmod (g.length:Int)=(r:Int):=by rw [←hmod2];exact Int.tmod_eq_emod_of_nonneg (by omega)
    have hgn:g≠[]:=fun e=>by rw [e] at p3;exact absurd p3 (by decide)
    unfold law04_SpecSpread.b12_1
    simp -dsimp [go_sem,hmod2,hmod3,hgn,hm,Nat.not_le.2 hm,gc]
    exact go13 _ gi _ s4
   ·exact go13 0 (by unfold inI64;omega) _ s4
  ·have p3:(8192:Int)<T.size:=by omega
   unfold law04_SpecSpread.b3
   simp -dsimp [go_sem,p3]
   exact fin _ s4.chg
 ·have hil:i=l.length:=by omega
  unfold law04_SpecSpread.b16
  simp -dsimp [go_sem]
  by_cases h1:T.size≤8192
  ·exact hend h1 hil
  ·have p3:(8192:Int)<T.size:=by omega
   unfold law04_SpecSpread.b3
   simp -dsimp [go_sem,p3]
   exact fin _ s4.chg
end Go.Proofs.YtckbgeedlobfaaaDoor

/-
  The law SpecSpread returns true for every text and list of numbers, and nothing that was there before the call has turned: the tied card; its condition is that scan.orders holds its seven texts when the call begins, and no argument takes more than a machine has.
-/
namespace Go.Proofs.YtckbgeedlobfaaaDoor.specSpread
open Go.Px Go.ChangeShapes Go.WideShapes Go.ChangeAt Go.RowKit Go.Px.Scan

set_option maxRecDepth 100000 in
theorem contract (H:Type) (enc:TypeId×Value→H) (W:World) (base:Nat) (args:Array Value) (ds gs:List (DataW H)) (before:List MemPlace)
  (hval:∀(j:Nat) t v,Tryd.f4.params[j]?=some t→args[j]?=some v→Value.okWide Tryd.prog W .any base t v)
  (hW:DataW.Whole enc Tryd.prog Tryd.f4.params.toList Rows.specSpreadSpec.vars false W args.toList ds gs before)
  (hwt:(DataW.weightsEach Tryd.prog (Tryd.f4.params.toList++(OpenSpec.ofChange Rows.specSpreadSpec).bare.plain.varTypes Tryd.prog) (ds++gs)).all (·≤reachBytes)=true) (hL:laidMetH Tryd.prog Rows.specSpreadRow.laid W) :
  Calls Tryd.prog 4 args W fun e W'=>∃v,e = .returned v∧Rows.specSpreadSpec.post enc Tryd.prog Tryd.f4 false true false false W args v W':=by
 have hW':=hW
 obtain ⟨p,q,hA0,hV,rfl,hfz,hnd⟩:=hW
 have hA:DataW.TrodAll enc Tryd.prog W 0 (fun _=>true) true Tryd.f4.params.toList args.toList ds p:=hA0
 rw [Tryd.params4] at hA hval hwt
 obtain ⟨v0,vs0,d0,ds0,p0,q0,hargs0,rfl,rfl,h0,r0⟩:=trodAll_cons hA
 obtain ⟨v1,vs1,d1,ds1,p1,q1,hargs1,rfl,rfl,h1,r1⟩:=trodAll_cons r0
 obtain ⟨rfl,rfl,rfl⟩:=trodAll_nil r1
 obtain rfl:args=#[v0,v1]:=by cases args;simp_all
 obtain ⟨rfl,rfl⟩:=trodVars_none hV
 have hwt':(DataW.weightsEach Tryd.prog ([9,25]++[]) ([d0,d1]++[])).all (·≤reachBytes)=true:=hwt
 simp only [List.append_nil,DataW.weightsEach,List.all_append,Bool.and_eq_true] at hwt'
 have ec0:v0.cells=#[v0]:=by obtain ⟨_,rfl⟩:=okWide_string Tryd.underlying9 (hval 0 9 v0 rfl rfl);rfl
 obtain ⟨a0,ha0,hf0,hb0⟩:=open_arg1 opens9 ec0 h0
 have hf0:=hf0 hwt'.1
 obtain ⟨rfl,hs0⟩:=str_at1 ha0
 have ec1:v1.cells=#[v1]:=by obtain ⟨_,_,_,rfl⟩:=okWide_slice Tryd.underlying25 (hval 1 25 v1 rfl rfl);rfl
 obtain ⟨a1,ha1,hf1,hb1⟩:=open_arg1 opens25 ec1 h1
 have hf1:=hf1 hwt'.2
 have hO:=ord_of_laid hL
 refine (SpecSpread_ct hs0 ha1 hO (Nat.le_refl _)).2.mono fun e W' he=>?_
 cases e with
 | returned v =>
  obtain ⟨rfl,hb⟩:=he
  exact ⟨_,rfl,law_post (t:=4) (by kernel_rfl) (fun t ht=>by
   rw [Tryd.params4] at ht
   simp only [List.mem_cons,List.not_mem_nil,or_false] at ht
   rcases ht with rfl | rfl <;> exact ⟨by kernel_rfl,by decide +kernel⟩) rfl Tryd.underlying4 rfl hW' rfl rfl rfl (hb.below (Nat.le_refl _) fun _ _=>id)⟩
 | _=>exact he.elim

theorem reads (os:Os) {H:Type} (enc:TypeId×Value→H):∃places,DataW.whole enc Tryd.prog ((laidWorld os).forCall (fun _ _=>0) ⟨#[],#[.string ⟨#[]⟩,.slice none 0 0],[]⟩).memory Tryd.f4.params.toList Rows.specSpreadSpec.vars false #[.string ⟨#[]⟩,.slice none 0 0].toList 8=some ([.lit (.string []),.nil],[],places) :=
 ⟨[],by kernel_rfl⟩

set_option maxRecDepth 100000 in
theorem lifted (os:Os) (started:os.Started) (H:Type) (enc:TypeId×Value→H) (F:Stop.Interp) :
  ReturnsInHanded {} Tryd.checked os 4 .any ((OpenSpec.ofChange Rows.specSpreadSpec).preRow enc Tryd.prog Tryd.f4 Rows.specSpreadRow.domain false Rows.specSpreadRow.laid) (((OpenSpec.ofChange Rows.specSpreadSpec).at F).post enc Tryd.prog Tryd.f4 false true false false):=by
 obtain ⟨places,hx⟩:=reads os enc
 refine returnsInHanded_of_row (C:=Tryd.checked) (s:=OpenSpec.ofChange Rows.specSpreadSpec) own started (by kernel_rfl) Tryd.func4
  (witness_row_atRef (enc:=enc) (C:=Tryd.checked) false (laidWorld os) #[.string ⟨#[]⟩,.slice none 0 0] rfl (by kernel_rfl) (by kernel_rfl) (by kernel_rfl)
   (OpenSpec.preRow_of_cond 8 hx (by kernel_rfl) (fun k hk=>by cases hk) (by kernel_rfl) (laid_met os _))) ?_
 intro W base args ds gs before hval hW _ _ hwt hL _ _
 exact contract H enc W base args ds gs before hval hW hwt hL

theorem said:Rows.SpecSpreadSaid :=
 OpenClaim.holds_of_cond 4 Tryd.f4 rfl rfl rfl rfl rfl rfl rfl ⟨rfl,rfl,rfl,rfl,rfl⟩ rfl rfl rfl rfl rfl (by kernel_rfl) Tryd.func4 (by kernel_rfl)
  (of_decide_eq_true (by kernel_rfl)) (by unfold Func.isWrapper;first | (rw [if_pos (by decide +kernel)];kernel_rfl) | (rw [if_neg (by decide +kernel)];exact ⟨rfl,rfl⟩))
  (fun os started H enc _ F=>by rw [OpenClaim.pre_eq_preRow];exact lifted os started H enc F)

theorem plain (f:FuncId) (fn:Func) (hf:Tryd.pinned.checked.prog.funcNamed "presage/presagelaw04.SpecSpread" = some f) (hfn:Tryd.pinned.checked.prog.funcs[f]?=some fn) :
  true=Tryd.pinned.checked.prog.looks []∧∀(j:Nat) t,fn.params[j]?=some t→Tryd.pinned.checked.prog.wantsStandIn t=false:=by
 obtain rfl:f=4:=Option.some.inj ((show Tryd.prog.funcNamed "presage/presagelaw04.SpecSpread" = some 4 by kernel_rfl).symm.trans hf) |>.symm
 obtain rfl:fn=Tryd.f4:=(Option.some.inj (Tryd.func4.symm.trans hfn)).symm
 refine ⟨by kernel_rfl,fun j t ht=>?_⟩
 rw [Tryd.params4] at ht
 have hm:=Array.mem_of_getElem? ht
 simp only [List.mem_toArray,List.mem_cons,List.not_mem_nil,or_false] at hm
 rcases hm with rfl | rfl
 ·exact (show Tryd.prog.wantsStandIn 9=false by kernel_rfl)
 ·exact (show Tryd.prog.wantsStandIn 25=false by kernel_rfl)

theorem card:Rows.SpecSpreadCardSaid :=
 Claim7.holds_tied_plain_at .later [] _ _ _ _ said (fun _ h=>by cases h) (by kernel_rfl) (fun _ h=>by cases h) specSpread_row_tie rfl ⟨rfl,rfl⟩ (by kernel_rfl) rfl plain (by kernel_rfl)

end Go.Proofs.YtckbgeedlobfaaaDoor.specSpread

namespace Go.Proofs.YtckbgeedlobfaaaDoor
theorem SpecSpread_holds:Rows.SpecSpreadCardSaid:=specSpread.card
end Go.Proofs.YtckbgeedlobfaaaDoor
#print axioms Go.Proofs.YtckbgeedlobfaaaDoor.SpecSpread_holds
