/-
  Texts of this claim: Tp2, Gr2, Gs3, Gs3b, Gs4, Gs5, Gr3, Gr4, Tm1.
-/
import Derived.Test.YtmoepnfobnpdiaaY11
import Derived.Test.YtmoepnfobnpdiaaY10
import Derived.Test.YtmoepnfobnpdiaaY08
import Derived.Test.YtmoepnfobnpdiaaY05
set_option maxHeartbeats 1000000
set_option linter.unusedSimpArgs false
set_option linter.unusedVariables false
set_option maxRecDepth 100000
/-
  Items with lookaheads: with.
-/
namespace Go.Px.Cn
open Go.Px
theorem srt_mid {l:List It1} (hs:l.Pairwise fLt) {a:It1} {lo:Nat} (hlo:lo≤l.length) (h1:∀i (h:i<l.length),i<lo→fLt l[i] a) (h2:∀i (h:i<l.length),lo≤i→¬fLt l[i] a) :
  insF a l=l.take lo++a::l.drop lo∧(a∈l↔∃h:lo<l.length,l[lo]=a):=by
 have e1:l.filter (fun z=>fLt z a)=l.take lo:=by
  conv=>lhs;rw [←List.take_append_drop lo l]
  rw [List.filter_append,List.filter_eq_self.2,List.filter_eq_nil_iff.2,List.append_nil]
  ·intro z hz
   obtain ⟨i,hi,rfl⟩:=List.getElem_of_mem hz
   rw [List.getElem_drop]
   have:=h2 (lo+i) (by rw [List.length_drop] at hi;omega) (by omega)
   simpa using this
  ·intro z hz
   obtain ⟨i,hi,rfl⟩:=List.getElem_of_mem hz
   rw [List.getElem_take]
   rw [List.length_take] at hi
   have:=h1 i (by omega) (by omega)
   simpa using this
 have e2:l.filter (fun z=>¬fLt z a)=l.drop lo:=by
  conv=>lhs;rw [←List.take_append_drop lo l]
  rw [List.filter_append,List.filter_eq_nil_iff.2,List.filter_eq_self.2,List.nil_append]
  ·intro z hz
   obtain ⟨i,hi,rfl⟩:=List.getElem_of_mem hz
   rw [List.getElem_drop]
   have:=h2 (lo+i) (by rw [List.length_drop] at hi;omega) (by omega)
   simpa using this
  ·intro z hz
   obtain ⟨i,hi,rfl⟩:=List.getElem_of_mem hz
   rw [List.getElem_take]
   rw [List.length_take] at hi
   have:=h1 i (by omega) (by omega)
   simpa using this
 refine ⟨by unfold insF;rw [e1,e2],fun ha=>?_,fun ⟨h,e⟩=>e ▸ List.getElem_mem h⟩
 obtain ⟨i,hi,e⟩:=List.getElem_of_mem ha
 have hge:¬i<lo:=fun h=>fLt_ir a (by have:=h1 i hi h;rw [e] at this;exact this)
 have hll:lo<l.length:=by omega
 refine ⟨hll,?_⟩
 by_cases e3:i=lo
 ·subst e3;exact e
 ·have:=(List.pairwise_iff_getElem.1 hs) lo i hll hi (by omega)
  rw [e] at this
  exact absurd this (h2 lo hll (Nat.le_refl _))
end Go.Px.Cn
namespace Go.Proofs.Ytmoepnfobnpdiaa
open Go.Px Go.Px.Scan Go.Px.Cn Go.RowKit
attribute [-go_sem] Builtin.append_ top_set_with.b4 top_set_with.b6 top_set_with.b5_1 top_set_with.b5 top_set_with.b9_1
theorem uSet:Try.prog.underlying 42=some (.slice 79):=Try.underlying42
theorem uFulls:Try.prog.underlying 41=some (.slice 79):=Try.underlying41
theorem iFull:(Try.prog.info? 79).map (fun i=>(i.zero,i.size,i.bytes))=some (some (.agg #[.int .i64 0,.int .i64 0,.int .i64 0]),3,24):=by kernel_rfl
theorem slice_take {α:Type} {r:Rep α} {w:World} {B n c k:Nat} {A:Option Addr} {l:List α} (h:(rSlice r).at1 w B (.slice A n c) l) (hk:k≤l.length):(rSlice r).at1 w B (.slice A (l.take k).length c) (l.take k):=by
 obtain ⟨A',c',hv,h1,h2,h3,h4⟩:=h
 injection hv with hv _
 injection hv with hA _ hc
 subst hA hc
 have hl:(l.take k).length=k:=by rw [List.length_take];omega
 refine ⟨_,c,rfl,by omega,h2,h3,fun hp=>?_⟩
 obtain ⟨b,o,e,hb,hcell⟩:=h4 (by omega)
 refine ⟨b,o,e,hb,fun i x hi=>hcell i x ?_⟩
 rw [List.getElem?_take] at hi
 split at hi
 ·exact hi
 ·cases hi
theorem slice_from' {α:Type} {r:Rep α} {w:World} {B c k:Nat} {A:Addr} {l:List α} (h:(rSlice r).at1 w B (.slice (some A) l.length c) l) (hk:k≤l.length) :
  (rSlice r).at1 w B (.slice (if c=k then some A else some (A.add (k*r.size))) (l.drop k).length (c-k)) (l.drop k):=by
 have hl:(l.drop k).length=l.length-k:=List.length_drop
 rw [hl]
 by_cases e:l.length=k
 ·obtain ⟨A',c',hv,h1,h2,h3,h4⟩:=h
  injection hv with hv _
  injection hv with hA _ hc
  subst hc
  exact ⟨_,c-k,by rw [hl],by omega,by omega,h3,fun hp=>by omega⟩
 ·obtain ⟨b,o,ys,hA,_⟩:=slice_at h (i:=0) (by omega)
  injection hA with hA
  subst hA
  have:=slice_from (o':=o+k*r.size) h hk rfl
  have e9:(⟨b,o,none⟩:Addr).add (k*r.size)=⟨b,o+k*r.size,none⟩:=by
   simp only [Addr.add]
   split
   ·next h9=>rw [h9];rfl
   ·rfl
  rw [e9];exact this
theorem full_ok {a:It1}:∀u∈fV a,u.oneCell'=true:=fun u hu=>by simp [fV] at hu;rcases hu with rfl | rfl | rfl <;> rfl
theorem with_ct {w:World} {B c:Nat} {A:Option Addr} {l:List It1} (h:(rSlice rFl).at1 w B (.slice A l.length c) l) (hB:B≤w.heap.size) (hl:l.length≤1000000) (hs:l.Pairwise fLt) (a:It1) :
  Ct Try.prog top_set_with.id #[.slice A l.length c,.agg #[.int .i64 a.1.1,.int .i64 a.1.2,.int .i64 a.2]] w fun v w' =>
   (a∈l∧v = .tuple #[.slice A l.length c,.bool false]∧Chg noB w w') ∨
   (a∉l∧∃gb cap,v = .tuple #[.slice (some ⟨gb,0,none⟩) (l.length+1) cap,.bool true]∧St noB w w' [rowC 79 3 (some ⟨gb,0,none⟩) (l.length+1) cap ((insF a l).flatMap fV)]):=by
 refine top_set_with.ct fun R hR=>?_
 have s1:=(St.refl noB w).alloc #[.int .i64 a.1.1,.int .i64 a.1.2,.int .i64 a.2] 79
 unfold top_set_with.run
 simp -dsimp [go_sem]
 generalize w.alloc (.cells #[.int .i64 a.1.1,.int .i64 a.1.2,.int .i64 a.2] 79)=w1 at s1 ⊢
 generalize hq:w.heap.size=q at s1 ⊢
 refine top_set_with.l8_intro _ _ _ _ _ _ (fun x y w'=>∃lo hi:Nat,x = .int .i64 lo∧y = .int .i64 hi∧lo≤hi∧hi≤l.length∧(∀i (h:i<l.length),i<lo→fLt l[i] a)∧(∀i (h:i<l.length),hi≤i→¬fLt l[i] a)∧St noB w w' [boxC q 79 [.int .i64 a.1.1,.int .i64 a.1.2,.int .i64 a.2]]) (fun x y _=>iv y-iv x)
  ⟨0,l.length,rfl,rfl,by omega,by omega,fun i h h2=>by omega,fun i h h2=>by omega,s1⟩ ?_
 rintro _ _ w2 ⟨lo,hi,rfl,rfl,hlh,hhl,h1,h2,s2⟩ C hC
 have y2:=(s2.box 0 rfl).1
 simp [boxAt] at y2
 simp -dsimp [go_sem]
 refine SPL_intro (fun p1=>?_) (fun p1=>?_) <;> simp at p1
 ·have wm:IntKind.i64.wrap ((lo:Int)+hi)=((lo+hi:Nat):Int):=by rw [IntWalk.i64_in _ (by omega)];omega
  obtain ⟨m,hme⟩:∃m,(lo+hi) / 2=m:=⟨_,rfl⟩
  have wd:IntKind.i64.wrap (((lo:Int)+hi).tdiv 2)=(m:Int):=by
   rw [Int.tdiv_eq_ediv_of_nonneg (by omega),show ((lo:Int)+hi) / 2=((lo+hi) / 2:Nat) by omega,hme]
   exact IntWalk.i64_in _ (by omega)
  have wm':IntKind.i64.wrap ((lo:Int)+hi)=(lo:Int)+hi:=IntWalk.i64_in _ (by omega)
  have w1:IntKind.i64.wrap ((m:Int)+1)=(m:Int)+1:=IntWalk.i64_in _ (by omega)
  have hml:m<l.length:=by omega
  obtain ⟨b,o,rfl,hb,k1,k2,k3⟩:=fls_at h hml
  have k1:=s2.chg.at k1 id
  have k2:=s2.chg.at k2 id
  have k3:=s2.chg.at k3 id
  have s3:=s2.old (Chg.refl noB w2).drew
  obtain ⟨z,hz⟩:∃z,l[m]=z:=⟨_,rfl⟩
  rw [hz] at k1 k2 k3
  unfold top_set_with.b9_1
  simp -dsimp [go_sem,wm',wd,hml,k1,k2,k3,y2]
  refine CALL_of (before_ct z a _) ?_
  rintro _ w3 ⟨⟨r,rfl,hr⟩,hc3⟩
  have s4:=s3.old hc3
  cases r with
  | true =>
   have hza:=hr.1 rfl
   simp -dsimp [go_sem,w1]
   refine hC _ _ _ ⟨m+1,hi,by simp,rfl,by omega,hhl,fun i h3 h4=>?_,h2,s4⟩ (by simp [iv];omega)
   by_cases e:i=m
   ·subst e;rw [hz];exact hza
   ·have:=(List.pairwise_iff_getElem.1 hs) i m h3 hml (by omega)
    rw [hz] at this
    exact fLt_tr _ _ _ this hza
  | false =>
   simp -dsimp [go_sem]
   refine hC _ _ _ ⟨lo,m,rfl,rfl,by omega,by omega,h1,fun i h3 h4 h5=>?_,s4⟩ (by simp [iv];omega)
   have hna:¬fLt z a:=fun e=>by have:=hr.2 e;cases this
   by_cases e:i=m
   ·subst e;rw [hz] at h5;exact hna h5
   ·have:=(List.pairwise_iff_getElem.1 hs) m i hml h3 (by omega)
    rw [hz] at this
    exact hna (fLt_tr _ _ _ this h5)
 ·have hle:hi=lo:=by omega
  subst hle
  obtain ⟨hins,hmem⟩:=srt_mid hs hhl h1 h2
  have s3:=s2.old (Chg.refl noB w2).drew
  have fin:a∉l→∀w',St noB w w' [boxC q 79 [.int .i64 a.1.1,.int .i64 a.1.2,.int .i64 a.2]]→top_set_with.b4 R (.slice A l.length c) (.pointer (some ⟨q,0,none⟩)) (.int .i64 hi) w':=by
   intro hna w4 s4
   have y4:=(s4.box 0 rfl).1
   simp [boxAt] at y4
   obtain ⟨A',c',hv,hlc,hcm,_⟩:=slice_form h
   injection hv with _ _ hv
   subst hv
   have s5:=s4.nilRow 79 3
   have key:∀x0 v1 v3:Value,(rSlice rFl).at1 w B v1 (l.take hi)→(rSlice rFl).at1 w B v3 (l.drop hi)→(∀w,Sem.run Try.prog (Instr.sliceAt 42 x0 (some (.int .i64 hi)) none none) w = .ok v3 w)→RES (pan R) (Sem.run Try.prog (Builtin.append_ #[42,42] 42 #[Value.slice none 0 0,v1]) w4) fun v3' w4 =>
     RUN Try.prog (pan R) (Instr.loadAt 79 (Value.pointer (some ⟨q,0,none⟩))) w4 fun v5 w6 =>
     RUN Try.prog (pan R) (Instr.buildSlice 42 1 #[(0,v5)]) w6 fun v7 w8 =>
     RUN Try.prog (pan R) (Builtin.append_ #[42,42] 42 #[v3',v7]) w8 fun v9 w10 =>
     RUN Try.prog (pan R) (Instr.sliceAt 42 x0 (some (.int .i64 hi)) none none) w10 fun v11 w12 =>
     RUN Try.prog (pan R) (Builtin.append_ #[42,42] 42 #[v9,v11]) w12 fun v13 w14 =>
     R (Ending.returned (Value.tuple #[v13,Value.bool true])) w14:=by
    intro x0 v1 v3 hv1 hv3 hsl
    have hlt:(l.take hi).length=hi:=by rw [List.length_take];omega
    have hld:(l.drop hi).length=l.length-hi:=List.length_drop
    obtain ⟨A1,d1,rfl,_⟩:=slice_form hv1
    obtain ⟨A3,d3,rfl,_⟩:=slice_form hv3
    refine s5.appendRd (r:=rFl) (enc:=fV) 1 rfl uSet iFull rfl (by decide) (Rep.below hv1 (s5.chg.below hB fun _ _=>id)) (fun h _=>h) (fun x _=>full_ok) (fun _ _=>rfl) (by unfold maxLen;omega) (by unfold maxBytes;omega) ?_
    intro a1 cap1 w6 s6
    rw [show 0+(l.take hi).length=hi by omega] at s6 ⊢
    have s6:St noB w w6 [boxC q 79 [.int .i64 a.1.1,.int .i64 a.1.2,.int .i64 a.2],rowC 79 3 a1 hi cap1 ([]++(l.take hi).flatMap fV)]:=s6
    have y6:=(s6.box 0 rfl).1
    simp [boxAt] at y6
    simp -dsimp [go_sem,y6]
    refine s6.append1 1 rfl uSet iFull rfl (by decide) (news:=[.int .i64 a.1.1,.int .i64 a.1.2,.int .i64 a.2]) rfl (full_ok (a:=a)) (by unfold maxLen;omega) (by unfold maxBytes;omega) ?_
    intro g2 cap2 w7 s7
    have s7:St noB w w7 [boxC q 79 [.int .i64 a.1.1,.int .i64 a.1.2,.int .i64 a.2],rowC 79 3 (some ⟨g2,0,none⟩) (hi+1) cap2 ([]++(l.take hi).flatMap fV++fV a)]:=s7
    simp -dsimp only [go_sem,hsl]
    refine s7.appendRd (r:=rFl) (enc:=fV) 1 rfl uSet iFull rfl (by decide) (Rep.below hv3 (s7.chg.below hB fun _ _=>id)) (fun h _=>h) (fun x _=>full_ok) (fun _ _=>rfl) (by unfold maxLen;omega) (by unfold maxBytes;omega) ?_
    intro a3 cap3 w8 s8
    have s8:St noB w w8 [boxC q 79 [.int .i64 a.1.1,.int .i64 a.1.2,.int .i64 a.2],rowC 79 3 a3 (hi+1+(l.drop hi).length) cap3 ([]++(l.take hi).flatMap fV++fV a++(l.drop hi).flatMap fV)]:=s8
    have e:hi+1+(l.drop hi).length=l.length+1:=by omega
    rw [e] at s8 ⊢
    have e2:[]++(l.take hi).flatMap fV++fV a++(l.drop hi).flatMap fV=(insF a l).flatMap fV:=by rw [hins];simp
    rw [e2] at s8
    have s9:St noB w w8 [rowC 79 3 a3 (l.length+1) cap3 ((insF a l).flatMap fV)]:=s8.pick [1] (by simp) rfl
    have hpos:0<((insF a l).flatMap fV).length:=by
     rw [hins,List.flatMap_append,List.length_append,List.flatMap_cons,List.length_append]
     have:(fV a).length=3:=rfl
     omega
    obtain ⟨g3,e3,_⟩:=s9.rowAt 0 rfl (j:=0) hpos
    subst e3
    exact hR _ _ (Or.inr ⟨hna,g3,cap3,rfl,s9⟩)
   unfold top_set_with.b4
   cases A with
   | none =>
    have hn:=slice_nil h
    subst hn
    have h0:hi=0:=by simpa using hhl
    subst h0
    simp -dsimp [go_sem]
    exact key (.slice none 0 c) (.slice none 0 c) (.slice none 0 c) h h fun w=>by simp -dsimp [go_sem]
   | some A =>
    have hhc:hi≤c:=by omega
    have k1:=slice_take h hhl
    have k3:=slice_from' h hhl
    rw [show (l.take hi).length=hi by rw [List.length_take];omega] at k1
    rw [List.length_drop] at k3
    obtain ⟨b,o,sp⟩:=A
    simp -dsimp [go_sem,hhl,hlc,hhc]
    refine key _ _ _ k1 k3 fun w=>?_
    simp -dsimp [go_sem,hhl,hlc,hhc,rFl]
  unfold top_set_with.b5
  simp -dsimp [go_sem]
  refine SPL_intro (fun p2=>?_) (fun p2=>?_) <;> simp at p2
  ·obtain ⟨b,o,rfl,hb,k1,k2,k3⟩:=fls_at h p2
   have k1:=s2.chg.at k1 id
   have k2:=s2.chg.at k2 id
   have k3:=s2.chg.at k3 id
   obtain ⟨z,hz⟩:∃z,l[hi]=z:=⟨_,rfl⟩
   rw [hz] at k1 k2 k3
   unfold top_set_with.b5_1
   simp -dsimp [go_sem,p2,k1,k2,k3,y2]
   unfold top_set_with.b6
   refine SPL_intro (fun p3=>?_) (fun p3=>?_) <;> simp at p3
   ·have e:z=a:=by
     refine Prod.ext (Prod.ext ?_ ?_) ?_ <;> omega
    exact hR _ _ (Or.inl ⟨hmem.2 ⟨p2,hz.trans e⟩,rfl,s3.chg⟩)
   ·refine fin (fun ha=>?_) _ s3
    obtain ⟨_,e⟩:=hmem.1 ha
    rw [hz] at e
    subst e
    exact p3 rfl rfl rfl
  ·unfold top_set_with.b6
   simp -dsimp [go_sem]
   exact fin (fun ha=>by obtain ⟨e,_⟩:=hmem.1 ha;omega) _ s3
end Go.Proofs.Ytmoepnfobnpdiaa

/-
  The document's answer: levels, nonterminals, productions that fit.
-/
namespace Go.Proofs.Ytmoepnfobnpdiaa
open Go.Px Go.Px.Scan Go.RowKit
attribute [-go_sem] Builtin.append_

def LevelsP (g:Gr):Prop:=∀i (h:i<g.levels.length),1≤g.levels[i]∧g.levels[i]≤3∧∃t∈g.terms,t.2=(i:Int)+1
open Classical in
noncomputable def levelsB (g:Gr):Bool:=decide (LevelsP g)
theorem levelsB_iff {g:Gr}:levelsB g=true↔LevelsP g:=@decide_eq_true_iff _ (_)

theorem levelsFit_ct {w:World} {B:Nat} {v:Value} {g:Gr} (h:rGram.atN w B v g) (hB:B≤w.heap.size):Ct Try.prog ref02_levelsFit.id #[v] w fun r w'=>r = .bool (levelsB g)∧Chg noB w w':=by
 refine ref02_levelsFit.ct fun R hR=>?_
 obtain ⟨A1,c1,A2,c2,A3,c3,A4,c4,rfl,⟨m1,m2,m3,m4⟩,_,hc0,hg⟩:=box_all h hB
 have no:∀w',Chg noB w w'→¬LevelsP g→R (.returned (.bool false)) w':=fun w' hc hn=>hR _ _ ⟨by rw [bool_no levelsB_iff hn],hc⟩
 unfold ref02_levelsFit.run
 simp -dsimp [go_sem]
 generalize w.alloc (.cells #[.slice A1 g.terms.length c1,.slice A2 g.nons.length c2,.slice A3 g.levels.length c3,.int .i64 g.start,.slice A4 g.prods.length c4] 27)=w1 at hc0 hg ⊢
 generalize w.heap.size=q at hg ⊢
 refine ref02_levelsFit.l6_intro _ _ _ _ (fun y w'=>∃k:Nat,y = .int .i64 k∧k≤g.levels.length∧Chg noB w1 w'∧∀i (h:i<g.levels.length),i<k→1≤g.levels[i]∧g.levels[i]≤3∧∃t∈g.terms,t.2=(i:Int)+1) (fun y _=>g.levels.length-iv y) ⟨0,rfl,by omega,Chg.refl _ _,fun i h h0=>by omega⟩ ?_
 rintro _ w2 ⟨k,rfl,hk,hcw,hall⟩ C hC
 have z2:=hg w2 hcw
 simp -dsimp [go_sem,z2.k]
 refine SPL_intro (fun p1=>?_) (fun p1=>?_) <;> simp at p1
 ·have wk:IntKind.i64.wrap ((k:Int)+1)=(k:Int)+1:=IntWalk.i64_in _ (by unfold maxLen at m3;omega)
  simp -dsimp [go_sem]
  refine ref02_levelsFit.l17_intro _ _ _ _ _ _ _ (fun x y w'=>∃(j:Nat) (b:Bool),y = .int .i64 j∧x = .bool b∧j≤g.terms.length∧Chg noB w1 w'∧(b=true↔∃t∈g.terms.take j,t.2=(k:Int)+1)) (fun _ y _=>g.terms.length-iv y) ⟨0,false,rfl,rfl,by omega,hcw,by simp⟩ ?_
  rintro _ _ w3 ⟨j,b,rfl,rfl,hj,hc3,hb⟩ C' hC'
  have z3:=hg w3 hc3
  simp -dsimp [go_sem,z3.k]
  refine SPL_intro (fun p2=>?_) (fun p2=>?_) <;> simp at p2
  ·have wj:IntKind.i64.wrap ((j:Int)+1)=(j:Int)+1:=IntWalk.i64_in _ (by unfold maxLen at m1;omega)
   have htk:g.terms.take (j+1)=g.terms.take j++[g.terms[j]]:=List.take_succ_eq_append_getElem p2
   obtain ⟨b4,o4,rfl,hb4,x1,x2,_⟩:=terms_at z3.r1 p2
   have mem:(∃t∈g.terms.take (j+1),t.2=(k:Int)+1)↔(∃t∈g.terms.take j,t.2=(k:Int)+1)∨g.terms[j].2=(k:Int)+1:=by
    rw [htk]
    constructor
    ·rintro ⟨t,ht,e⟩
     rcases List.mem_append.1 ht with ht | ht
     ·exact Or.inl ⟨t,ht,e⟩
     ·rw [List.mem_singleton.1 ht] at e;exact Or.inr e
    ·rintro (⟨t,ht,e⟩ | e)
     ·exact ⟨t,List.mem_append_left _ ht,e⟩
     ·exact ⟨_,List.mem_append_right _ (List.mem_singleton.2 rfl),e⟩
   cases b with
   | true =>
    simp -dsimp [go_sem,wj]
    refine hC' _ _ _ ⟨j+1,true,by simp,rfl,by omega,hc3,?_⟩ (by simp [iv];omega)
    rw [mem];exact ⟨fun _=>Or.inl (hb.1 rfl),fun _=>rfl⟩
   | false =>
    simp -dsimp [go_sem,z3.k,p2,x1,x2,wj,wk]
    refine hC' _ _ _ ⟨j+1,_,by simp,rfl,by omega,hc3,?_⟩ (by simp [iv];omega)
    rw [mem,beq_iff_eq]
    constructor
    ·exact Or.inr
    ·rintro (h1 | h1)
     ·exact absurd (hb.2 h1) (by simp)
     ·exact h1
  ·have hja:j=g.terms.length:=by omega
   subst hja
   rw [List.take_length] at hb
   have bad:¬(1≤g.levels[k]∧g.levels[k]≤3∧∃t∈g.terms,t.2=(k:Int)+1)→¬LevelsP g:=fun hn hs=>hn (hs k p1)
   cases b with
   | false =>
    simp -dsimp [go_sem]
    exact no _ (hc0.trans hc3) (bad fun hs=>by have:=hb.2 hs.2.2;cases this)
   | true =>
    obtain ⟨b5,o5,rfl,hb5,y1,_⟩:=Go.Px.ints_at z3.r3 p1
    simp -dsimp [go_sem,z3.k,p1,y1]
    refine SPL_intro (fun p3=>?_) (fun p3=>?_) <;> simp at p3
    ·simp -dsimp [go_sem]
     exact no _ (hc0.trans hc3) (bad fun hs=>by omega)
    simp -dsimp [go_sem,z3.k,p1,y1]
    refine SPL_intro (fun p4=>?_) (fun p4=>?_) <;> simp at p4
    ·exact no _ (hc0.trans hc3) (bad fun hs=>by omega)
    simp -dsimp [go_sem,wk]
    refine hC _ _ ⟨k+1,by simp,by omega,hc3,fun i hi hik=>?_⟩ (by simp [iv];omega)
    by_cases e:i=k
    ·subst e;exact ⟨by omega,by omega,hb.1 rfl⟩
    ·exact hall i hi (by omega)
 ·simp -dsimp [go_sem]
  refine hR _ _ ⟨?_,hc0.trans hcw⟩
  rw [levelsB_iff.2 fun i hi=>hall i hi (by omega)]

def NonsP (g:Gr) (a:Nat):Prop:=(g.nons.drop a).Nodup∧∀s∈g.nons.drop a,NameP s
open Classical in
noncomputable def nonsB (g:Gr) (a:Nat):Bool:=decide (NonsP g a)
theorem nonsB_iff {g:Gr} {a:Nat}:nonsB g a=true↔NonsP g a:=@decide_eq_true_iff _ (_)

theorem nonsFit_ct {w:World} {B:Nat} {v:Value} {g:Gr} (h:rGram.atN w B v g) (hB:B≤w.heap.size) (a:Nat) (ha:a≤1):Ct Try.prog ref02_nonsFit.id #[v,.int .i64 a] w fun r w'=>r = .bool (nonsB g a)∧Chg noB w w':=by
 refine ref02_nonsFit.ct fun R hR=>?_
 obtain ⟨A1,c1,A2,c2,A3,c3,A4,c4,rfl,⟨m1,m2,m3,m4⟩,_,hc0,hg⟩:=box_all h hB
 have no:∀w',Chg noB w w'→¬NonsP g a→R (.returned (.bool false)) w':=fun w' hc hn=>hR _ _ ⟨by rw [bool_no nonsB_iff hn],hc⟩
 unfold ref02_nonsFit.run
 simp -dsimp [go_sem]
 generalize w.alloc (.cells #[.slice A1 g.terms.length c1,.slice A2 g.nons.length c2,.slice A3 g.levels.length c3,.int .i64 g.start,.slice A4 g.prods.length c4] 27)=w1 at hc0 hg ⊢
 generalize w.heap.size=q at hg ⊢
 generalize hE:g.nons.drop a=nl
 have hnl:nl.length=g.nons.length-a:=by rw [←hE];simp
 have hel:∀i (hi:i<nl.length),g.nons[a+i]'(by omega)=nl[i]:=fun i hi=>by simp [←hE]
 refine ref02_nonsFit.l6_intro _ _ _ _ _ (fun y w'=>∃j k:Nat,y = .int .i64 j∧j=a+k∧(k≤nl.length)∧Chg noB w1 w'∧(nl.take k).Nodup∧∀s∈nl.take k,NameP s) (fun y _=>g.nons.length+a-iv y) ⟨a,0,rfl,rfl,by omega,Chg.refl _ _,by simp,by simp⟩ ?_
 rintro _ w2 ⟨j,k,rfl,hj,hk,hcw,hnd,hall⟩ C hC
 have z2:=hg w2 hcw
 simp -dsimp [go_sem,z2.k]
 refine SPL_intro (fun p1=>?_) (fun p1=>?_) <;> simp at p1
 ·have hk1:k<nl.length:=by omega
  obtain ⟨b4,o4,rfl,hb4,x1,x2⟩:=Go.Px.strs_at z2.r2 p1
  have hej:g.nons[j]=nl[k]:=by subst hj;exact hel k hk1
  rw [hej] at x1 x2
  have wj:IntKind.i64.wrap ((j:Int)+1)=(j:Int)+1:=IntWalk.i64_in _ (by unfold maxLen at m2;omega)
  simp -dsimp [go_sem,z2.k,p1,x1]
  refine CALL_of (ref02_IsName_ct x2 w2) ?_
  rintro _ _ ⟨rfl,rfl⟩
  cases hT:nmB nl[k] with
  | false =>
   simp -dsimp [go_sem]
   exact no _ (hc0.trans hcw) fun hs=>by rw [nmB_iff.2 (hs.2 _ (by rw [hE];exact List.getElem_mem hk1))] at hT;cases hT
  | true =>
   simp -dsimp [go_sem]
   refine ref02_nonsFit.l13_intro _ _ _ _ _ _ (fun y w'=>∃i n:Nat,y = .int .i64 i∧i=a+n∧n≤k∧Chg noB w1 w'∧∀s∈nl.take n,s≠nl[k]) (fun y _=>a+k-iv y) ⟨a,0,rfl,rfl,by omega,hcw,by simp⟩ ?_
   rintro _ w3 ⟨i,n,rfl,hi,hn,hc3,hne⟩ C' hC'
   simp -dsimp [go_sem]
   refine SPL_intro (fun p4=>?_) (fun p4=>?_) <;> simp at p4
   ·have hn1:n<nl.length:=by omega
    have hil:i<g.nons.length:=by omega
    have z3:=hg _ hc3.drew
    obtain ⟨b5,o5,e4,hb5,y1,_⟩:=Go.Px.strs_at z3.r2 p1
    injection e4 with e4;injection e4 with e4 e5;subst e4 e5
    obtain ⟨b6,o6,e4,hb6,y2,_⟩:=Go.Px.strs_at z3.r2 hil
    injection e4 with e4;injection e4 with e4 e5;subst e4 e5
    have hei:g.nons[i]=nl[n]:=by subst hi;exact hel n hn1
    rw [hej] at y1
    rw [hei] at y2
    have wi:IntKind.i64.wrap ((i:Int)+1)=(i:Int)+1:=IntWalk.i64_in _ (by unfold maxLen at m2;omega)
    simp -dsimp [go_sem,z3.k,p1,hil,y1,y2]
    refine SPL_intro (fun p5=>?_) (fun p5=>?_) <;> simp at p5
    ·refine no _ (hc0.trans hc3.drew) fun hs=>?_
     have h9:=hs.1
     rw [hE] at h9
     exact List.pairwise_iff_getElem.1 h9 n k hn1 hk1 (by omega) (toList_inj'.1 p5)
    ·simp -dsimp [go_sem,wi]
     refine hC' _ _ ⟨i+1,n+1,by simp,by omega,by omega,hc3.drew,fun t ht=>?_⟩ (by simp [iv];omega)
     rw [List.take_succ_eq_append_getElem hn1] at ht
     rcases List.mem_append.1 ht with ht | ht
     ·exact hne t ht
     ·rw [List.mem_singleton.1 ht]
      exact fun e=>p5 (by rw [e])
   ·have hnk:n=k:=by omega
    subst hnk
    simp -dsimp [go_sem,wj]
    have htk:nl.take (n+1)=nl.take n++[nl[n]]:=List.take_succ_eq_append_getElem hk1
    refine hC _ _ ⟨j+1,n+1,by simp,by omega,by omega,hc3,?_,fun t ht=>?_⟩ (by simp [iv];omega)
    ·rw [htk]
     refine List.nodup_append.2 ⟨hnd,by simp,fun x hx y hy=>?_⟩
     rw [List.mem_singleton.1 hy]
     exact hne x hx
    ·rw [htk] at ht
     rcases List.mem_append.1 ht with ht | ht
     ·exact hall t ht
     ·rw [List.mem_singleton.1 ht];exact nmB_iff.1 hT
 ·have hka:k=nl.length:=by omega
  subst hka
  rw [List.take_length] at hall hnd
  simp -dsimp [go_sem]
  refine hR _ _ ⟨?_,hc0.trans hcw⟩
  rw [nonsB_iff.2 (by unfold NonsP;rw [hE];exact ⟨hnd,hall⟩)]
end Go.Proofs.Ytmoepnfobnpdiaa

/-
  No text twice.
-/
namespace Go.Proofs.Ytmoepnfobnpdiaa
open Go.Px Go.Px.Scan Go.RowKit
attribute [-go_sem] Builtin.append_

theorem unlike_ct {w:World} {B:Nat} {v:Value} {l:List ByteArray} (h:(rSlice rStr).at1 w B v l) (hB:B≤w.heap.size):Ct Try.prog gram_unlike.id #[v] w fun r w'=>r = .bool (decide l.Nodup)∧Chg noB w w':=by
 refine gram_unlike.ct fun R hR=>?_
 obtain ⟨A,c,rfl,hl,hm,_⟩:=slice_form h
 unfold gram_unlike.run
 simp -dsimp [go_sem,mkStr]
 have h0:=(St.refl noB w).map Try.prog kStr 9 3
 generalize hq:w.heap.size=q at h0 ⊢
 generalize w.alloc (.map #[] 0)=w1 at h0 ⊢
 refine gram_unlike.l6_intro _ _ _ _ _ _ _ (fun x w1=>∃(k n:Nat) (f:ByteArray→Int),x = .int .i64 k∧k≤l.length∧St noB w w1 [mapC Try.prog kStr 9 3 (.map (some q)) n f]∧n≤k∧(n=k↔(l.take k).Nodup)∧(∀s,f s≠0↔s∈l.take k)∧∀s,0≤f s∧f s≤k) (fun x _=>l.length-iv x) ⟨0,0,_,rfl,by omega,h0,by omega,by simp,by simp,by simp⟩ ?_
 rintro _ w1 ⟨k,n,f,rfl,hk,hst,hn,hnd,hmem,hf⟩ C hC
 simp -dsimp [go_sem]
 refine SPL_intro (fun h2=>?_) (fun h2=>?_) <;> simp at h2
 ·obtain ⟨b1,o1,rfl,hb1,hc1,hr1⟩:=Go.Px.strs_at (Rep.below h (hst.chg.below hB fun _ _=>id)) h2
  have wk:=wrap_succ h2 (Nat.le_trans hl hm)
  have hg:(Instr.lookup 52 (.map (some q)) (.string l[k]) false).run Try.prog w1=_:=hst.mapGet mStr 0 rfl l[k] hr1
  have hfk:=hf l[k]
  have hkm:k<maxLen:=by omega
  have wf:IntKind.i64.wrap (f l[k]+1)=f l[k]+1:=IntWalk.i64_in _ (by unfold maxLen at hkm;omega)
  obtain ⟨w2,hrun,hst2⟩:=hst.mapSet mStr 0 rfl l[k] hr1 (by omega) (x:=f l[k]+1) (by unfold inI64;unfold maxLen at hkm;omega) (by omega)
  have hrun':(Instr.mapUpdate 52 (.map (some q)) (.string l[k]) (.int .i64 (f l[k]+1))).run Try.prog w1=_:=hrun
  simp -dsimp [go_sem,h2,hc1,hg,wf,hrun',wk]
  have htk:l.take (k+1)=l.take k++[l[k]]:=List.take_succ_eq_append_getElem h2
  refine hC _ _ ⟨k+1,_,_,by simp,by omega,hst2,?_,?_,?_,?_⟩ (by simp [iv];omega)
  ·split <;> omega
  ·rw [htk]
   by_cases h0:f l[k]=0
   ·have hno:l[k]∉l.take k:=fun hm=>(hmem l[k]).2 hm h0
    rw [if_pos h0]
    constructor
    ·intro e
     refine List.nodup_append.2 ⟨hnd.1 (by omega),by simp,fun a ha b hb e'=>?_⟩
     simp at hb
     subst hb;subst e';exact hno ha
    ·intro hd
     have:=hnd.2 (List.nodup_append.1 hd).1
     omega
   ·rw [if_neg h0]
    have hyes:=(hmem l[k]).1 h0
    constructor
    ·intro e;omega
    ·intro hd
     exact absurd rfl ((List.nodup_append.1 hd).2.2 _ hyes _ (by simp))
  ·intro s
   rw [htk]
   by_cases hs:s=l[k]
   ·subst hs
    simp only [if_true,List.mem_append,List.mem_singleton,or_true,iff_true]
    have:=hf l[k];omega
   ·simp only [if_neg hs,List.mem_append,List.mem_singleton,hs,or_false];exact hmem s
  ·intro s
   have:=hf s
   by_cases hs:s=l[k]
   ·simp only [if_pos hs];omega
   ·simp only [if_neg hs];omega
 ·have hka:k=l.length:=by omega
  subst hka
  rw [List.take_length] at hnd
  obtain ⟨F,ho,_⟩:=hst.get (k:=0) rfl
  have hlen:=ho.1.len mStr 3
  simp -dsimp [go_sem,hlen]
  refine hR _ _ ⟨?_,hst.chg⟩
  congr 1
  refine decide_eq_decide.2 ?_
  rw [←hnd];omega
end Go.Proofs.Ytmoepnfobnpdiaa

/-
  Searches in slices, and whether one is sorted.
-/
namespace Go.Proofs.Ytmoepnfobnpdiaa
open Go.Px Go.Px.Scan Go.RowKit
attribute [-go_sem] Builtin.append_

theorem IndexFuncS_ct {w:World} {B:Nat} {v:Value} {l:List ByteArray} (h:(rSlice rStr).at1 w B v l) (hB:B≤w.heap.size) {g:FuncId} {first cap:Array Value} {p:ByteArray→Bool}
  (hp:∀x∈l,x.size≤maxLen→∀w,Ct Try.prog g (first.toList++[Value.string x]++cap.toList).toArray w fun v w'=>v = .bool (p x)∧Chg noB w w') :
  Ct Try.prog slices_IndexFunc_string_string.id #[v,.func (.func g) first cap] w fun r w'=>(∃i,r = .int .i64 i∧(0≤i↔l.any p=true)∧i≤l.length)∧Chg noB w w':=by
 refine slices_IndexFunc_string_string.ct fun R hR=>?_
 obtain ⟨A,c,rfl,hl,hm,_⟩:=slice_form h
 unfold slices_IndexFunc_string_string.run
 simp -dsimp [go_sem]
 refine slices_IndexFunc_string_string.l6_intro _ _ _ _ _ _ (fun x w1=>∃k:Nat,x = .int .i64 k∧k≤l.length∧(l.take k).any p=false∧Chg noB w w1) (fun x _=>l.length-iv x) ⟨0,rfl,by omega,by simp,Chg.refl _ _⟩ ?_
 rintro _ w1 ⟨k,rfl,hk,hall,hcw⟩ C hC
 simp -dsimp [go_sem]
 refine SPL_intro (fun h2=>?_) (fun h2=>?_) <;> simp at h2
 ·obtain ⟨b1,o1,rfl,hb1,hc1,hr1⟩:=Go.Px.strs_at (Rep.below h (hcw.below hB fun _ _=>id)) h2
  have wk:=wrap_succ h2 (Nat.le_trans hl hm)
  simp -dsimp [go_sem,h2,hc1]
  refine CALLY_of (hp l[k] (List.getElem_mem h2) hr1 _) ?_
  rintro _ w2 ⟨rfl,hc2⟩
  refine SPL_intro (fun h3=>?_) (fun h3=>?_)
  ·refine hR _ _ ⟨⟨k,rfl,?_,by omega⟩,hcw.trans hc2⟩
   refine ⟨fun _=>List.any_eq_true.2 ⟨_,List.getElem_mem h2,h3⟩,fun _=>by omega⟩
  ·simp -dsimp [go_sem,wk]
   refine hC _ _ ⟨k+1,by simp,by omega,?_,hcw.trans hc2⟩ (by simp [iv];omega)
   rw [List.take_succ_eq_append_getElem h2,List.any_append,hall]
   simp [h3]
 ·have hka:k=l.length:=by omega
  rw [hka,List.take_length] at hall
  simp -dsimp [go_sem]
  exact hR _ _ ⟨⟨-1,rfl,by rw [hall];simp,by omega⟩,hcw⟩

theorem ContainsFuncS_ct {w:World} {B:Nat} {v:Value} {l:List ByteArray} (h:(rSlice rStr).at1 w B v l) (hB:B≤w.heap.size) {g:FuncId} {first cap:Array Value} {p:ByteArray→Bool}
  (hp:∀x∈l,x.size≤maxLen→∀w,Ct Try.prog g (first.toList++[Value.string x]++cap.toList).toArray w fun v w'=>v = .bool (p x)∧Chg noB w w') :
  Ct Try.prog slices_ContainsFunc_string_string.id #[v,.func (.func g) first cap] w fun r w'=>r = .bool (l.any p)∧Chg noB w w':=by
 refine slices_ContainsFunc_string_string.ct fun R hR=>?_
 unfold slices_ContainsFunc_string_string.run
 simp -dsimp [go_sem]
 refine CALL_of (IndexFuncS_ct h hB hp) ?_
 rintro _ w1 ⟨⟨i,rfl,hi,_⟩,hc⟩
 simp -dsimp [go_sem]
 refine hR _ _ ⟨?_,hc⟩
 congr 1
 cases ha:l.any p
 ·rw [ha] at hi;simpa using hi
 ·rw [ha] at hi;simpa using hi

theorem Index_ct {w:World} {B:Nat} {v:Value} {l:List Int} (h:(rSlice rInt).at1 w B v l) {x:Int} :
  Ct Try.prog slices_Index_int_int.id #[v,.int .i64 x] w fun r w'=>(∃i,r = .int .i64 i∧(0≤i↔x∈l))∧w=w':=by
 refine slices_Index_int_int.ct fun R hR=>?_
 obtain ⟨A,c,rfl,hl,hm,_⟩:=slice_form h
 unfold slices_Index_int_int.run
 simp -dsimp [go_sem]
 refine slices_Index_int_int.l6_intro _ _ _ _ _ _ (fun y w1=>∃k:Nat,y = .int .i64 k∧k≤l.length∧x∉l.take k∧w=w1) (fun y _=>l.length-iv y) ⟨0,rfl,by omega,by simp,rfl⟩ ?_
 rintro _ _ ⟨k,rfl,hk,hall,rfl⟩ C hC
 simp -dsimp [go_sem]
 refine SPL_intro (fun h2=>?_) (fun h2=>?_) <;> simp at h2
 ·obtain ⟨b1,o1,rfl,hb1,hc1,hr1⟩:=Go.Px.ints_at h h2
  have wk:=wrap_succ h2 (Nat.le_trans hl hm)
  simp -dsimp [go_sem,h2,hc1]
  refine SPL_intro (fun h3=>?_) (fun h3=>?_) <;> simp at h3
  ·refine hR _ _ ⟨⟨k,rfl,?_⟩,rfl⟩
   exact ⟨fun _=>by rw [h3];exact List.getElem_mem h2,fun _=>by omega⟩
  ·simp -dsimp [go_sem,wk]
   have hno:x∉l.take (k+1):=by
    rw [List.take_succ_eq_append_getElem h2,List.mem_append]
    simp [hall,h3]
   exact hC _ _ ⟨k+1,by simp,by omega,hno,rfl⟩ (by simp [iv];omega)
 ·have hka:k=l.length:=by omega
  rw [hka,List.take_length] at hall
  simp -dsimp [go_sem]
  exact hR _ _ ⟨⟨-1,rfl,by simp [hall]⟩,rfl⟩

theorem Contains_ct {w:World} {B:Nat} {v:Value} {l:List Int} (h:(rSlice rInt).at1 w B v l) {x:Int} :
  Ct Try.prog slices_Contains_int_int.id #[v,.int .i64 x] w fun r w'=>r = .bool (decide (x∈l))∧w=w':=by
 refine slices_Contains_int_int.ct fun R hR=>?_
 unfold slices_Contains_int_int.run
 simp -dsimp [go_sem]
 refine CALL_of (Index_ct h) ?_
 rintro _ _ ⟨⟨i,rfl,hi⟩,rfl⟩
 simp -dsimp [go_sem]
 refine hR _ _ ⟨?_,rfl⟩
 congr 1
 exact decide_eq_decide.2 hi

end Go.Proofs.Ytmoepnfobnpdiaa

/-
  Terminals, nonterminals, levels that fit.
-/
namespace Go.Proofs.Ytmoepnfobnpdiaa
open Go.Px Go.Px.Scan Go.RowKit
attribute [-go_sem] Builtin.append_

theorem symbols_ct {w:World} {B:Nat} {v:Value} {g:Gr} (h:rGram.atN w B v g) (hB:B≤w.heap.size) {a:Nat} (ha:a≤1):Ct Try.prog gram_symbols.id #[v,.int .i64 a] w fun r w'=>r = .bool (symB g a)∧Chg noB w w':=by
 refine gram_symbols.ct fun R hR=>?_
 obtain ⟨A1,c1,A2,c2,A3,c3,A4,c4,rfl,h1,h2,h3,h4,h5,⟨l1,m1⟩,⟨l2,m2⟩,⟨l3,m3⟩,⟨l4,m4⟩⟩:=(rGram_open h).ex
 have no:∀w',Chg noB w w'→¬SymsP g a→R (.returned (.bool false)) w':=fun w' hc hn=>hR _ _ ⟨by rw [bool_no symB_iff hn],hc⟩
 unfold gram_symbols.run gram_symbols.b1
 simp -dsimp [go_sem]
 have h0:=(St.refl noB w).alloc #[.slice A1 g.terms.length c1,.slice A2 g.nons.length c2,.slice A3 g.levels.length c3,.int .i64 g.start,.slice A4 g.prods.length c4] 27
 generalize w.heap.size=q at h0 ⊢
 generalize w.alloc (.cells #[.slice A1 g.terms.length c1,.slice A2 g.nons.length c2,.slice A3 g.levels.length c3,.int .i64 g.start,.slice A4 g.prods.length c4] 27)=w1 at h0 ⊢
 have k0:=h0.box 0 rfl
 simp [boxAt] at k0
 have b29f:∀w',Chg noB w w'→¬SymsP g a→gram_symbols.b29 R (.int .i64 a) (.pointer (some ⟨q,0,none⟩)) (.bool true) w':=fun w' hc hn=>by
  simp -dsimp [go_sem]
  exact no _ hc hn
 refine SPL_intro (fun q1=>?_) (fun q1=>?_) <;> simp at q1
 ·exact b29f _ h0.chg fun hs=>by have:=hs.t0;rw [q1] at this;cases this
 have q1':0<g.terms.length:=List.length_pos_iff.2 q1
 obtain ⟨b1,o1,rfl,hb1,hc1,hc1',_,_⟩:=terms_at (Rep.below h1 (h0.chg.below hB fun _ _=>id)) q1'
 simp at hc1 hc1'
 simp -dsimp [go_sem,k0,q1',hc1,hc1']
 have t0:¬(g.terms[0].1.toList=[]∧g.terms[0].2=0)→¬SymsP g a:=fun hn hs=>by
  have h9:=hs.t0
  rw [List.head?_eq_getElem?,List.getElem?_eq_getElem q1'] at h9
  injection h9 with h9
  rw [h9] at hn
  exact hn ⟨by rw [ByteArray.toList_eq],rfl⟩
 by_cases p1:g.terms[0].1.toList=[]
 case neg =>
  simp -dsimp [go_sem,p1]
  exact no _ h0.chg (t0 fun h=>p1 h.1)
 by_cases p2:g.terms[0].2=0
 case neg =>
  simp -dsimp [go_sem,p1,p2]
  exact no _ h0.chg (t0 fun h=>p2 h.2)
 have ht0:g.terms.head?=some (⟨#[]⟩,0):=by
  rw [List.head?_eq_getElem?,List.getElem?_eq_getElem q1']
  congr 1
  refine Prod.ext ?_ p2
  exact bs_ext (by rw [←ByteArray.toList_eq];exact p1)
 clear t0
 simp -dsimp [go_sem,p1,p2,k0]
 refine SPL_intro (fun q2=>?_) (fun q2=>?_) <;> simp at q2
 ·exact b29f _ h0.chg fun hs=>by have:=hs.n0;omega
 simp -dsimp [go_sem,k0]
 refine SPL_intro (fun q3=>?_) (fun q3=>?_) <;> simp at q3
 ·exact b29f _ h0.chg fun hs=>by have:=hs.t1;omega
 have w64:IntKind.i64.wrap (64+(a:Int))=64+a:=IntWalk.i64_in _ (by omega)
 simp -dsimp [go_sem,k0,w64]
 refine SPL_intro (fun q4=>?_) (fun q4=>?_) <;> simp at q4
 ·exact b29f _ h0.chg fun hs=>by have:=hs.n1;omega
 have w65:IntKind.i64.wrap ((g.terms.length:Int)-1)=(g.terms.length:Int)-1:=IntWalk.i64_in _ (by omega)
 have w66:IntKind.i64.wrap ((g.terms.length:Int)-1+g.nons.length)=(g.terms.length:Int)-1+g.nons.length:=IntWalk.i64_in _ (by omega)
 have w67:IntKind.i64.wrap ((g.terms.length:Int)-1+g.nons.length-a)=(g.terms.length:Int)-1+g.nons.length-a:=IntWalk.i64_in _ (by omega)
 simp -dsimp [go_sem,k0,w65,w66,w67]
 refine SPL_intro (fun q5=>?_) (fun q5=>?_) <;> simp at q5
 ·exact no _ h0.chg fun hs=>by have:=hs.sum;omega
 have h1':=h0.map Try.prog kInt 3 3
 have k1:=h1'.box 0 rfl
 simp [boxAt] at k1
 have l1':(1:Nat)≤g.terms.length:=q1'
 have l1'':(1:Int)≤g.terms.length:=by omega
 simp -dsimp [go_sem,mkInt,k1,l1'']
 have hT:=slice_from (k:=1) (o':=o1+2) h1 l1' rfl
 generalize (if c1=1 then some (⟨b1,o1,none⟩:Addr) else some ⟨b1,o1+2,none⟩)=AT at hT ⊢
 generalize w1.heap.size=m at h1' ⊢
 generalize w1.alloc (.map #[] 0)=w2 at h1' k1 ⊢
 have htl:g.terms.drop 1=g.terms.tail:=by simp
 rw [htl] at hT
 have hlen:g.terms.length-1=g.terms.tail.length:=by simp
 rw [hlen] at hT ⊢
 generalize hE:g.terms.tail=tl at hT ⊢
 have e1:∀t,t∈g.terms.tail↔t∈tl:=fun t=>by rw [hE]
 have n0:=h1'.nilRow 9 1
 refine gram_symbols.l18_intro _ _ _ _ _ _ _ _ _ (fun x y w'=>∃(k:Nat) (n:Nat) (f:Int→Int) (A:Option Addr) (c:Nat),y = .int .i64 k∧x = .slice A k c∧k≤tl.length ∧
  St noB w w' [boxC q 27 [.slice (some ⟨b1,o1,none⟩) g.terms.length c1,.slice A2 g.nons.length c2,.slice A3 g.levels.length c3,.int .i64 g.start,.slice A4 g.prods.length c4],mapC Try.prog kInt 3 3 (.map (some m)) n f,rowC 9 1 A k c ((tl.take k).map fun t => .string t.1)] ∧
  n≤k∧(∀x,f x≠0↔∃t∈tl.take k,t.2=x)∧(∀t∈tl.take k,TermOk g t)) (fun _ y _=>tl.length-iv y) ⟨0,0,_,none,0,rfl,rfl,by omega,by simpa using n0,by omega,by simp,by simp⟩ ?_
 rintro _ _ w3 ⟨k,n,f,A,c,rfl,rfl,hk,hst,hn,hf,hall⟩ C hC
 have k3:=hst.box 0 rfl
 simp [boxAt] at k3
 simp -dsimp [go_sem]
 refine SPL_intro (fun q6=>?_) (fun q6=>?_)
 ·have q6':k<tl.length:=by simpa using q6
  obtain ⟨b2,o2,rfl,hb2,d1,d2,d3,d4⟩:=terms_at (Rep.below hT (hst.chg.below hB fun _ _=>id)) q6'
  have hst4:=hst.alloc #[.string tl[k].1,.int .i64 tl[k].2] 112
  have hw4:(w3.alloc (.cells #[.string tl[k].1,.int .i64 tl[k].2] 112)).heap.size=w3.heap.size+1:=by simp
  have k4:=hst4.box 0 rfl
  have kt:=hst4.box 3 rfl
  simp [boxAt] at k4 kt
  simp -dsimp [go_sem,q6',d1,d2]
  generalize w3.alloc (.cells #[.string tl[k].1,.int .i64 tl[k].2] 112)=w4 at hst4 k4 kt hw4 ⊢
  generalize w3.heap.size=tb at hst4 kt ⊢
  refine CALL_of (isTerm_ct d3 w4) ?_
  rintro _ w5 ⟨rfl,hc5⟩
  have hst5:=hst4.old hc5
  clear k4 kt
  have k4:=hst5.box 0 rfl
  have kt:=hst5.box 3 rfl
  simp [boxAt] at k4 kt
  have hmem:tl[k]∈tl:=List.getElem_mem q6'
  cases htm:tmB tl[k].1 with
  | false =>
   simp -dsimp [go_sem]
   refine no _ hst5.chg fun hs=>?_
   have:=tmB_iff.2 (hs.terms _ ((e1 _).2 hmem)).name
   rw [this] at htm;cases htm
  | true =>
   simp -dsimp [go_sem,kt]
   refine SPL_intro (fun q7=>?_) (fun q7=>?_) <;> simp at q7
   ·simp -dsimp [go_sem]
    exact no _ hst5.chg fun hs=>by have:=(hs.terms _ ((e1 _).2 hmem)).lo;omega
   simp -dsimp [go_sem,kt,k4]
   refine SPL_intro (fun q8=>?_) (fun q8=>?_) <;> simp at q8
   ·exact no _ hst5.chg fun hs=>by have:=(hs.terms _ ((e1 _).2 hmem)).hi;omega
   have hk65:k<65:=by
    have:tl.length=g.terms.length-1:=by rw [←hE];simp
    omega
   simp -dsimp [go_sem,kt]
   refine hst5.append1 2 rfl uStrs iStr rfl (by omega) (news:=[.string tl[k].1]) rfl (by simp [Value.oneCell']) (by unfold maxLen;omega) (by unfold maxBytes;omega) ?_
   intro g' cap w6 hst6
   have k6:=hst6.box 3 rfl
   simp [boxAt] at k6
   obtain ⟨w7,hrun,hst7⟩:=hst6.mapSet mInt 1 rfl tl[k].2 d4 (by unfold maxLen;omega) (x:=1) (by unfold inI64;omega) (by omega)
   have hrun':(Instr.mapUpdate 110 (.map (some m)) (.int .i64 tl[k].2) (.int .i64 1)).run Try.prog w6=_:=hrun
   have wk:IntKind.i64.wrap ((k:Int)+1)=(k:Int)+1:=IntWalk.i64_in _ (by omega)
   simp -dsimp [go_sem,k6,hrun',wk]
   have htk:tl.take (k+1)=tl.take k++[tl[k]]:=List.take_succ_eq_append_getElem q6'
   have em:(tl.take k).map (fun t=>Value.string t.1)++[.string tl[k].1]=(tl.take (k+1)).map (fun t=>Value.string t.1):=by rw [htk,List.map_append];rfl
   have h8:=hst7.take 3
   rw [em] at h8
   refine hC _ _ _ ⟨k+1,_,_,_,_,by simp,rfl,by omega,h8,?_,?_,?_⟩ (by simp [iv];omega)
   ·split <;> omega
   ·intro x
    rw [htk]
    by_cases hx:x=tl[k].2
    ·rw [if_pos hx]
     exact ⟨fun _=>⟨tl[k],List.mem_append_right _ (List.mem_singleton.2 rfl),hx.symm⟩,fun _=>by omega⟩
    ·rw [if_neg hx,hf x]
     constructor
     ·rintro ⟨t,ht,e⟩;exact ⟨t,List.mem_append_left _ ht,e⟩
     ·rintro ⟨t,ht,e⟩
      rcases List.mem_append.1 ht with ht | ht
      ·exact ⟨t,ht,e⟩
      ·rw [List.mem_singleton.1 ht] at e;exact absurd e.symm hx
   ·intro t ht
    rw [htk] at ht
    rcases List.mem_append.1 ht with ht | ht
    ·exact hall t ht
    ·rw [List.mem_singleton.1 ht]
     exact ⟨tmB_iff.1 htm,by omega,by omega⟩
 ·have hka:k=tl.length:=by
   have:¬k<tl.length:=by simpa using q6
   omega
  subst hka
  rw [List.take_length] at hst hf hall
  clear hC C
  simp -dsimp [go_sem,k3]
  have nl:¬(∀i (h:i<g.levels.length),1≤g.levels[i]∧g.levels[i]≤3∧∃t∈tl,t.2=(i:Int)+1)→¬SymsP g a:=fun hn hs=>hn (by rw [←hE];exact hs.levels)
  refine gram_symbols.l9_intro _ _ _ _ _ _ _ _ _ (fun y w'=>∃j:Nat,y = .int .i64 j∧j≤g.levels.length∧w3=w'∧∀i (h:i<g.levels.length),i<j→1≤g.levels[i]∧g.levels[i]≤3∧∃t∈tl,t.2=(i:Int)+1) (fun y _=>g.levels.length-iv y) ⟨0,rfl,by omega,rfl,fun i h h0=>by omega⟩ ?_
  rintro _ _ ⟨j,rfl,hj,rfl,hjl⟩ C hC
  simp -dsimp [go_sem]
  refine SPL_intro (fun q7=>?_) (fun q7=>?_) <;> simp at q7
  ·obtain ⟨b3,o3,rfl,hb3,d1,d2⟩:=Go.Px.ints_at (Rep.below h3 (hst.chg.below hB fun _ _=>id)) q7
   have wj:=wrap_succ q7 (Nat.le_trans l3 m3)
   simp -dsimp [go_sem,q7,d1]
   refine SPL_intro (fun q8=>?_) (fun q8=>?_) <;> simp at q8
   ·simp -dsimp [go_sem]
    exact no _ hst.chg (nl fun hn=>by have:=(hn j q7).1;omega)
   simp -dsimp [go_sem]
   refine SPL_intro (fun q9=>?_) (fun q9=>?_) <;> simp at q9
   ·simp -dsimp [go_sem]
    exact no _ hst.chg (nl fun hn=>by have:=(hn j q7).2.1;omega)
   have hg:(Instr.lookup 110 (.map (some m)) (.int .i64 ((j:Int)+1)) false).run Try.prog w3=_:=hst.mapGet mInt 1 rfl ((j:Int)+1) (by show inI64 _;unfold inI64;unfold maxLen at m3;omega)
   simp -dsimp [go_sem,wj,hg]
   refine SPL_intro (fun q10=>?_) (fun q10=>?_) <;> simp at q10
   ·exact no _ hst.chg (nl fun hn=>absurd q10 ((hf _).2 (hn j q7).2.2))
   ·simp -dsimp [go_sem,wj]
    refine hC _ _ ⟨j+1,by simp,by omega,rfl,fun i hi hij=>?_⟩ (by simp [iv];omega)
    by_cases e:i=j
    ·subst e;exact ⟨by omega,by omega,(hf _).1 q10⟩
    ·exact hjl i hi (by omega)
  ·have hja:j=g.levels.length:=by omega
   subst hja
   have hlev:∀i (h:i<g.levels.length),1≤g.levels[i]∧g.levels[i]≤3∧∃t∈tl,t.2=(i:Int)+1:=fun i h=>hjl i h h
   obtain ⟨b4,o4,rfl,hb4,_⟩:=Go.Px.strs_at h2 q2
   have q2':a≤g.nons.length:=by omega
   have hN:=slice_from (k:=a) (o':=o4+a) h2 q2' (by simp [rStr])
   have hN2:(rSlice rStr).at1 w3 B _ _:=Rep.below hN (hst.chg.below hB fun _ _=>id)
   simp -dsimp [go_sem,k3,q2']
   generalize (if c2=a then some (⟨b4,o4,none⟩:Addr) else some ⟨b4,o4+a,none⟩)=AN at hN hN2 ⊢
   have hml:(g.nons.drop a).length=g.nons.length-a:=List.length_drop
   have hten:((tl.map (·.1)).map Value.string)=tl.map (fun t=>Value.string t.1):=by simp
   obtain ⟨FT,hoT,hFT⟩:=hst.get (k:=2) rfl
   have hTx:(rSlice rStr).at1 w3 w3.heap.size (.slice A tl.length c) (tl.map (·.1)):=by
    have:=slice_of_own (r:=rStr) (enc:=fun s=>[Value.string s]) (l:=tl.map (·.1)) (B:=w3.heap.size) (w:=w3) (base:=0) (e:=9) (v := .slice A tl.length c) (by
     have h9:=hoT.1
     rw [List.length_map,show (tl.map (·.1)).flatMap (fun s=>[Value.string s])=tl.map (fun t=>Value.string t.1) by
      rw [List.flatMap_map,flat_one]]
     exact h9) (fun _ _=>rfl) (fun x hx=>⟨rfl,by
      obtain ⟨t,ht,rfl⟩:=List.mem_map.1 hx
      have:=(hall t ht).name.2.1
      unfold maxLen;omega⟩) (Nat.le_refl _)
    exact this
   refine CALL_of (unlike_ct hTx (Nat.le_refl _)) ?_
   rintro _ w4 ⟨rfl,hc4⟩
   by_cases hd1:(tl.map (·.1)).Nodup
   case neg =>
    simp -dsimp [go_sem,hd1]
    exact no _ (hst.chg.trans hc4) fun hs=>hd1 (by rw [←hE];exact hs.tnd)
   have hN4:=Rep.below hN2 (hc4.below (B:=B) (by have:=hst.chg.size;omega) fun _ _=>id)
   have hB4:B≤w4.heap.size:=by have:=hst.chg.size;have:=hc4.size;omega
   simp -dsimp [go_sem,hd1]
   refine CALL_of (unlike_ct hN4 hB4) ?_
   rintro _ w5 ⟨rfl,hc5⟩
   by_cases hd2:(g.nons.drop a).Nodup
   case neg =>
    simp -dsimp [go_sem,hd2]
    exact no _ ((hst.chg.trans hc4).trans hc5) fun hs=>hd2 hs.nnd
   have hN5:=Rep.below hN4 (hc5.below hB4 fun _ _=>id)
   have hB5:B≤w5.heap.size:=by have:=hc5.size;omega
   simp -dsimp [go_sem,hd2]
   refine CALL_of (ContainsFuncS_ct (p:=fun s => !nmB s) hN5 hB5 fun x hx hsz w=>?_) ?_
   ·refine gram_symbols_1.ct fun R hR=>?_
    unfold gram_symbols_1.run
    simp -dsimp [go_sem]
    refine CALL_of (isName_ct hsz w) ?_
    rintro _ w' ⟨rfl,hc⟩
    simp -dsimp [go_sem]
    exact hR _ _ ⟨rfl,hc⟩
   ·rintro _ w6 ⟨rfl,hc6⟩
    simp -dsimp [go_sem]
    refine hR _ _ ⟨?_,((hst.chg.trans hc4).trans hc5).trans hc6⟩
    congr 1
    refine bool_eq ?_
    rw [symB_iff]
    constructor
    ·intro hb
     refine ⟨ht0,q2,by omega,by omega,by omega,by rw [hE];exact hall,by rw [hE];exact hlev,by rw [hE];exact hd1,hd2,fun s hs=>?_⟩
     refine nmB_iff.1 ?_
     cases e:nmB s with
     | true=>rfl
     | false =>
      have:(g.nons.drop a).any (fun s => !nmB s)=true:=List.any_eq_true.2 ⟨s,hs,by simp [e]⟩
      rw [this] at hb;cases hb
    ·intro hs
     cases e:(g.nons.drop a).any (fun s => !nmB s) with
     | false=>rfl
     | true =>
      obtain ⟨s,h1,h2⟩:=List.any_eq_true.1 e
      have:=nmB_iff.2 (hs.nnam s h1)
      rw [this] at h2;cases h2
end Go.Proofs.Ytmoepnfobnpdiaa

/-
  Productions that fit.
-/
namespace Go.Proofs.Ytmoepnfobnpdiaa
open Go.Px Go.Px.Scan Go.RowKit
attribute [-go_sem] Builtin.append_

/-- Numbers that are owned read as a slice. -/
theorem ints_own {G:Nat→Prop} {W w:World} {L:List Ch} (h:St G W w L) (k:Nat) {a:Option Addr} {n c:Nat} {l:List Int} (hk:L[k]?=some (rowC 3 1 a n c (l.map (Value.int .i64 ·)))) (hl:∀x∈l,inI64 x):(rSlice rInt).at1 w w.heap.size (.slice a n c) l:=by
 obtain ⟨F,ho,_⟩:=h.get hk
 have hn:n=l.length:=by have:=(row_size ho).1;simpa using this.symm
 subst hn
 exact slice_of_own (r:=rInt) (enc:=fun x=>[Value.int .i64 x]) (base:=0) (e:=3) (by rw [flat_one];exact ho.1) (fun _ _=>rfl) (fun x hx=>⟨rfl,hl x hx⟩) (Nat.le_refl _)

theorem productions_ct {w:World} {B:Nat} {v:Value} {g:Gr} (h:rGram.atN w B v g) (hB:B≤w.heap.size) {a:Nat} (ha:a≤1) (hsy:SymsP g a):Ct Try.prog gram_productions.id #[v,.int .i64 a] w fun r w'=>(∃vl,r = .tuple #[vl,.bool (prodB g a)]∧(prodB g a=true→(rSlice rInt).at1 w' w'.heap.size vl (leftsOf (g.prods.drop a))))∧Chg noB w w':=by
 refine gram_productions.ct fun R hR=>?_
 obtain ⟨A1,c1,A2,c2,A3,c3,A4,c4,rfl,h1,h2,h3,h4,h5,⟨l1,m1⟩,⟨l2,m2⟩,⟨l3,m3⟩,⟨l4,m4⟩⟩:=(rGram_open h).ex
 have t1:=hsy.t1
 have n0:=hsy.n0
 have n1:=hsy.n1
 have no:∀w',Chg noB w w'→¬ProdsP g a→R (.returned (.tuple #[.slice none 0 0,.bool false])) w':=fun w' hc hn=>hR _ _ ⟨⟨_,by rw [bool_no prodB_iff hn],fun h=>by rw [bool_no prodB_iff hn] at h;cases h⟩,hc⟩
 unfold gram_productions.run gram_productions.b1
 simp -dsimp [go_sem]
 have h0:=(St.refl noB w).alloc #[.slice A1 g.terms.length c1,.slice A2 g.nons.length c2,.slice A3 g.levels.length c3,.int .i64 g.start,.slice A4 g.prods.length c4] 27
 generalize w.heap.size=q at h0 ⊢
 generalize w.alloc (.cells #[.slice A1 g.terms.length c1,.slice A2 g.nons.length c2,.slice A3 g.levels.length c3,.int .i64 g.start,.slice A4 g.prods.length c4] 27)=w1 at h0 ⊢
 have k0:=h0.box 0 rfl
 simp [boxAt] at k0
 refine SPL_intro (fun q1=>?_) (fun q1=>?_) <;> simp at q1
 ·simp -dsimp [go_sem]
  exact no _ h0.chg fun hs=>by have:=hs.c0;omega
 have w96:IntKind.i64.wrap (96+(a:Int))=96+a:=IntWalk.i64_in _ (by omega)
 simp -dsimp [go_sem,k0,w96]
 refine SPL_intro (fun q2=>?_) (fun q2=>?_) <;> simp at q2
 ·exact no _ h0.chg fun hs=>by have:=hs.c1;omega
 obtain ⟨b4,o4,vr,rfl,hb4,_⟩:=prods_at h5 q1
 have q1':a≤g.prods.length:=by omega
 have ws:IntKind.i64.wrap ((g.terms.length:Int)+g.nons.length)=(g.terms.length:Int)+g.nons.length:=IntWalk.i64_in _ (by omega)
 have wl:IntKind.i64.wrap ((g.terms.length:Int)+a)=(g.terms.length:Int)+a:=IntWalk.i64_in _ (by omega)
 simp -dsimp [go_sem,k0,ws,wl,q1']
 have hP:=slice_from (k:=a) (o':=o4+a*3) h5 q1' (by simp [rPr,Rep.prod,rInt,rSlice])
 generalize (if c4=a then some (⟨b4,o4,none⟩:Addr) else some ⟨b4,o4+a*3,none⟩)=AP at hP ⊢
 generalize hE:g.prods.drop a=pl at hP ⊢
 have hpl:g.prods.length-a=pl.length:=by rw [←hE];simp
 rw [hpl] at hP ⊢
 have hpm:pl.length≤97:=by omega
 have n0':=h0.nilRow 3 1
 refine gram_productions.l8_intro _ _ _ _ _ _ _ _ _ _ (fun x y w'=>∃(k:Nat) (A:Option Addr) (n c:Nat),y = .int .i64 k∧x = .slice A n c∧k≤pl.length∧n=(leftsOf (pl.take k)).length ∧
  St noB w w' [boxC q 27 [.slice A1 g.terms.length c1,.slice A2 g.nons.length c2,.slice A3 g.levels.length c3,.int .i64 g.start,.slice (some ⟨b4,o4,none⟩) g.prods.length c4],rowC 3 1 A n c ((leftsOf (pl.take k)).map (Value.int .i64 ·))] ∧
  n≤k∧(∀p∈pl.take k,ProdOk g a p)∧∀x∈leftsOf (pl.take k),inI64 x) (fun _ y _=>pl.length-iv y) ⟨0,none,0,0,rfl,rfl,by omega,rfl,by simpa [leftsOf] using n0',by omega,by simp,by simp [leftsOf]⟩ ?_
 rintro _ _ w3 ⟨k,A,n,c,rfl,rfl,hk,hn,hst,hnk,hall,hin⟩ C hC
 have k3:=hst.box 0 rfl
 simp [boxAt] at k3
 simp -dsimp [go_sem]
 refine SPL_intro (fun q6=>?_) (fun q6=>?_)
 ·have q6':k<pl.length:=by simpa using q6
  obtain ⟨b2,o2,vr,rfl,hb2,d1,d2,d3,dr,i1,i2⟩:=prods_at (Rep.below hP (hst.chg.below hB fun _ _=>id)) q6'
  have hmem:pl[k]∈g.prods.drop a:=by rw [hE];exact List.getElem_mem q6'
  obtain ⟨Ar,cr,rfl,lr,mr,_⟩:=slice_form dr
  have hst4:=hst.alloc #[.int .i64 pl[k].1,.slice Ar pl[k].2.1.length cr,.int .i64 pl[k].2.2] 67
  have drw:=Rep.below dr (((Chg.refl noB w3).alloc (.cells #[.int .i64 pl[k].1,.slice Ar pl[k].2.1.length cr,.int .i64 pl[k].2.2] 67)).below (B:=B) (by have:=hst.chg.size;omega) fun _ _=>id)
  simp -dsimp [go_sem,q6',d1,d2,d3]
  generalize w3.alloc (.cells #[.int .i64 pl[k].1,.slice Ar pl[k].2.1.length cr,.int .i64 pl[k].2.2] 67)=w4 at hst4 drw ⊢
  generalize w3.heap.size=tb at hst4 ⊢
  have k4:=hst4.box 0 rfl
  have kt:=hst4.box 2 rfl
  simp [boxAt] at k4 kt
  have bad:¬ProdOk g a pl[k]→¬ProdsP g a:=fun hn hs=>hn (hs.each _ hmem)
  refine SPL_intro (fun q7=>?_) (fun q7=>?_) <;> simp at q7
  ·simp -dsimp [go_sem]
   exact no _ hst4.chg (bad fun hs=>by have:=hs.l0;omega)
  simp -dsimp [go_sem,kt,k4]
  refine SPL_intro (fun q8=>?_) (fun q8=>?_) <;> simp at q8
  ·simp -dsimp [go_sem]
   exact no _ hst4.chg (bad fun hs=>by have:=hs.l1;omega)
  simp -dsimp [go_sem,kt,k4]
  refine SPL_intro (fun q9=>?_) (fun q9=>?_) <;> simp at q9
  ·simp -dsimp [go_sem]
   exact no _ hst4.chg (bad fun hs=>by have:=hs.v0;omega)
  simp -dsimp [go_sem,kt,k4]
  refine SPL_intro (fun q10=>?_) (fun q10=>?_) <;> simp at q10
  ·exact no _ hst4.chg (bad fun hs=>by have:=hs.v1;omega)
  simp -dsimp [go_sem,kt,k4]
  refine gram_productions.l19_intro _ _ _ _ _ _ _ _ _ _ _ _ (fun y w'=>∃j:Nat,y = .int .i64 j∧j≤pl[k].2.1.length∧w4=w'∧∀s∈pl[k].2.1.take j,1≤s∧s<(g.terms.length+g.nons.length:Int)∧((g.terms.length:Int)≤s→(g.terms.length+a:Int)≤s)) (fun y _=>pl[k].2.1.length-iv y) ⟨0,rfl,by omega,rfl,by simp⟩ ?_
  rintro _ _ ⟨j,rfl,hj,rfl,hjl⟩ C' hC'
  simp -dsimp [go_sem]
  refine SPL_intro (fun q11=>?_) (fun q11=>?_) <;> simp at q11
  ·obtain ⟨b3,o3,rfl,hb3,f1,f2⟩:=Go.Px.ints_at drw q11
   have wj:=wrap_succ q11 (Nat.le_trans lr mr)
   simp -dsimp [go_sem,q11,f1]
   have bad2:¬(1≤pl[k].2.1[j]∧pl[k].2.1[j]<(g.terms.length+g.nons.length:Int)∧((g.terms.length:Int)≤pl[k].2.1[j]→(g.terms.length+a:Int)≤pl[k].2.1[j]))→¬ProdsP g a:=fun hn=>bad fun hs=>hn (hs.right _ (List.getElem_mem q11))
   refine SPL_intro (fun q12=>?_) (fun q12=>?_) <;> simp at q12
   ·simp -dsimp [go_sem]
    exact no _ hst4.chg (bad2 fun hs=>by omega)
   simp -dsimp [go_sem,k4]
   refine SPL_intro (fun q13=>?_) (fun q13=>?_) <;> simp at q13
   ·simp -dsimp [go_sem]
    exact no _ hst4.chg (bad2 fun hs=>by omega)
   simp -dsimp [go_sem,k4]
   have go:(1≤pl[k].2.1[j]∧pl[k].2.1[j]<(g.terms.length+g.nons.length:Int)∧((g.terms.length:Int)≤pl[k].2.1[j]→(g.terms.length+a:Int)≤pl[k].2.1[j]))→C' (.int .i64 ((j:Int)+1)) w4:=fun hg=>by
    refine hC' _ _ ⟨j+1,by simp,by omega,rfl,fun s hs=>?_⟩ (by simp [iv];omega)
    rw [List.take_succ_eq_append_getElem q11] at hs
    rcases List.mem_append.1 hs with hs | hs
    ·exact hjl s hs
    ·rw [List.mem_singleton.1 hs];exact hg
   refine SPL_intro (fun q14=>?_) (fun q14=>?_) <;> simp at q14
   ·simp -dsimp [go_sem,wj]
    refine SPL_intro (fun q15=>?_) (fun q15=>?_) <;> simp at q15
    ·exact no _ hst4.chg (bad2 fun hs=>by omega)
    ·simp -dsimp [go_sem,wj]
     exact go (by omega)
   ·simp -dsimp [go_sem,wj]
    exact go (by omega)
  ·have hja:j=pl[k].2.1.length:=by omega
   subst hja
   rw [List.take_length] at hjl
   have hok:ProdOk g a pl[k]:=⟨by omega,by omega,by omega,by omega,hjl⟩
   have hlefts:=ints_own hst4 1 rfl hin
   simp -dsimp [go_sem,kt]
   refine CALL_of (Contains_ct hlefts) ?_
   rintro _ _ ⟨rfl,rfl⟩
   have wk:IntKind.i64.wrap ((k:Int)+1)=(k:Int)+1:=IntWalk.i64_in _ (by omega)
   have htk:pl.take (k+1)=pl.take k++[pl[k]]:=List.take_succ_eq_append_getElem q6'
   have hlt:leftsOf (pl.take (k+1))=addL (leftsOf (pl.take k)) pl[k].1:=by rw [htk,leftsOf_snoc]
   have hall':∀p∈pl.take (k+1),ProdOk g a p:=by
    intro p hp
    rw [htk] at hp
    rcases List.mem_append.1 hp with hp | hp
    ·exact hall p hp
    ·rw [List.mem_singleton.1 hp];exact hok
   by_cases hc:pl[k].1∈leftsOf (pl.take k)
   ·have ha:addL (leftsOf (pl.take k)) pl[k].1=leftsOf (pl.take k):=if_pos hc
    rw [ha] at hlt
    simp -dsimp [go_sem,hc,wk]
    have h8:=hst4.take 2
    rw [←hlt] at h8
    refine hC _ _ _ ⟨k+1,_,_,_,by simp,rfl,by omega,by rw [hlt];exact hn,h8,by omega,hall',?_⟩ (by simp [iv];omega)
    rw [hlt];exact hin
   ·have ha:addL (leftsOf (pl.take k)) pl[k].1=leftsOf (pl.take k)++[pl[k].1]:=if_neg hc
    rw [ha] at hlt
    simp -dsimp [go_sem,hc,kt]
    refine hst4.append1 1 rfl uInts iInt rfl (by omega) (news:=[.int .i64 pl[k].1]) rfl (by simp [Value.oneCell']) (by unfold maxLen;omega) (by unfold maxBytes;omega) ?_
    intro g' cap w6 hst6
    simp -dsimp [go_sem,wk]
    have h8:=hst6.take 2
    have em:(leftsOf (pl.take k)).map (Value.int .i64 ·)++[.int .i64 pl[k].1]=(leftsOf (pl.take (k+1))).map (Value.int .i64 ·):=by rw [hlt,List.map_append];rfl
    rw [em] at h8
    refine hC _ _ _ ⟨k+1,_,_,_,by simp,rfl,by omega,by rw [hlt,List.length_append,hn];rfl,h8,by omega,hall',?_⟩ (by simp [iv];omega)
    rw [hlt]
    intro x hx
    rcases List.mem_append.1 hx with hx | hx
    ·exact hin x hx
    ·rw [List.mem_singleton.1 hx];exact i1
 ·have hka:k=pl.length:=by
   have:¬k<pl.length:=by simpa using q6
   omega
  subst hka
  rw [List.take_length] at hst hall hn hin
  clear hC C
  have hstd:=hst.old ((Chg.refl noB w3).drew)
  have kd:=hstd.box 0 rfl
  simp [boxAt] at kd
  have wn:IntKind.i64.wrap ((g.nons.length:Int)-a)=(g.nons.length:Int)-a:=IntWalk.i64_in _ (by omega)
  have hlefts:=ints_own hstd 1 rfl hin
  simp -dsimp [go_sem,kd,k3,wn]
  have fin:∀b:Bool,(b=true↔ProdsP g a)→R (.returned (.tuple #[.slice A n c,.bool b])) w3.drew:=fun b hb =>
   hR _ _ ⟨⟨.slice A n c,(by rw [←bool_eq (hb.trans prodB_iff.symm)]),fun _=>by rw [hE];exact hlefts⟩,hstd.chg⟩
  have each:∀p∈g.prods.drop a,ProdOk g a p:=by rw [hE];exact hall
  refine SPL_intro (fun q7=>?_) (fun q7=>?_) <;> simp at q7
  ·simp -dsimp [go_sem,kd,k3]
   refine SPL_intro (fun q8=>?_) (fun q8=>?_) <;> simp at q8
   ·simp -dsimp [go_sem,kd,k3]
    refine fin _ ?_
    rw [decide_eq_true_iff]
    exact ⟨fun hs=>⟨by omega,by omega,each,by rw [hE,←hn];omega,q8,hs⟩,fun hs=>hs.s1⟩
   ·exact fin false ⟨fun h=>(by cases h),fun hs=>by have:=hs.s0;omega⟩
  ·exact fin false ⟨fun h=>(by cases h),fun hs=>by have:=hs.lefts;rw [hE,←hn] at this;omega⟩
end Go.Proofs.Ytmoepnfobnpdiaa

/-
  The document's answer: productions that fit; the Lefts.
-/
namespace Go.Proofs.Ytmoepnfobnpdiaa
open Go.Px Go.Px.Scan Go.RowKit
attribute [-go_sem] Builtin.append_

def PFitP (g:Gr) (a:Nat):Prop:=∀p∈g.prods.drop a,ProdOk g a p
open Classical in
noncomputable def pfitB (g:Gr) (a:Nat):Bool:=decide (PFitP g a)
theorem pfitB_iff {g:Gr} {a:Nat}:pfitB g a=true↔PFitP g a:=@decide_eq_true_iff _ (_)

theorem prodsFit_ct {w:World} {B:Nat} {v:Value} {g:Gr} (h:rGram.atN w B v g) (hB:B≤w.heap.size) (a:Nat) (ha:a≤1) (hs:g.terms.length+g.nons.length≤1000) :
  Ct Try.prog ref02_prodsFit.id #[v,.int .i64 a,.int .i64 ((g.terms.length:Int)+a)] w fun r w'=>r = .bool (pfitB g a)∧Chg noB w w':=by
 refine ref02_prodsFit.ct fun R hR=>?_
 obtain ⟨A1,c1,A2,c2,A3,c3,A4,c4,rfl,⟨m1,m2,m3,m4⟩,_,hc0,hg⟩:=box_all h hB
 have no:∀w',Chg noB w w'→¬PFitP g a→R (.returned (.bool false)) w':=fun w' hc hn=>hR _ _ ⟨by rw [bool_no pfitB_iff hn],hc⟩
 unfold ref02_prodsFit.run
 simp -dsimp [go_sem]
 generalize hw1:w.alloc (.cells #[.slice A1 g.terms.length c1,.slice A2 g.nons.length c2,.slice A3 g.levels.length c3,.int .i64 g.start,.slice A4 g.prods.length c4] 27)=w1 at hc0 hg ⊢
 have hz:∀w',Chg noB w1 w'→rGram.atN w' B (.agg #[.slice A1 g.terms.length c1,.slice A2 g.nons.length c2,.slice A3 g.levels.length c3,.int .i64 g.start,.slice A4 g.prods.length c4]) g∧B≤w'.heap.size:=fun w' hc =>
  ⟨rGram_below h ((hc0.trans hc).below hB fun _ _=>id),(hg w' hc).sz⟩
 generalize w.heap.size=q at hg ⊢
 generalize hE:g.prods.drop a=nl
 have hnl:nl.length=g.prods.length-a:=by rw [←hE];simp
 have hel:∀i (hi:i<nl.length),g.prods[a+i]'(by omega)=nl[i]:=fun i hi=>by simp [←hE]
 refine ref02_prodsFit.l6_intro _ _ _ _ _ (fun y w'=>∃j k:Nat,y = .int .i64 j∧j=a+k∧k≤nl.length∧Chg noB w1 w'∧∀p∈nl.take k,ProdOk g a p) (fun y _=>g.prods.length+a-iv y) ⟨a,0,rfl,rfl,by omega,Chg.refl _ _,by simp⟩ ?_
 rintro _ w2 ⟨j,k,rfl,hj,hk,hcw,hall⟩ C hC
 have z2:=hg w2 hcw
 simp -dsimp [go_sem,z2.k]
 refine SPL_intro (fun p1=>?_) (fun p1=>?_) <;> simp at p1
 ·have hk1:k<nl.length:=by omega
  have wj:IntKind.i64.wrap ((j:Int)+1)=(j:Int)+1:=IntWalk.i64_in _ (by unfold maxLen at m4;omega)
  obtain ⟨b2,o2,vr,rfl,hb2,d1,d2,d3,dr,i1,i2⟩:=prods_at z2.r4 p1
  obtain ⟨Ar,cr,rfl,lr,mr,_⟩:=slice_form dr
  have hej:g.prods[j]=nl[k]:=by subst hj;exact hel k hk1
  have bad:¬ProdOk g a g.prods[j]→¬PFitP g a:=fun hn hs=>hn (hs _ (by rw [hE,hej];exact List.getElem_mem hk1))
  generalize hp:g.prods[j]=p at d1 d2 d3 dr i1 i2 lr bad
  have s3:=(St.refl noB w2).alloc #[.int .i64 p.1,.slice Ar p.2.1.length cr,.int .i64 p.2.2] 67
  have z3:=hg _ (hcw.trans s3.chg)
  simp -dsimp [go_sem,z2.k,p1,d1,d2,d3,z3.k]
  generalize w2.heap.size=pb at s3 ⊢
  generalize w2.alloc (.cells #[.int .i64 p.1,.slice Ar p.2.1.length cr,.int .i64 p.2.2] 67)=w3 at s3 z3 ⊢
  have y3:=s3.box 0 rfl
  simp [boxAt] at y3
  have s3d:=s3.old ((Chg.refl noB w3).drew)
  have z3d:=hg _ (hcw.trans s3d.chg)
  have y3d:=s3d.box 0 rfl
  simp [boxAt] at y3d
  refine SPL_intro (fun p2=>?_) (fun p2=>?_) <;> simp at p2
  ·simp -dsimp [go_sem]
   exact no _ (hc0.trans (hcw.trans s3d.chg)) (bad fun hs=>by have:=hs.l0;omega)
  simp -dsimp [go_sem,y3d,z3d.k]
  refine CALL_of (Symbols_ct (hz _ (hcw.trans s3d.chg)).1 (hz _ (hcw.trans s3d.chg)).2 hs) ?_
  rintro _ w4 ⟨rfl,hc4⟩
  have s4:=s3d.old hc4
  have h4:=hcw.trans s4.chg
  have z4:=hg _ h4
  have y4:=s4.box 0 rfl
  simp [boxAt] at y4
  simp -dsimp [go_sem,y4,z4.k]
  refine SPL_intro (fun p3=>?_) (fun p3=>?_) <;> simp at p3
  ·simp -dsimp [go_sem]
   exact no _ (hc0.trans h4) (bad fun hs=>by have:=hs.l1;omega)
  simp -dsimp [go_sem,y4,z4.k]
  refine SPL_intro (fun p4=>?_) (fun p4=>?_) <;> simp at p4
  ·simp -dsimp [go_sem]
   exact no _ (hc0.trans h4) (bad fun hs=>by have:=hs.v0;omega)
  simp -dsimp [go_sem,y4,z4.k]
  refine SPL_intro (fun p5=>?_) (fun p5=>?_) <;> simp at p5
  ·exact no _ (hc0.trans h4) (bad fun hs=>by have:=hs.v1;omega)
  have hB2:=z2.sz
  simp -dsimp [go_sem]
  refine ref02_prodsFit.l15_intro _ _ _ _ _ _ _ _ (fun y w'=>∃n:Nat,y = .int .i64 n∧n≤p.2.1.length∧St noB w2 w' [boxC pb 67 [.int .i64 p.1,.slice Ar p.2.1.length cr,.int .i64 p.2.2]] ∧
   ∀s∈p.2.1.take n,1≤s∧s<(g.terms.length+g.nons.length:Int)∧((g.terms.length:Int)≤s→(g.terms.length+a:Int)≤s)) (fun y _=>p.2.1.length-iv y) ⟨0,rfl,by omega,s4,by simp⟩ ?_
  rintro _ w5 ⟨n,rfl,hn,s5,hr⟩ C' hC'
  have h5:=hcw.trans s5.chg
  have z5:=hg _ h5
  have y5:=s5.box 0 rfl
  simp [boxAt] at y5
  simp -dsimp [go_sem,y5]
  refine SPL_intro (fun q1=>?_) (fun q1=>?_) <;> simp at q1
  ·obtain ⟨b6,o6,rfl,hb6,e1,e2⟩:=Go.Px.ints_at (Rep.below dr (s5.chg.below hB2 fun _ _=>id)) q1
   have wn:=wrap_succ q1 (Nat.le_trans lr mr)
   have bad2:¬(1≤p.2.1[n]∧p.2.1[n]<(g.terms.length+g.nons.length:Int)∧((g.terms.length:Int)≤p.2.1[n]→(g.terms.length+a:Int)≤p.2.1[n]))→¬PFitP g a:=fun hn=>bad fun hs=>hn (hs.right _ (List.getElem_mem q1))
   simp -dsimp [go_sem,y5,q1,e1]
   refine SPL_intro (fun q2=>?_) (fun q2=>?_) <;> simp at q2
   ·simp -dsimp [go_sem]
    exact no _ (hc0.trans h5) (bad2 fun hs=>by omega)
   simp -dsimp [go_sem,z5.k]
   refine CALL_of (Symbols_ct (hz _ h5).1 (hz _ h5).2 hs) ?_
   rintro _ w6 ⟨rfl,hc6⟩
   have s6:=s5.old hc6
   have h6:=hcw.trans s6.chg
   have z6:=hg _ h6
   simp -dsimp [go_sem]
   refine SPL_intro (fun q3=>?_) (fun q3=>?_) <;> simp at q3
   ·simp -dsimp [go_sem]
    exact no _ (hc0.trans h6) (bad2 fun hs=>by omega)
   have good:(1≤p.2.1[n]∧p.2.1[n]<(g.terms.length+g.nons.length:Int)∧((g.terms.length:Int)≤p.2.1[n]→(g.terms.length+a:Int)≤p.2.1[n]))→C' (.int .i64 ((n:Int)+1)) w6:=fun hg=>by
    refine hC' _ _ ⟨n+1,by simp,by omega,s6,fun s hs=>?_⟩ (by simp [iv];omega)
    rw [List.take_succ_eq_append_getElem q1] at hs
    rcases List.mem_append.1 hs with hs | hs
    ·exact hr s hs
    ·rw [List.mem_singleton.1 hs];exact hg
   simp -dsimp [go_sem,z6.k]
   refine SPL_intro (fun q4=>?_) (fun q4=>?_) <;> simp at q4
   ·simp -dsimp [go_sem]
    refine SPL_intro (fun q5=>?_) (fun q5=>?_) <;> simp at q5
    ·exact no _ (hc0.trans h6) (bad2 fun hs=>by omega)
    ·simp -dsimp [go_sem,wn]
     exact good (by omega)
   ·simp -dsimp [go_sem,wn]
    exact good (by omega)
  ·have hna:n=p.2.1.length:=by omega
   subst hna
   rw [List.take_length] at hr
   simp -dsimp [go_sem,wj]
   refine hC _ _ ⟨j+1,k+1,by simp,by omega,by omega,h5,fun x hx=>?_⟩ (by simp [iv];omega)
   rw [List.take_succ_eq_append_getElem hk1] at hx
   rcases List.mem_append.1 hx with hx | hx
   ·exact hall x hx
   ·rw [List.mem_singleton.1 hx,←hej,hp]
    exact ⟨by omega,by omega,by omega,by omega,hr⟩
 ·have hka:k=nl.length:=by omega
  subst hka
  rw [List.take_length] at hall
  simp -dsimp [go_sem]
  refine hR _ _ ⟨?_,hc0.trans hcw⟩
  rw [pfitB_iff.2 (by unfold PFitP;rw [hE];exact hall)]

theorem lefts_ct {w:World} {B:Nat} {v:Value} {g:Gr} (h:rGram.atN w B v g) (hB:B≤w.heap.size) (a:Nat) (ha:a≤1) (hp:g.prods.length≤1000) :
  Ct Try.prog ref02_lefts.id #[v,.int .i64 a] w fun r w'=>(rSlice rInt).at1 w' w'.heap.size r (leftsOf (g.prods.drop a))∧Chg noB w w':=by
 refine ref02_lefts.ct fun R hR=>?_
 obtain ⟨A1,c1,A2,c2,A3,c3,A4,c4,rfl,⟨m1,m2,m3,m4⟩,_,hc0,hg⟩:=box_all h hB
 unfold ref02_lefts.run
 simp -dsimp [go_sem]
 generalize hw1:w.alloc (.cells #[.slice A1 g.terms.length c1,.slice A2 g.nons.length c2,.slice A3 g.levels.length c3,.int .i64 g.start,.slice A4 g.prods.length c4] 27)=w1 at hc0 hg ⊢
 generalize w.heap.size=q at hg ⊢
 generalize hE:g.prods.drop a=nl
 rw [hE] at hR
 have hnl:nl.length=g.prods.length-a:=by rw [←hE];simp
 have hel:∀i (hi:i<nl.length),g.prods[a+i]'(by omega)=nl[i]:=fun i hi=>by simp [←hE]
 have n0:=(St.refl noB w1).nilRow 3 1
 refine ref02_lefts.l6_intro _ _ _ _ _ (fun x y w'=>∃(j k:Nat) (A:Option Addr) (n c:Nat),y = .int .i64 j∧x = .slice A n c∧j=a+k∧k≤nl.length∧n=(leftsOf (nl.take k)).length ∧
  St noB w1 w' [rowC 3 1 A n c ((leftsOf (nl.take k)).map (Value.int .i64 ·))]∧n≤k∧∀x∈leftsOf (nl.take k),inI64 x) (fun _ y _=>g.prods.length+a-iv y) ⟨a,0,none,0,0,rfl,rfl,rfl,by omega,rfl,by simpa [leftsOf] using n0,by omega,by simp [leftsOf]⟩ ?_
 rintro _ _ w2 ⟨j,k,A,n,c,rfl,rfl,hj,hk,hn,hst,hnk,hin⟩ C hC
 have z2:=hg w2 hst.chg
 simp -dsimp [go_sem,z2.k]
 refine SPL_intro (fun p1=>?_) (fun p1=>?_) <;> simp at p1
 ·have hk1:k<nl.length:=by omega
  have wj:IntKind.i64.wrap ((j:Int)+1)=(j:Int)+1:=IntWalk.i64_in _ (by omega)
  have hej:g.prods[j]=nl[k]:=by subst hj;exact hel k hk1
  have htk:nl.take (k+1)=nl.take k++[nl[k]]:=List.take_succ_eq_append_getElem hk1
  have hlt:leftsOf (nl.take (k+1))=addL (leftsOf (nl.take k)) nl[k].1:=by rw [htk,leftsOf_snoc]
  have pr:∀w',Chg noB w2 w'→∃b o,A4=some ⟨b,o,none⟩∧w'.cell? ⟨b,o+j*3,none⟩=some (.int .i64 nl[k].1)∧inI64 nl[k].1:=fun w' hc=>by
   obtain ⟨b,o,vr,e,_,d1,_,_,_,i1,_⟩:=prods_at (hg w' (hst.chg.trans hc)).r4 p1
   rw [hej] at d1 i1
   exact ⟨b,o,e,d1,i1⟩
  have hLe:∃L,L=leftsOf (nl.take k):=⟨_,rfl⟩
  refine hLe.elim fun L hL=>?_
  rw [←hL] at hn hst hin hlt
  subst hn
  simp -dsimp [go_sem]
  refine ref02_lefts.l16_intro _ _ _ _ _ _ _ _ (fun x y w'=>∃(i:Nat) (b:Bool),y = .int .i64 i∧x = .bool b∧i≤L.length∧St noB w1 w' [rowC 3 1 A L.length c (L.map (Value.int .i64 ·))]∧Chg noB w2 w'∧(b=true↔nl[k].1∈L.take i)) (fun _ y _=>L.length-iv y) ⟨0,false,rfl,rfl,by omega,hst,Chg.refl _ _,by simp⟩ ?_
  rintro _ _ w3 ⟨i,b,rfl,rfl,hi,s3,hc3,hb⟩ C' hC'
  simp -dsimp [go_sem]
  refine SPL_intro (fun p2=>?_) (fun p2=>?_) <;> simp at p2
  ·have wi:IntKind.i64.wrap ((i:Int)+1)=(i:Int)+1:=IntWalk.i64_in _ (by omega)
   have hti:L.take (i+1)=L.take i++[L[i]]:=List.take_succ_eq_append_getElem p2
   have s3d:=s3.old ((Chg.refl noB w3).drew)
   obtain ⟨g3,e3,x1,_⟩:=s3d.rowAt 0 rfl (j:=i) (by simpa using p2)
   subst e3
   simp only [List.getElem_map] at x1
   cases b with
   | true =>
    simp -dsimp [go_sem,wi]
    refine hC' _ _ _ ⟨i+1,true,by simp,rfl,by omega,s3d,hc3.drew,?_⟩ (by simp [iv];omega)
    rw [hti,List.mem_append];exact ⟨fun _=>Or.inl (hb.1 rfl),fun _=>rfl⟩
   | false =>
    obtain ⟨b4,o4,rfl,x2,_⟩:=pr _ hc3.drew
    have zd:=hg _ s3d.chg
    simp -dsimp [go_sem,zd.k,p1,p2,x1,x2,wi]
    refine hC' _ _ _ ⟨i+1,_,by simp,rfl,by omega,s3d,hc3.drew,?_⟩ (by simp [iv];omega)
    rw [hti,List.mem_append,List.mem_singleton,beq_iff_eq]
    constructor
    ·intro e;exact Or.inr e.symm
    ·rintro (h1 | h1)
     ·exact absurd (hb.2 h1) (by simp)
     ·exact h1.symm
  ·have hia:i=L.length:=by omega
   subst hia
   rw [List.take_length] at hb
   cases b with
   | true =>
    have ha':addL L nl[k].1=L:=if_pos (hb.1 rfl)
    rw [ha'] at hlt
    simp -dsimp [go_sem,wj]
    refine hC _ _ _ ⟨j+1,k+1,A,L.length,c,by simp,rfl,by omega,by omega,by rw [hlt],by rw [hlt];exact s3,by omega,by rw [hlt];exact hin⟩ (by simp [iv];omega)
   | false =>
    have hno:nl[k].1∉L:=fun h=>by have:=hb.2 h;cases this
    have ha':addL L nl[k].1=L++[nl[k].1]:=if_neg hno
    rw [ha'] at hlt
    obtain ⟨b4,o4,rfl,x2,i2⟩:=pr _ hc3
    have z3:=hg _ s3.chg
    simp -dsimp [go_sem,z3.k,p1,x2]
    refine s3.append1 0 rfl uInts iInt rfl (by omega) (news:=[.int .i64 nl[k].1]) rfl (by simp [Value.oneCell']) (by unfold maxLen;omega) (by unfold maxBytes;omega) ?_
    intro g' cap w6 h6
    simp -dsimp [go_sem,wj]
    have em:L.map (Value.int .i64 ·)++[.int .i64 nl[k].1]=(leftsOf (nl.take (k+1))).map (Value.int .i64 ·):=by rw [hlt,List.map_append];rfl
    rw [em] at h6
    refine hC _ _ _ ⟨j+1,k+1,_,_,_,by simp,rfl,by omega,by omega,by rw [hlt,List.length_append];rfl,h6,by omega,?_⟩ (by simp [iv];omega)
    rw [hlt]
    intro x hx
    rcases List.mem_append.1 hx with hx | hx
    ·exact hin x hx
    ·rw [List.mem_singleton.1 hx];exact i2
 ·have hka:k=nl.length:=by omega
  subst hka
  rw [List.take_length] at hst hn hin
  simp -dsimp [go_sem]
  exact hR _ _ ⟨ints_own hst 0 rfl hin,hc0.trans hst.chg⟩
end Go.Proofs.Ytmoepnfobnpdiaa

/-
  The document's answer: which grammars are plain, which are closed.
-/
namespace Go.Proofs.Ytmoepnfobnpdiaa
open Go.Px Go.Px.Scan Go.RowKit
attribute [-go_sem] Builtin.append_

/-- All but what the added one has of its own. -/
def FitsP (g:Gr) (a:Nat):Prop:=SymsP g a∧ProdsP g a
open Classical in
noncomputable def fitsB (g:Gr) (a:Nat):Bool:=decide (FitsP g a)
theorem fitsB_iff {g:Gr} {a:Nat}:fitsB g a=true↔FitsP g a:=@decide_eq_true_iff _ (_)

theorem levels_tail {g:Gr} (h0:g.terms.head?=some (⟨#[]⟩,0)) (i:Nat):(∃t∈g.terms,t.2=(i:Int)+1)↔∃t∈g.terms.tail,t.2=(i:Int)+1:=by
 cases e:g.terms with
 | nil=>simp
 | cons t r =>
  rw [e] at h0
  simp at h0
  constructor
  ·rintro ⟨x,hx,hi⟩
   rcases List.mem_cons.1 hx with rfl | hx
   ·rw [h0] at hi;simp at hi;omega
   ·exact ⟨x,hx,hi⟩
  ·rintro ⟨x,hx,hi⟩;exact ⟨x,List.mem_cons_of_mem _ hx,hi⟩

theorem fits_ct {w:World} {B:Nat} {v:Value} {g:Gr} (h:rGram.atN w B v g) (hB:B≤w.heap.size) (a:Nat) (ha:a≤1):Ct Try.prog ref02_fits.id #[v,.int .i64 a] w fun r w'=>r = .bool (fitsB g a)∧Chg noB w w':=by
 refine ref02_fits.ct fun R hR=>?_
 obtain ⟨A1,c1,A2,c2,A3,c3,A4,c4,rfl,⟨m1,m2,m3,m4⟩,hst,hc0,hg⟩:=box_all h hB
 have no:∀w',Chg noB w w'→¬FitsP g a→R (.returned (.bool false)) w':=fun w' hc hn=>hR _ _ ⟨by rw [bool_no fitsB_iff hn],hc⟩
 unfold ref02_fits.run
 have w64:IntKind.i64.wrap (64+(a:Int))=64+a:=IntWalk.i64_in _ (by omega)
 simp -dsimp [go_sem,w64]
 generalize hw1:w.alloc (.cells #[.slice A1 g.terms.length c1,.slice A2 g.nons.length c2,.slice A3 g.levels.length c3,.int .i64 g.start,.slice A4 g.prods.length c4] 27)=w1 at hc0 hg ⊢
 have hz:∀w',Chg noB w1 w'→rGram.atN w' B (.agg #[.slice A1 g.terms.length c1,.slice A2 g.nons.length c2,.slice A3 g.levels.length c3,.int .i64 g.start,.slice A4 g.prods.length c4]) g∧B≤w'.heap.size:=fun w' hc =>
  ⟨rGram_below h ((hc0.trans hc).below hB fun _ _=>id),(hg w' hc).sz⟩
 generalize w.heap.size=q at hg ⊢
 have z1:=hg w1 (Chg.refl _ _)
 refine SPL_intro (fun q1=>?_) (fun q1=>?_) <;> simp at q1
 ·simp -dsimp [go_sem]
  exact no _ hc0 fun hs=>by have:=hs.1.n1;omega
 simp -dsimp [go_sem,z1.k]
 refine SPL_intro (fun q2=>?_) (fun q2=>?_) <;> simp at q2
 ·simp -dsimp [go_sem]
  exact no _ hc0 fun hs=>by have:=hs.1.t1;omega
 have w96:IntKind.i64.wrap (96+(a:Int))=96+a:=IntWalk.i64_in _ (by omega)
 simp -dsimp [go_sem,z1.k,w96]
 refine SPL_intro (fun q3=>?_) (fun q3=>?_) <;> simp at q3
 ·simp -dsimp [go_sem]
  exact no _ hc0 fun hs=>by have:=hs.2.c1;omega
 have wa1:IntKind.i64.wrap (1+(a:Int))=1+a:=IntWalk.i64_in _ (by omega)
 simp -dsimp [go_sem,z1.k,wa1]
 refine SPL_intro (fun q4=>?_) (fun q4=>?_) <;> simp at q4
 ·simp -dsimp [go_sem]
  exact no _ hc0 fun hs=>by have:=hs.2.c0;omega
 simp -dsimp [go_sem,z1.k]
 refine SPL_intro (fun q5=>?_) (fun q5=>?_) <;> simp at q5
 ·exact no _ hc0 fun hs=>by have:=hs.1.lev;omega
 have w65:IntKind.i64.wrap ((g.terms.length:Int)-1)=(g.terms.length:Int)-1:=IntWalk.i64_in _ (by omega)
 have w66:IntKind.i64.wrap ((g.terms.length:Int)-1+g.nons.length)=(g.terms.length:Int)-1+g.nons.length:=IntWalk.i64_in _ (by omega)
 have w67:IntKind.i64.wrap ((g.terms.length:Int)-1+g.nons.length-a)=(g.terms.length:Int)-1+g.nons.length-a:=IntWalk.i64_in _ (by omega)
 simp -dsimp [go_sem,z1.k,w65,w66,w67]
 refine SPL_intro (fun q6=>?_) (fun q6=>?_) <;> simp at q6
 ·exact no _ hc0 fun hs=>by
   have h1:=hs.1.sum
   have h2:0<g.terms.length:=by
    have:=hs.1.t0
    cases e:g.terms with
    | nil=>rw [e] at this;cases this
    | cons t r=>simp
   have h3:=hs.1.n0
   omega
 have hs:g.terms.length+g.nons.length≤1000:=by omega
 simp -dsimp [go_sem,z1.k]
 refine CALL_of (termsFit_ct (hz _ (Chg.refl _ _)).1 (hz _ (Chg.refl _ _)).2) ?_
 rintro _ w2 ⟨rfl,hc2⟩
 have z2:=hg _ hc2
 cases hT:termsB g with
 | false =>
  simp -dsimp [go_sem]
  exact no _ (hc0.trans hc2) fun hs=>by rw [termsB_iff.2 ⟨hs.1.t0,hs.1.terms,hs.1.tnd⟩] at hT;cases hT
 | true =>
  have hTP:=termsB_iff.1 hT
  simp -dsimp [go_sem,z2.k]
  refine CALL_of (levelsFit_ct (hz _ hc2).1 (hz _ hc2).2) ?_
  rintro _ w3 ⟨rfl,hc3⟩
  have h3:=hc2.trans hc3
  have z3:=hg _ h3
  simp -dsimp [go_sem,z3.k]
  refine CALL_of (nonsFit_ct (hz _ h3).1 (hz _ h3).2 a ha) ?_
  rintro _ w4 ⟨rfl,hc4⟩
  have h4:=h3.trans hc4
  have z4:=hg _ h4
  have wl:IntKind.i64.wrap ((g.terms.length:Int)+a)=(g.terms.length:Int)+a:=IntWalk.i64_in _ (by omega)
  simp -dsimp [go_sem,z4.k,wl]
  refine CALL_of (prodsFit_ct (hz _ h4).1 (hz _ h4).2 a ha hs) ?_
  rintro _ w5 ⟨rfl,hc5⟩
  have h5:=h4.trans hc5
  have z5:=hg _ h5
  simp -dsimp [go_sem,z5.k]
  refine CALL_of (lefts_ct (hz _ h5).1 (hz _ h5).2 a ha (by omega)) ?_
  rintro vl w6 ⟨hl,hc6⟩
  obtain ⟨Al,cl,rfl,_⟩:=slice_form hl
  have h6:=h5.trans hc6
  have h6d:=h6.drew
  have z6:=hg _ h6
  have z6d:=hg _ h6d
  have hlev:=levelsB_iff (g:=g)
  have hnon:=nonsB_iff (g:=g) (a:=a)
  have hpf:=pfitB_iff (g:=g) (a:=a)
  have nt0:∃n,g.terms.length=n+1:=by
   have:=hTP.1
   cases e:g.terms with
   | nil=>rw [e] at this;cases this
   | cons t r=>exact ⟨r.length,rfl⟩
  obtain ⟨nt,hnt⟩:=nt0
  cases hL:levelsB g with
  | false =>
   simp -dsimp [go_sem]
   exact no _ (hc0.trans h6d) fun hs=>by
    have:LevelsP g:=fun i hi=>⟨(hs.1.levels i hi).1,(hs.1.levels i hi).2.1,(levels_tail hTP.1 i).2 (hs.1.levels i hi).2.2⟩
    rw [hlev.2 this] at hL;cases hL
  | true =>
   cases hN:nonsB g a with
   | false =>
    simp -dsimp [go_sem]
    exact no _ (hc0.trans h6d) fun hs=>by rw [hnon.2 ⟨hs.1.nnd,hs.1.nnam⟩] at hN;cases hN
   | true =>
    cases hP:pfitB g a with
    | false =>
     simp -dsimp [go_sem]
     exact no _ (hc0.trans h6d) fun hs=>by rw [hpf.2 hs.2.each] at hP;cases hP
    | true =>
     have hLP:=hlev.1 hL
     have hNP:=hnon.1 hN
     have hPP:=hpf.1 hP
     have wn:IntKind.i64.wrap ((g.nons.length:Int)-a)=(g.nons.length:Int)-a:=IntWalk.i64_in _ (by omega)
     simp -dsimp [go_sem,z6d.k,wn]
     have lpos:0<(leftsOf (g.prods.drop a)).length:=by
      have hp:0<(g.prods.drop a).length:=by simp;omega
      exact List.length_pos_of_mem (leftsOf_mem.2 ⟨(g.prods.drop a)[0],List.getElem_mem hp,rfl⟩)
     refine SPL_intro (fun p1=>?_) (fun p1=>?_) <;> simp at p1
     ·simp -dsimp [go_sem,z6d.k,wl]
      refine SPL_intro (fun p2=>?_) (fun p2=>?_) <;> simp at p2
      ·simp -dsimp [go_sem,z6d.k]
       refine CALL_of (Symbols_ct (hz _ h6d).1 (hz _ h6d).2 hs) ?_
       rintro _ w7 ⟨rfl,hc7⟩
       have z7:=hg _ (h6d.trans hc7)
       simp -dsimp [go_sem,z7.k]
       refine hR _ _ ⟨?_,hc0.trans (h6d.trans hc7)⟩
       congr 1
       refine bool_eq ?_
       rw [decide_eq_true_iff,fitsB_iff]
       constructor
       ·intro p3
        exact ⟨⟨hTP.1,by omega,by omega,by omega,by omega,hTP.2.1,fun i hi=>⟨(hLP i hi).1,(hLP i hi).2.1,(levels_tail hTP.1 i).1 (hLP i hi).2.2⟩,hTP.2.2,hNP.1,hNP.2⟩,
         ⟨by omega,by omega,hPP,by omega,by omega,by omega⟩⟩
       ·intro hs;exact hs.2.s1
      ·exact no _ (hc0.trans h6d) fun hs=>by have:=hs.2.s0;omega
     ·exact no _ (hc0.trans h6d) fun hs=>by have:=hs.2.lefts;omega

theorem refValid_ct {w:World} {B:Nat} {v:Value} {g:Gr} (h:rGram.atN w B v g) (hB:B≤w.heap.size):Ct Try.prog ref02_Valid.id #[v] w fun r w'=>r = .bool (validB g)∧Chg noB w w':=by
 refine ref02_Valid.ct fun R hR=>?_
 obtain ⟨A1,c1,A2,c2,A3,c3,A4,c4,rfl,⟨m1,m2,m3,m4⟩,hst,hc0,hg⟩:=box_all h hB
 have no:∀w',Chg noB w w'→¬ValidP g→R (.returned (.bool false)) w':=fun w' hc hn=>hR _ _ ⟨by rw [bool_no validB_iff hn],hc⟩
 unfold ref02_Valid.run
 simp -dsimp [go_sem]
 generalize hw1:w.alloc (.cells #[.slice A1 g.terms.length c1,.slice A2 g.nons.length c2,.slice A3 g.levels.length c3,.int .i64 g.start,.slice A4 g.prods.length c4] 27)=w1 at hc0 hg ⊢
 have hz:∀w',Chg noB w1 w'→rGram.atN w' B (.agg #[.slice A1 g.terms.length c1,.slice A2 g.nons.length c2,.slice A3 g.levels.length c3,.int .i64 g.start,.slice A4 g.prods.length c4]) g∧B≤w'.heap.size:=fun w' hc =>
  ⟨rGram_below h ((hc0.trans hc).below hB fun _ _=>id),(hg w' hc).sz⟩
 generalize w.heap.size=q at hg ⊢
 refine CALL_of (fits_ct (hz _ (Chg.refl _ _)).1 (hz _ (Chg.refl _ _)).2 0 (by omega)) ?_
 rintro _ w2 ⟨rfl,hc2⟩
 have z2:=hg _ hc2
 cases hF:fitsB g 0 with
 | false =>
  simp -dsimp [go_sem]
  exact no _ (hc0.trans hc2) fun hs=>by rw [fitsB_iff.2 ⟨hs.syms,hs.prods⟩] at hF;cases hF
 | true =>
  have hFP:=fitsB_iff.1 hF
  have hsy:=hFP.1.sum
  have ht1:=hFP.1.t1
  have hn1:=hFP.1.n1
  have hc1:=hFP.2.c1
  simp -dsimp [go_sem,z2.k]
  refine CALL_of (lefts_ct (hz _ hc2).1 (hz _ hc2).2 0 (by omega) (by omega)) ?_
  rintro vl w3 ⟨hl,hc3⟩
  rw [List.drop_zero] at hl
  obtain ⟨Al,cl,rfl,hll,hml,_⟩:=slice_form hl
  have hrow:=hFP.2.row
  have hlen:=hFP.2.lefts
  rw [List.drop_zero] at hlen
  generalize hL:leftsOf g.prods=L at *
  simp -dsimp [go_sem]
  refine ref02_Valid.l6_intro _ _ _ _ _ (fun y w'=>∃k:Nat,y = .int .i64 k∧k≤L.length∧Chg noB w3 w'∧∀i (hi:i<L.length),i<k→L[i]=(g.terms.length:Int)+i) (fun y _=>L.length-iv y) ⟨0,rfl,by omega,Chg.refl _ _,fun i hi h0=>by omega⟩ ?_
  rintro _ w4 ⟨k,rfl,hk,hc4,hall⟩ C hC
  simp -dsimp [go_sem]
  refine SPL_intro (fun p1=>?_) (fun p1=>?_) <;> simp at p1
  ·have z4:=hg _ ((hc2.trans hc3).trans hc4.drew)
   obtain ⟨b1,o1,rfl,hb1,x1,x2⟩:=Go.Px.ints_at (Rep.below hl (hc4.drew.below (Nat.le_refl _) fun _ _=>id)) p1
   have wk:IntKind.i64.wrap ((k:Int)+1)=(k:Int)+1:=IntWalk.i64_in _ (by omega)
   have wt:IntKind.i64.wrap ((g.terms.length:Int)+k)=(g.terms.length:Int)+k:=IntWalk.i64_in _ (by omega)
   simp -dsimp [go_sem,z4.k,p1,x1,wt]
   refine SPL_intro (fun p2=>?_) (fun p2=>?_) <;> simp at p2
   ·refine no _ (hc0.trans ((hc2.trans hc3).trans hc4.drew)) fun hv=>p2 ?_
    have:=hrow.1 (by rw [←hL];exact hv.sorted)
    exact this k p1
   ·simp -dsimp [go_sem,wk]
    refine hC _ _ ⟨k+1,by simp,by omega,hc4.drew,fun i hi hik=>?_⟩ (by simp [iv];omega)
    by_cases e:i=k
    ·subst e;exact p2
    ·exact hall i hi (by omega)
  ·simp -dsimp [go_sem]
   refine hR _ _ ⟨?_,hc0.trans ((hc2.trans hc3).trans hc4)⟩
   rw [validB_iff.2 ⟨hFP.1,hFP.2,by rw [hL];exact hrow.2 fun i hi=>hall i hi (by omega)⟩]

theorem refClosed_ct {w:World} {B:Nat} {v:Value} {g:Gr} (h:rGram.atN w B v g) (hB:B≤w.heap.size):Ct Try.prog ref02_Closed.id #[v] w fun r w'=>r = .bool (closedB g)∧Chg noB w w':=by
 refine ref02_Closed.ct fun R hR=>?_
 obtain ⟨A1,c1,A2,c2,A3,c3,A4,c4,rfl,⟨m1,m2,m3,m4⟩,hst,hc0,hg⟩:=box_all h hB
 have no:∀w',Chg noB w w'→¬ClosedP g→R (.returned (.bool false)) w':=fun w' hc hn=>hR _ _ ⟨by rw [bool_no closedB_iff hn],hc⟩
 unfold ref02_Closed.run
 simp -dsimp [go_sem]
 generalize hw1:w.alloc (.cells #[.slice A1 g.terms.length c1,.slice A2 g.nons.length c2,.slice A3 g.levels.length c3,.int .i64 g.start,.slice A4 g.prods.length c4] 27)=w1 at hc0 hg ⊢
 have hz:∀w',Chg noB w1 w'→rGram.atN w' B (.agg #[.slice A1 g.terms.length c1,.slice A2 g.nons.length c2,.slice A3 g.levels.length c3,.int .i64 g.start,.slice A4 g.prods.length c4]) g∧B≤w'.heap.size:=fun w' hc =>
  ⟨rGram_below h ((hc0.trans hc).below hB fun _ _=>id),(hg w' hc).sz⟩
 generalize w.heap.size=q at hg ⊢
 have z1:=hg w1 (Chg.refl _ _)
 refine SPL_intro (fun q1=>?_) (fun q1=>?_) <;> simp at q1
 ·simp -dsimp [go_sem]
  exact no _ hc0 fun hs=>by have:=hs.syms.n0;omega
 have q1':0<g.nons.length:=by omega
 obtain ⟨b2,o2,rfl,hb2,d1,d2⟩:=Go.Px.strs_at z1.r2 q1'
 simp at d1
 have hf:g.nons.head?=some g.nons[0]:=by rw [List.head?_eq_getElem?,List.getElem?_eq_getElem q1']
 simp -dsimp [go_sem,z1.k,q1',d1]
 refine SPL_intro (fun p1=>?_) (fun p1=>?_) <;> simp at p1
 ·simp -dsimp [go_sem]
  refine no _ hc0 fun hv=>p1 ?_
  have h9:=hv.first
  rw [hf] at h9
  injection h9 with h9
  rw [h9,ByteArray.toList_eq]
 have hfirst:g.nons.head?=some ⟨#[]⟩:=by
  rw [hf]
  congr 1
  exact bs_ext (by rw [←ByteArray.toList_eq];exact p1)
 simp -dsimp [go_sem,z1.k]
 refine SPL_intro (fun p2=>?_) (fun p2=>?_) <;> simp at p2
 ·exact no _ hc0 fun hv=>by have:=hv.prods.c0;omega
 have hc0':0<g.prods.length:=by omega
 obtain ⟨b5,o5,vr,rfl,hb5,f1,f2,f3,fr,i1,i2⟩:=prods_at z1.r4 hc0'
 obtain ⟨Ar,cr,rfl,lr,mr,_⟩:=slice_form fr
 simp at f1 f2 f3
 have hph:g.prods.head?=some g.prods[0]:=by rw [List.head?_eq_getElem?,List.getElem?_eq_getElem hc0']
 have bad:g.prods[0]≠((g.terms.length:Int),[g.start],0)→¬ClosedP g:=fun hn hv=>by
  have:=hv.added
  rw [hph] at this
  injection this with this
  exact hn this
 generalize hp:g.prods[0]=p at f1 f2 f3 fr bad lr
 have s3:=(St.refl noB w1).alloc #[.int .i64 p.1,.slice Ar p.2.1.length cr,.int .i64 p.2.2] 67
 have z3:=hg _ s3.chg
 simp -dsimp [go_sem,z1.k,hc0',f1,f2,f3,z3.k]
 generalize w1.heap.size=pb at s3 ⊢
 generalize w1.alloc (.cells #[.int .i64 p.1,.slice Ar p.2.1.length cr,.int .i64 p.2.2] 67)=w3 at s3 z3 ⊢
 have s3d:=s3.old ((Chg.refl noB w3).drew)
 have z3d:=hg _ s3d.chg
 have y3:=s3d.box 0 rfl
 simp [boxAt] at y3
 have s4d:=s3d.old ((Chg.refl noB w3.drew).drew)
 have hcd:=hc0.trans s3d.chg
 refine SPL_intro (fun p3=>?_) (fun p3=>?_) <;> simp at p3
 ·simp -dsimp [go_sem]
  exact no _ hcd (bad fun e=>p3 (by rw [e]))
 simp -dsimp [go_sem,y3,z3d.k]
 refine SPL_intro (fun p4=>?_) (fun p4=>?_) <;> simp at p4
 ·simp -dsimp [go_sem]
  exact no _ hcd (bad fun e=>p4 (by rw [e];rfl))
 have p4':0<p.2.1.length:=by omega
 obtain ⟨b6,o6,rfl,hb6,e1,e2⟩:=Go.Px.ints_at (Rep.below fr (s3d.chg.below z1.sz fun _ _=>id)) p4'
 simp at e1
 have hl1:p.2.1=[p.2.1[0]]:=by
  apply List.ext_getElem?
  intro i
  cases i with
  | zero=>simp [List.getElem?_eq_getElem p4']
  | succ i=>simp;omega
 simp -dsimp [go_sem,y3,z3d.k,p4',e1]
 refine SPL_intro (fun p5=>?_) (fun p5=>?_) <;> simp at p5
 ·simp -dsimp [go_sem]
  refine no _ hcd (bad fun e=>p5 ?_)
  have e2:p.2.1=[g.start]:=by rw [e]
  simp only [e2,List.getElem_cons_zero]
 simp -dsimp [go_sem,y3,z3d.k]
 refine SPL_intro (fun p6=>?_) (fun p6=>?_) <;> simp at p6
 ·exact no _ hcd (bad fun e=>p6 (by rw [e]))
 simp -dsimp [go_sem,z3d.k]
 refine CALL_of (fits_ct (hz _ s3d.chg).1 (hz _ s3d.chg).2 1 (by omega)) ?_
 rintro _ w5 ⟨rfl,hc5⟩
 refine hR _ _ ⟨?_,hcd.trans hc5⟩
 congr 1
 refine bool_eq ?_
 rw [fitsB_iff,closedB_iff]
 have hpe:p=((g.terms.length:Int),[g.start],0):=Prod.ext p3 (Prod.ext (by show p.2.1=[g.start];rw [hl1,p5]) p6)
 exact ⟨fun hs=>⟨hfirst,hs.1,hs.2,by rw [hph,hp,hpe]⟩,fun hv=>⟨hv.syms,hv.prods⟩⟩
end Go.Proofs.Ytmoepnfobnpdiaa

/-
  The document's answer for reach: Fits, Marks.
-/
namespace Go.Px
open Classical in
theorem least_ex {p:Nat→Prop}:∀(n:Nat),p n→∃m,p m∧∀k,p k→m≤k:=by
 intro n
 induction n using Nat.strongRecOn with
 | _ n ih =>
  intro h
  by_cases e:∃k,k<n∧p k
  ·obtain ⟨k,h1,h2⟩:=e;exact ih k h1 h2
  ·exact ⟨n,h,fun k hk=>Nat.le_of_not_lt fun hlt=>e ⟨k,hlt,hk⟩⟩
open Classical in
/-- The least number that goes with a world. -/
noncomputable def muOf (K:World→Nat→Prop) (w:World):Nat:=if h:∃m,K w m∧∀k,K w k→m≤k then h.choose else 0
theorem muOf_le {K:World→Nat→Prop} {w:World} {f:Nat} (h:K w f):muOf K w≤f:=by
 have h1:=least_ex (p:=K w) f h
 unfold muOf
 rw [dif_pos h1]
 exact h1.choose_spec.2 f h
theorem muOf_at {K:World→Nat→Prop} {w:World} (h:∃f,K w f):K w (muOf K w):=by
 obtain ⟨f,h⟩:=h
 have h1:=least_ex (p:=K w) f h
 unfold muOf
 rw [dif_pos h1]
 exact h1.choose_spec.1
end Go.Px
namespace Go.Px.Scan
open Go.Px
/-- Is a symbol marked? -/
def okS (nT:Int) (ms:List Bool) (s:Int):Bool:=decide (s<nT) || ms.getD (s-nT).toNat false
def boolV (ms:List Bool):List Value:=ms.map Value.bool
theorem boolV_len (ms:List Bool):(boolV ms).length=ms.length:=by simp [boolV]
end Go.Px.Scan
namespace Go.Proofs.Ytmoepnfobnpdiaa
open Go.Px Go.Px.Scan Go.RowKit
attribute [-go_sem] Builtin.append_ ref06_Fits.b12 ref06_Fits.b3

theorem iBool':(Try.prog.info? 4).map (fun i=>(i.zero,i.size,i.bytes))=some (some (.bool false),1,1):=by kernel_rfl
/-- A row of so many flags is made. -/
theorem mkFlags (w:World) (n:Nat) (h:n≤2*maxBytes):(Instr.makeSlice 69 (.int .i64 n) (.int .i64 n)).run Try.prog w = .ok (.slice (some ⟨w.heap.size,0,none⟩) n n) (w.alloc (.cells (Array.replicate n (Value.bool false)) 4)):=by
 obtain ⟨i0,hi,hz0,hz1,hz2⟩:=info_parts iBool'
 unfold maxBytes at h
 have:=run_make (P:=Try.prog) w 69 4 i0 _ Try.underlying69 hi hz0 .i64 .i64 n n (by omega) (by omega) (by rw [hz2];omega) (by omega)
 rw [this]
 have e:madeCells (Value.bool false).cells ((n:Int).toNat*i0.size)=Array.replicate n (Value.bool false):=by
  rw [hz1,Nat.mul_one,Int.toNat_natCast]
  have:=toList_madeCells_one (Value.bool false) n
  apply Array.toList_inj.1
  rw [Array.toList_replicate]
  exact this
 rw [e]
 simp
theorem Fits_ct {G:Nat→Prop} {W w:World} {L:List Ch} (s:St G W w L) {k m N:Nat} {ms:List Bool} (hN:ms.length=N) (hk:L[k]?=some (rowC 4 1 (some ⟨m,0,none⟩) N N (boolV ms)))
  {B:Nat} {vg vr:Value} {g:Gr} {row:List Int} (hg:rGram.atN w B vg g) (hrow:(rSlice rInt).at1 w B vr row) (hB:B≤w.heap.size) (hT:g.terms.length≤65) (hms:∀x∈row,x<g.terms.length+ms.length) :
  Ct Try.prog ref06_Fits.id #[vg,.slice (some ⟨m,0,none⟩) N N,vr] w fun v w'=>v = .bool (row.all (okS g.terms.length ms))∧Chg noB w w':=by
 subst hN
 refine ref06_Fits.ct fun R hR=>?_
 obtain ⟨A1,c1,A2,c2,A3,c3,A4,c4,rfl,⟨m1,m2,m3,m4⟩,hst,hc0,hgr⟩:=box_all hg hB
 obtain ⟨A,c,rfl,hl,hm,_⟩:=slice_form hrow
 have hmm:=(s.rowSize k hk).2.2
 unfold ref06_Fits.run
 simp -dsimp [go_sem]
 have s1:=s.alloc #[.slice A1 g.terms.length c1,.slice A2 g.nons.length c2,.slice A3 g.levels.length c3,.int .i64 g.start,.slice A4 g.prods.length c4] 27
 have hkl:=(List.getElem?_eq_some_iff.1 hk).1
 generalize w.alloc (.cells #[.slice A1 g.terms.length c1,.slice A2 g.nons.length c2,.slice A3 g.levels.length c3,.int .i64 g.start,.slice A4 g.prods.length c4] 27)=w1 at s1 hc0 hgr ⊢
 generalize w.heap.size=q at s1 hgr ⊢
 refine ref06_Fits.l6_intro _ _ _ _ _ _ (fun y w'=>∃i:Nat,y = .int .i64 i∧i≤row.length∧(row.take i).all (okS g.terms.length ms)=true∧Chg noB w1 w') (fun y _=>row.length-iv y) ⟨0,rfl,by omega,by simp,Chg.refl _ _⟩ ?_
 rintro _ w2 ⟨i,rfl,hi,hall,hc2⟩ C hC
 have hg2:=hgr w2 hc2
 have y2:=hg2.k
 simp -dsimp [go_sem]
 refine SPL_intro (fun p1=>?_) (fun p1=>?_) <;> simp at p1
 ·have wi:IntKind.i64.wrap ((i:Int)+1)=(i:Int)+1:=wrap_succ p1 (by omega)
  obtain ⟨b,o,rfl,hb,ck,hin⟩:=Go.Px.ints_at (Rep.below hrow ((hc0.trans hc2).below hB fun _ _=>id)) p1
  have et:row.take (i+1)=row.take i++[row[i]]:=List.take_succ_eq_append_getElem p1
  have hx:=hms row[i] (List.getElem_mem p1)
  have hd:Chg noB w2 w2.drew:=(Chg.refl _ _).drew
  simp -dsimp [go_sem,p1,ck,y2]
  refine SPL_intro (fun p2=>?_) (fun p2=>?_) <;> simp at p2
  ·obtain ⟨j,hj⟩:∃j:Nat,row[i]-(g.terms.length:Int)=j:=⟨(row[i]-(g.terms.length:Int)).toNat,by omega⟩
   have hjl:j<ms.length:=by omega
   have wj:IntKind.i64.wrap (row[i]-(g.terms.length:Int))=(j:Int):=by rw [hj];exact IntWalk.i64_in _ (by unfold maxLen at hmm;omega)
   have s2:=(s1.old hc2)
   obtain ⟨gm,em,cm,fm⟩:=s2.rowAt k (by rw [List.getElem?_append_left hkl];exact hk) (j:=j) (by rw [boolV_len];exact hjl)
   injection em with em;injection em with em;subst em
   have cmv:(boolV ms)[j]'(by rw [boolV_len];exact hjl) = .bool ms[j]:=by simp [boolV]
   rw [cmv] at cm
   have hok:okS g.terms.length ms row[i]=ms[j]:=by
    unfold okS
    rw [decide_eq_false (by omega),hj,Bool.false_or,Int.toNat_natCast,List.getD_eq_getElem?_getD,List.getElem?_eq_getElem hjl];rfl
   simp -dsimp [go_sem,p1,ck,y2,wj,hjl,cm]
   unfold ref06_Fits.b12
   cases hb:ms[j] with
   | true =>
    simp -dsimp [go_sem,wi]
    exact hC _ _ ⟨i+1,by simp,by omega,by rw [et,List.all_append,hall];simp [hok,hb],hc2.trans hd⟩ (by simp [iv];omega)
   | false =>
    simp -dsimp [go_sem,wi]
    refine hR _ _ ⟨?_,(hc0.trans hc2).trans hd⟩
    congr 1
    symm
    rw [List.all_eq_false]
    exact ⟨_,List.getElem_mem p1,by rw [hok,hb];simp⟩
  ·have hok:okS g.terms.length ms row[i]=true:=by unfold okS;rw [decide_eq_true (by omega)];rfl
   unfold ref06_Fits.b12
   simp -dsimp [go_sem,wi]
   exact hC _ _ ⟨i+1,by simp,by omega,by rw [et,List.all_append,hall];simp [hok],hc2.trans hd⟩ (by simp [iv];omega)
 ·have:i=row.length:=by omega
  subst this
  rw [List.take_length] at hall
  unfold ref06_Fits.b3
  exact hR _ _ ⟨by rw [hall],hc0.trans hc2⟩
end Go.Proofs.Ytmoepnfobnpdiaa
