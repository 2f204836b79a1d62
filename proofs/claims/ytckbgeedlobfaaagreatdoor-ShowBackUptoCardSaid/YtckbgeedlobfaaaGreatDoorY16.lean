/-
  Texts of this claim: Gl3, Gl4, Mk1, Mk2, MkP, MkW, RkP, Mk3.
-/
import Derived.Test.YtckbgeedlobfaaaGreatDoorY15
import Derived.Test.YtckbgeedlobfaaaGreatDoorY12
set_option maxHeartbeats 1000000
set_option linter.unusedSimpArgs false
set_option linter.unusedVariables false
set_option maxRecDepth 100000
namespace Go.Proofs.YtckbgeedlobfaaaGreatDoor
open Go.Px Go.Px.Scan Go.RowKit
attribute [-go_sem] Builtin.append_
attribute [-go_sem] Zag.b5 Zag.b8 Zag.b7 Zaf.b5
theorem Zu5 (b:Nat)(S:BS)(a0:Option Addr)(c0:Nat)(m0:Value)(a2:Option Addr)(c2:Nat)(m2:Value)(a4:Option Addr)(c4:Nat)(a5:Option Addr)(c5:Nat)(a6:Option Addr)(c6:Nat)(rs:List Value)(X:List Ch) :
  (bldL b S a0 c0 m0 a2 c2 m2 a4 c4 a5 c5 a6 c6 rs++X).take 9=bldL b S a0 c0 m0 a2 c2 m2 a4 c4 a5 c5 a6 c6 rs:=rfl
theorem Zja {F:Nat→Prop}{w w':World}{b:Nat}{S:BS}{a0:Option Addr}{c0:Nat}{m0:Value}{a2:Option Addr}{c2:Nat}{m2:Value}{a4:Option Addr}{c4:Nat}{a5:Option Addr}{c5:Nat}{a6:Option Addr}{c6:Nat}{rs:List Value}{X:List Ch}
  (h:St F w w' (bldL b S a0 c0 m0 a2 c2 m2 a4 c4 a5 c5 a6 c6 rs++X)) (ok:BSok S) (hwf:BSwf S):Chg F w w'∧(bldC b S).ok w' (fun i=>F i∨(w.heap.size≤i∧i<w'.heap.size)):=by
 have h9:=h.take 9
 rw[Zu5]at h9
 obtain ⟨T,V,hb,hT⟩:=Bld.ofPieces h9.leave ok
 exact ⟨h.chg,hwf,T,V,hb,hT⟩
def Done (F:Nat→Prop)(w:World)(b:Nat)(S':BS)(w':World):Prop:=Chg F w w'∧(bldC b S').ok w' (fun i=>F i∨(w.heap.size≤i∧i<w'.heap.size))
theorem ZZ111 {w:World}{F:Nat→Prop}{b B:Nat}{S:BS}(h:(bldC b S).ok w F){side:Int}(hs:Zz side){u:Value}{l:List Int}(hu:∀w',Chg F w w'→(Zo rInt).at1 w' B u l) :
  Ct Tryz.prog Zag.id #[.pointer (some ⟨b,0,none⟩),.int .i64 side,u] w fun v w'=>v = .tuple #[.int .i64 (Zf3 S side l).1,.int .i64 (Zf3 S side l).2.1]∧Done F w b (Zf3 S side l).2.2 w':=by
 refine Zag.ct fun R hR=>?_
 obtain ⟨hwf,T,V,hb,hT⟩:=h
 have ok:=hb.ok
 have hsy:=ok.syms
 obtain ⟨a0,c0,m0,a2,c2,m2,a4,c4,a5,c5,a6,c6,rs,hp⟩:=hb.pieces hT
 have s0:=St.enter hp
 obtain ⟨A,c,rfl,hl1,hl2,_⟩:=Zay (hu w (Chg.refl _ _))
 have no:∀w' X,St F w w' (bldL b S a0 c0 m0 a2 c2 m2 a4 c4 a5 c5 a6 c6 rs++X)→¬LvP S side l→R (.returned (.tuple #[.int .i64 0,.int .i64 1])) w':=fun w' X hst hn=>by
  rw[Zkg hn]at hR
  exact hR _ _ ⟨rfl,Zja hst ok hwf⟩
 have s0':St F w w (bldL b S a0 c0 m0 a2 c2 m2 a4 c4 a5 c5 a6 c6 rs++[]):=by simpa using s0
 unfold Zag.run
 simp -dsimp[go_sem]
 refine Za (fun q1=>?_) (fun q1=>?_)<;>simp at q1
 ·simp -dsimp[go_sem]
  exact no _ _ s0' fun hv=>by have:=hv.s0;omega
 simp -dsimp[go_sem]
 refine Za (fun q2=>?_) (fun q2=>?_)<;>simp at q2
 ·simp -dsimp[go_sem]
  exact no _ _ s0' fun hv=>by have:=hv.s1;omega
 simp -dsimp[go_sem]
 refine Za (fun q3=>?_) (fun q3=>?_)<;>simp at q3
 ·exact no _ _ s0' fun hv=>hv.ne q3
 have s1:=s0.map Tryz.prog kInt 3 3
 simp -dsimp[go_sem,mkInt]
 generalize w.heap.size=m at s1 ⊢
 generalize w.alloc (.map #[] 0)=w1 at s1 ⊢
 refine Zag.l14_intro _ _ _ _ _ _ _ _ _ (fun y w'=>∃(k n:Nat) (f:Int→Int),y = .int .i64 k∧k≤l.length∧n≤k∧St F w w' (bldL b S a0 c0 m0 a2 c2 m2 a4 c4 a5 c5 a6 c6 rs++[mapC Tryz.prog kInt 3 3 (.map (some m)) n f]) ∧
  (∀x,0<f x↔x∈l.take k)∧(∀x,0≤f x∧f x≤k)∧(∀h∈l.take k,1≤h∧h≤S.terms.length∧Zar S h=0)∧(l.take k).Nodup) (fun y _=>l.length-iv y) ⟨0,0,_,rfl,by omega,by omega,s1,by simp,by simp,by simp,by simp⟩ ?_
 rintro _ w2 ⟨k,n,f,rfl,hk,hnk,s2,hf,hfk,hall,hnd⟩ C hC
 simp -dsimp[go_sem]
 refine Za (fun p1=>?_) (fun p1=>?_)<;>simp at p1
 ·obtain ⟨b1,o1,rfl,hb1,x1,x2⟩:=Go.Px.ints_at (hu _ s2.chg) p1
  have hkm:k<maxLen:=by omega
  have wk:=Zau p1 (Nat.le_trans hl1 hl2)
  simp -dsimp[go_sem,p1,x1]
  have h9:=s2.take 9
  rw[Zu5]at h9
  obtain ⟨T2,V2,hb2,hT2⟩:=Bld.ofPieces h9.leave ok
  refine Zf (Zif hb2 x2) ?_
  rintro _ _ ⟨rfl,rfl⟩
  have htk:l.take (k+1)=l.take k++[l[k]]:=List.take_succ_eq_append_getElem p1
  have hmem:l[k]∈l:=List.getElem_mem p1
  cases hT3:isT S l[k]with
  | false=>
   simp -dsimp[go_sem]
   refine no _ _ s2 fun hv=>?_
   have:=hv.terms _ hmem
   rw[show isT S l[k]=true by simp[isT];omega]at hT3;cases hT3
  | true=>
   have hrg:1≤l[k]∧l[k]≤S.terms.length:=by simpa[isT]using hT3
   obtain ⟨j,hj⟩:∃j:Nat,l[k]=(j:Int)+1:=⟨(l[k]-1).toNat,by omega⟩
   have hjl:j<S.terms.length:=by omega
   obtain ⟨y2,_⟩:=s2.cel 0 rfl
   simp[Zp]at y2
   obtain ⟨g4,rfl,y4,_⟩:=s2.rowAt 5 rfl (j:=j) (by simpa using hjl)
   simp only[List.getElem_map]at y4
   have ws:IntKind.i64.wrap (l[k]-1)=(j:Int):=by rw[hj,show (j:Int)+1-1=j by omega];exact IntWalk.i64_in _ (by omega)
   have hgr:Zar S l[k]=S.terms[j].2:=by
    unfold Zar
    rw[show (l[k]-1).toNat=j by omega,List.getElem?_eq_getElem hjl];rfl
   have hg0:=ok.grd S.terms[j] (List.getElem_mem hjl)
   simp -dsimp[go_sem,y2,ws,hjl,y4]
   refine Za (fun p2=>?_) (fun p2=>?_)<;>simp at p2
   ·simp -dsimp[go_sem]
    refine no _ _ s2 fun hv=>?_
    have:=(hv.terms _ hmem).2.2
    have h8:Zar S l[k]=0:=this
    omega
   have mg:(Instr.lookup 116 (.map (some m)) (.int .i64 l[k]) false).run Tryz.prog w2=_:=s2.mapGet mInt 9 rfl l[k] x2
   simp -dsimp[go_sem,mg]
   refine Za (fun p3=>?_) (fun p3=>?_)<;>simp at p3
   ·refine no _ _ s2 fun hv=>?_
    have h1:=(hf l[k]).1 p3
    obtain ⟨i,hi,e⟩:=List.getElem_of_mem h1
    simp at hi
    rw[List.getElem_take]at e
    exact List.pairwise_iff_getElem.1 hv.nd i k (by omega) p1 (by omega) e
   have hno:l[k]∉l.take k:=fun hm=>by have:=(hf _).2 hm;omega
   have hf0:f l[k]=0:=by have:=hfk l[k];omega
   obtain ⟨w3,hrun,s3⟩:=s2.mapPut mInt 9 rfl l[k] x2 (by omega) (x:=1) (by unfold Zz;omega) (by omega) (n+1) (fun c=>if c=l[k] then 1 else f c) (fun _=>rfl) (fun h=>absurd hf0 h) (if_pos rfl) (fun c hc=>if_neg hc)
   have hrun':(Instr.mapUpdate 116 (.map (some m)) (.int .i64 l[k]) (.int .i64 1)).run Tryz.prog w2=_:=hrun
   simp -dsimp[go_sem,mg,hf0,hrun',wk]
   refine hC _ _ ⟨k+1,_,_,by simp,by omega,by omega,s3,fun x=>?_,fun x=>?_,fun x hx=>?_,?_⟩ (by simp[iv];omega)
   ·rw[htk,List.mem_append,List.mem_singleton]
    by_cases e:x=l[k]
    ·simp[e]
    ·simp only[if_neg e,e,or_false];exact hf x
   ·have:=hfk x
    by_cases e:x=l[k]
    ·simp only[if_pos e];omega
    ·simp only[if_neg e];omega
   ·rw[htk,List.mem_append,List.mem_singleton]at hx
    rcases hx with hx|rfl
    ·exact hall x hx
    ·exact ⟨hrg.1,hrg.2,by omega⟩
   ·rw[htk]
    refine List.nodup_append.2 ⟨hnd,by simp,fun a ha b' hb'=>?_⟩
    rw[List.mem_singleton.1 hb']
    intro e;rw[e]at ha;exact hno ha
 ·have hka:k=l.length:=by omega
  subst hka
  rw[List.take_length]at hall hnd
  have hv:LvP S side l:=⟨by omega,by omega,q3,fun h hh=>hall h hh,hnd⟩
  rw[Zf0 hv]at hR
  clear hC C
  have lev1:=hv.lev hwf
  obtain ⟨y2,yf2⟩:=s2.cel 0 rfl
  simp[Zp]at y2
  have yf5:=yf2 5 (by simp)
  unfold Zag.b5
  simp -dsimp[go_sem,y2]
  refine s2.append1 6 rfl Zqw iInt rfl (by omega) (news:=[.int .i64 side]) rfl (by simp[Value.oneCell']) (by unfold maxLen;omega) (by unfold Zr;omega) ?_
  intro g' cap w3 s3
  obtain ⟨y3,yf3⟩:=s3.cel 0 rfl
  simp[Zp]at y3
  have yf5:=yf3 5 (by simp)
  have s4:=s3.setCel 0 rfl 5 (by simp) (.slice (some ⟨g',0,none⟩) (S.levels.length+1) cap)
  simp -dsimp[go_sem,y3,yf5]
  generalize w3.setCell ⟨b,5,none⟩ (.slice (some ⟨g',0,none⟩) (S.levels.length+1) cap)=w4 at s4 ⊢
  unfold Zag.b8
  simp -dsimp[go_sem]
  refine Zag.l10_intro _ _ _ _ _ _ (fun y w'=>∃k:Nat,y = .int .i64 k∧k≤l.length ∧
   St F w w' [celC b [.slice a0 S.terms.length c0,m0,.slice a2 S.nons.length c2,m2,.slice a4 S.terms.length c4,.slice (some ⟨g',0,none⟩) (S.levels.length+1) cap,.slice a6 S.rules.length c6,.int .i64 S.start],
    rowC 9 1 a0 S.terms.length c0 (S.terms.map fun t=> .string t.1),mapC Tryz.prog kStr 9 3 m0 S.terms.length (posH (S.terms.map (·.1))),
    rowC 9 1 a2 S.nons.length c2 (S.nons.map Value.string),mapC Tryz.prog kStr 9 3 m2 S.nons.length (posH S.nons),
    rowC 3 1 a4 S.terms.length c4 ((Zfm ((S.levels.length:Int)+1) S.terms (l.take k)).map fun t=> .int .i64 t.2),rowC 3 1 (some ⟨g',0,none⟩) (S.levels.length+1) cap (S.levels.map (.int .i64 ·)++[.int .i64 side]),
    rowC 130 3 a6 S.rules.length c6 ((S.rules.zip rs).flatMap fun x=>Zh3 x.1 x.2),ZZ56 rs (S.rules.map (·.2.1))]) (fun y _=>l.length-iv y) ⟨0,rfl,by omega,by
    have h0:Zfm ((S.levels.length:Int)+1) S.terms (l.take 0)=S.terms:=by simp[Zfm]
    rw[h0]
    exact s4.take 9⟩ ?_
  rintro _ w5 ⟨k,rfl,hk,s5⟩ C hC
  obtain ⟨y5,_⟩:=s5.cel 0 rfl
  simp[Zp]at y5
  simp -dsimp[go_sem]
  refine Za (fun p1=>?_) (fun p1=>?_)<;>simp at p1
  ·obtain ⟨b1,o1,rfl,hb1,x1,x2⟩:=Go.Px.ints_at (hu _ s5.chg) p1
   have wk:=Zau p1 (Nat.le_trans hl1 hl2)
   have hrg:=hall l[k] (List.getElem_mem p1)
   obtain ⟨j,hj⟩:∃j:Nat,l[k]=(j:Int)+1:=⟨(l[k]-1).toNat,by omega⟩
   have hjl:j<S.terms.length:=by omega
   have ws:IntKind.i64.wrap (l[k]-1)=(j:Int):=by rw[hj,show (j:Int)+1-1=j by omega];exact IntWalk.i64_in _ (by omega)
   have s6:=s5.old ((Chg.refl noB w5).drew)
   obtain ⟨y6,_⟩:=s6.cel 0 rfl
   simp[Zp]at y6
   obtain ⟨g4,rfl,y4,yf4⟩:=s6.rowAt 5 rfl (j:=j) (by simpa[Zep]using hjl)
   have s7:=s6.setRow 5 rfl j (.int .i64 ((S.levels.length:Int)+1))
   have htk:l.take (k+1)=l.take k++[l[k]]:=List.take_succ_eq_append_getElem p1
   have em:((Zfm ((S.levels.length:Int)+1) S.terms (l.take k)).map fun t=>Value.int .i64 t.2).set j (.int .i64 ((S.levels.length:Int)+1))=(Zfm ((S.levels.length:Int)+1) S.terms (l.take (k+1))).map fun t=>Value.int .i64 t.2:=by
    rw[htk,Zv4,show (l[k]-1).toNat=j by omega,Zsp]
   rw[em]at s7
   simp only[List.getElem_map]at y4
   simp -dsimp[go_sem,p1,x1,y6,ws,hjl,y4,yf4,wk]
   exact hC _ _ ⟨k+1,by simp,by omega,s7⟩ (by simp[iv];omega)
  ·have hka:k=l.length:=by omega
   subst hka
   rw[List.take_length]at s5
   unfold Zag.b7
   simp -dsimp[go_sem,y5]
   refine hR _ _ ⟨by simp,?_⟩
   have e:[celC b [.slice a0 S.terms.length c0,m0,.slice a2 S.nons.length c2,m2,.slice a4 S.terms.length c4,.slice (some ⟨g',0,none⟩) (S.levels.length+1) cap,.slice a6 S.rules.length c6,.int .i64 S.start],
    rowC 9 1 a0 S.terms.length c0 (S.terms.map fun t=> .string t.1),mapC Tryz.prog kStr 9 3 m0 S.terms.length (posH (S.terms.map (·.1))),
    rowC 9 1 a2 S.nons.length c2 (S.nons.map Value.string),mapC Tryz.prog kStr 9 3 m2 S.nons.length (posH S.nons),
    rowC 3 1 a4 S.terms.length c4 ((Zfm ((S.levels.length:Int)+1) S.terms l).map fun t=> .int .i64 t.2),rowC 3 1 (some ⟨g',0,none⟩) (S.levels.length+1) cap (S.levels.map (.int .i64 ·)++[.int .i64 side]),
    rowC 130 3 a6 S.rules.length c6 ((S.rules.zip rs).flatMap fun x=>Zh3 x.1 x.2),ZZ56 rs (S.rules.map (·.2.1))]=bldL b {S with levels:=S.levels++[side],terms:=Zfm ((S.levels.length:Int)+1) S.terms l } a0 c0 m0 a2 c2 m2 a4 c4 (some ⟨g',0,none⟩) cap a6 c6 rs++[]:=by
    have h1:=Zf9 ((S.levels.length:Int)+1) l S.terms
    have h2:=Zep ((S.levels.length:Int)+1) l S.terms
    have h3:(Zfm ((S.levels.length:Int)+1) S.terms l).map (fun t=>Value.string t.1)=S.terms.map fun t=>Value.string t.1:=by
     have:=congrArg (List.map Value.string) h1
     rw[List.map_map,List.map_map]at this
     exact this
    simp only[bldL,h1,h2,h3,List.length_append,List.length_singleton,List.map_append,List.map_cons,List.map_nil,List.append_nil]
   rw[e]at s5
   have hwf':=ZZ41 (side:=side) (l:=l) hwf
   rw[Zf0 hv]at hwf'
   exact Zja s5 (ZZ21 hv ok hwf) hwf'
end Go.Proofs.YtckbgeedlobfaaaGreatDoor
namespace Go.Proofs.YtckbgeedlobfaaaGreatDoor
open Go.Px Go.Px.Scan Go.RowKit
attribute [-go_sem] Builtin.append_
attribute [-go_sem] Zaf.b5
def Zw8 (S:BS)(p:Int):Bool:=decide (p<0∨(S.rules.length:Int)≤p)
theorem Zxa (level:Int)(l:List Int)(p:Int)(rs:List (Int×List Int×Int)):(l++[p]).foldl (fun rs p=>rs.modify p.toNat fun r=>(r.1,r.2.1,level)) rs=(l.foldl (fun rs p=>rs.modify p.toNat fun r=>(r.1,r.2.1,level)) rs).modify p.toNat fun r=>(r.1,r.2.1,level):=by simp
theorem Zof (level:Int):∀(rs:List (Int×List Int×Int)) (vs:List Value) (k:Nat),vs.length=rs.length→k<rs.length →
  (((rs.modify k fun r=>(r.1,r.2.1,level)).zip vs).flatMap fun x=>Zh3 x.1 x.2)=((rs.zip vs).flatMap fun x=>Zh3 x.1 x.2).set (k*3+2) (.int .i64 level)
 | [],_,_,_,h=>absurd h (Nat.not_lt_zero _)
 | r::rs,[],_,h,_=>by cases h
 | r::rs,v::vs,0,_,_=>by simp[Zh3]
 | r::rs,v::vs,k+1,h,hk=>by
  have:=Zof level rs vs k (by simpa using h) (by simpa using hk)
  simp only[List.modify_succ_cons,List.zip_cons_cons,List.flatMap_cons,this]
  rw[show (k+1)*3+2=3+(k*3+2) by omega]
  simp only[Zh3,List.cons_append,List.nil_append,show 3+(k*3+2)=(k*3+2)+1+1+1 by omega,List.set_cons_succ]
theorem Zrn (level:Int)(rs:List (Int×List Int×Int))(k:Nat):(rs.modify k fun r=>(r.1,r.2.1,level)).map (·.2.1)=rs.map (·.2.1):=by
 apply List.ext_getElem?
 intro i
 rw[List.getElem?_map,List.getElem?_map,List.getElem?_modify]
 cases rs[i]?<;>simp
 split<;>simp
theorem Zqf (level:Int)(l:List Int):∀rs:List (Int×List Int×Int),(l.foldl (fun rs p=>rs.modify p.toNat fun r=>(r.1,r.2.1,level)) rs).map (·.2.1)=rs.map (·.2.1):=by
 induction l with
 | nil=>exact fun _=>rfl
 | cons p q ih=>intro rs;rw[List.foldl_cons,ih,Zrn]
theorem ZZ151 {w:World}{F:Nat→Prop}{b B:Nat}{S:BS}(h:(bldC b S).ok w F){level:Int}(hs:Zz level){u:Value}{l:List Int}(hu:∀w',Chg F w w'→(Zo rInt).at1 w' B u l) :
  Ct Tryz.prog Zaf.id #[.pointer (some ⟨b,0,none⟩),.int .i64 level,u] w fun v w'=>v = .int .i64 (Ze0 S level l).1∧Done F w b (Ze0 S level l).2 w':=by
 refine Zaf.ct fun R hR=>?_
 obtain ⟨hwf,T,V,hb,hT⟩:=h
 have ok:=hb.ok
 have hsy:=ok.syms
 have hpr:=ok.prods
 obtain ⟨a0,c0,m0,a2,c2,m2,a4,c4,a5,c5,a6,c6,rs,hp⟩:=hb.pieces hT
 have s0:=St.enter hp
 obtain ⟨A,c,rfl,hl1,hl2,_⟩:=Zay (hu w (Chg.refl _ _))
 have no:∀w' X,St F w w' (bldL b S a0 c0 m0 a2 c2 m2 a4 c4 a5 c5 a6 c6 rs++X)→¬((0≤level∧level≤S.levels.length)∧∀p∈l,0≤p∧p<S.rules.length)→R (.returned (.int .i64 1)) w':=fun w' X hst hn=>by
  have:Ze0 S level l=(1,S):=if_neg hn
  rw[this]at hR
  exact hR _ _ ⟨rfl,Zja hst ok hwf⟩
 have s1:=s0.alloc #[.pointer (some ⟨b,0,none⟩)] 80
 unfold Zaf.run
 simp -dsimp[go_sem]
 generalize w.heap.size=q at s1 ⊢
 generalize w.alloc (.cells #[.pointer (some ⟨b,0,none⟩)] 80)=w1 at s1 ⊢
 have k1:=s1.box 9 rfl
 simp[Zp]at k1
 obtain ⟨y1,_⟩:=s1.cel 0 rfl
 simp[Zp]at y1
 refine Za (fun q1=>?_) (fun q1=>?_)<;>simp at q1
 ·simp -dsimp[go_sem]
  exact no _ _ s1 fun hv=>by omega
 simp -dsimp[go_sem,k1,y1]
 refine Za (fun q2=>?_) (fun q2=>?_)<;>simp at q2
 ·simp -dsimp[go_sem]
  exact no _ _ s1 fun hv=>by omega
 simp -dsimp[go_sem]
 refine Zf (Zh0 (p:=Zw8 S) (hu _ s1.chg) fun x _ hx=>?_) ?_
 ·refine Zc1.ct fun R hR=>?_
  unfold Zc1.run
  simp -dsimp[go_sem]
  refine Za (fun h2=>?_) (fun h2=>?_)<;>simp at h2
  ·exact hR _ _ ⟨by simp[Zw8,h2],rfl⟩
  ·simp -dsimp[go_sem,k1,y1]
   refine hR _ _ ⟨?_,rfl⟩
   unfold Zw8
   congr 1
   refine decide_eq_decide.2 ?_
   omega
 rintro _ _ ⟨rfl,rfl⟩
 cases hany:l.any (Zw8 S) with
 | true=>
  simp -dsimp[go_sem]
  refine no _ _ s1 fun hv=>?_
  obtain ⟨x,hx,h2⟩:=List.any_eq_true.1 hany
  have:=hv.2 x hx
  simp[Zw8]at h2
  omega
 | false=>
  have hall:∀p∈l,0≤p∧p<S.rules.length:=fun p hp=>by
   have:=any_false hany p hp
   simp[Zw8]at this
   omega
  have hya:Ze0 S level l=(0,{S with rules:=l.foldl (fun rs p=>rs.modify p.toNat fun r=>(r.1,r.2.1,level)) S.rules }):=if_pos ⟨by omega,hall⟩
  simp -dsimp[go_sem]
  unfold Zaf.b5
  simp -dsimp[go_sem]
  obtain ⟨FF,ho8,_⟩:=s1.get (k:=8) rfl
  have hrl:rs.length=S.rules.length:=by have:=ho8.1;simpa using this
  refine Zaf.l7_intro _ _ _ _ _ _ _ (fun y w'=>∃k:Nat,y = .int .i64 k∧k≤l.length ∧
   St F w w' [celC b [.slice a0 S.terms.length c0,m0,.slice a2 S.nons.length c2,m2,.slice a4 S.terms.length c4,.slice a5 S.levels.length c5,.slice a6 S.rules.length c6,.int .i64 S.start],
    rowC 9 1 a0 S.terms.length c0 (S.terms.map fun t=> .string t.1),mapC Tryz.prog kStr 9 3 m0 S.terms.length (posH (S.terms.map (·.1))),
    rowC 9 1 a2 S.nons.length c2 (S.nons.map Value.string),mapC Tryz.prog kStr 9 3 m2 S.nons.length (posH S.nons),
    rowC 3 1 a4 S.terms.length c4 (S.terms.map fun t=> .int .i64 t.2),rowC 3 1 a5 S.levels.length c5 (S.levels.map (.int .i64 ·)),
    rowC 130 3 a6 S.rules.length c6 ((((l.take k).foldl (fun rs p=>rs.modify p.toNat fun r=>(r.1,r.2.1,level)) S.rules).zip rs).flatMap fun x=>Zh3 x.1 x.2),ZZ56 rs (S.rules.map (·.2.1)),
    boxC q 80 [.pointer (some ⟨b,0,none⟩)]]) (fun y _=>l.length-iv y) ⟨0,rfl,by omega,s1⟩ ?_
  rintro _ w5 ⟨k,rfl,hk,s5⟩ C hC
  obtain ⟨y5,_⟩:=s5.cel 0 rfl
  have k5:=s5.box 9 rfl
  simp[Zp]at y5 k5
  simp -dsimp[go_sem]
  refine Za (fun p1=>?_) (fun p1=>?_)<;>simp at p1
  ·obtain ⟨b1,o1,rfl,hb1,x1,x2⟩:=Go.Px.ints_at (hu _ s5.chg) p1
   have wk:=Zau p1 (Nat.le_trans hl1 hl2)
   have hrg:=hall l[k] (List.getElem_mem p1)
   obtain ⟨j,hj⟩:∃j:Nat,l[k]=(j:Int):=⟨l[k].toNat,by omega⟩
   have hjl:j<S.rules.length:=by omega
   have hlen:((l.take k).foldl (fun rs p=>rs.modify p.toNat fun r=>(r.1,r.2.1,level)) S.rules).length=S.rules.length:=Zlk _ _ _
   have hsz:=(s5.rowSize 7 rfl).1
   obtain ⟨g6,rfl,y7,yf7⟩:=s5.rowAt 7 rfl (j:=j*3+2) (by rw[hsz];omega)
   have s7:=s5.setRow 7 rfl (j*3+2) (.int .i64 level)
   have htk:l.take (k+1)=l.take k++[l[k]]:=List.take_succ_eq_append_getElem p1
   have em:((((l.take k).foldl (fun rs p=>rs.modify p.toNat fun r=>(r.1,r.2.1,level)) S.rules).zip rs).flatMap fun x=>Zh3 x.1 x.2).set (j*3+2) (.int .i64 level)=(((l.take (k+1)).foldl (fun rs p=>rs.modify p.toNat fun r=>(r.1,r.2.1,level)) S.rules).zip rs).flatMap fun x=>Zh3 x.1 x.2:=by
    rw[htk,Zxa,show l[k].toNat=j by omega,Zof level _ rs j (by rw[hlen];exact hrl) (by rw[hlen];exact hjl)]
   rw[em]at s7
   rw[hj]at x1
   simp -dsimp[go_sem,p1,x1,y5,k5,hjl,y7,yf7,wk]
   exact hC _ _ ⟨k+1,by simp,by omega,s7⟩ (by simp[iv];omega)
  ·have hka:k=l.length:=by omega
   subst hka
   rw[List.take_length]at s5
   simp -dsimp[go_sem]
   rw[hya]at hR
   refine hR _ _ ⟨rfl,?_⟩
   have e:[celC b [.slice a0 S.terms.length c0,m0,.slice a2 S.nons.length c2,m2,.slice a4 S.terms.length c4,.slice a5 S.levels.length c5,.slice a6 S.rules.length c6,.int .i64 S.start],
    rowC 9 1 a0 S.terms.length c0 (S.terms.map fun t=> .string t.1),mapC Tryz.prog kStr 9 3 m0 S.terms.length (posH (S.terms.map (·.1))),
    rowC 9 1 a2 S.nons.length c2 (S.nons.map Value.string),mapC Tryz.prog kStr 9 3 m2 S.nons.length (posH S.nons),
    rowC 3 1 a4 S.terms.length c4 (S.terms.map fun t=> .int .i64 t.2),rowC 3 1 a5 S.levels.length c5 (S.levels.map (.int .i64 ·)),
    rowC 130 3 a6 S.rules.length c6 (((l.foldl (fun rs p=>rs.modify p.toNat fun r=>(r.1,r.2.1,level)) S.rules).zip rs).flatMap fun x=>Zh3 x.1 x.2),ZZ56 rs (S.rules.map (·.2.1)),
    boxC q 80 [.pointer (some ⟨b,0,none⟩)]]=bldL b {S with rules:=l.foldl (fun rs p=>rs.modify p.toNat fun r=>(r.1,r.2.1,level)) S.rules } a0 c0 m0 a2 c2 m2 a4 c4 a5 c5 a6 c6 rs++[boxC q 80 [.pointer (some ⟨b,0,none⟩)]]:=by
    have h2:=Zlk level l S.rules
    have h3:=Zqf level l S.rules
    simp only[bldL,h2,h3,List.cons_append,List.nil_append]
   rw[e]at s5
   have h1:=Zy2 (level:=level) (l:=l) hwf
   have h2:=Zzr (level:=level) (l:=l) ok
   rw[hya]at h1 h2
   exact Zja s5 h2 h1
theorem St.opn2 {G:Nat→Prop}{W w:World}{L:List Ch}(h:St G W w L){k:Nat}{c0:Ch}(hk:L[k]?=some c0) :
  ∃F:Nat→Prop,c0.ok w F∧(∀i,F i→i<w.heap.size∧(i<W.heap.size→G i))∧(∀j c,j≠k→L[j]?=some c→∃F':Nat→Prop,c.ok w F'∧∀i,F' i→¬F i) ∧
   ∀(w':World) (c:Ch),Chg F w w'→c.ok w' (fun i=>F i∨(w.heap.size≤i∧i<w'.heap.size))→St G W w' (L.set k c):=by
 obtain ⟨hc0,T,ht,hL⟩:=id h
 have key:St G W w L:=⟨hc0,T,ht,hL⟩
 refine ⟨fun i=>T i=k+1,hL k c0 hk,fun i hi=>⟨(ht i (by omega)).2,(ht i (by omega)).1⟩,fun j c hjk hj=>⟨_,hL j c hj,fun i e1 e2=>by omega⟩,fun w' c hc hok=>⟨?_,fun i=>if w.heap.size≤i∧i<w'.heap.size then k+1 else T i,fun i hi=>?_,fun j d hj=>?_⟩⟩
 ·exact hc0.trans' hc fun i hi e=>(ht i (by omega)).1 hi
 ·by_cases e:w.heap.size≤i∧i<w'.heap.size
  ·exact ⟨fun h=>by have:=hc0.size;omega,e.2⟩
  ·dsimp only at hi;rw[if_neg e]at hi
   exact ⟨(ht i hi).1,Nat.lt_of_lt_of_le (ht i hi).2 hc.size⟩
 ·rw[List.getElem?_set]at hj
  by_cases e:k=j
  ·subst e
   have hkl:=(List.getElem?_eq_some_iff.1 hk).1
   rw[if_pos rfl,if_pos hkl]at hj
   injection hj with hj
   subst hj
   refine c.keep (X:=noB) hok (Chg.refl _ _) (fun _ _ _=>id) fun i hi e=>?_
   rcases e with e|e
   ·have h1:=(ht i (by omega)).2
    dsimp only;rw[if_neg (by omega)];exact e
   ·dsimp only;rw[if_pos e]
  ·rw[if_neg e]at hj
   refine d.keep (hL j d hj) hc (fun i hi e1 e2=>by omega) fun i hi e1=>?_
   dsimp only;rw[if_neg (by omega)];exact e1
def Zp3 (G:Nat→Prop)(W w:World)(L:List Ch)(k:Nat)(B:Nat)(u:Value)(l:List Int):Prop :=
 ∀F:Nat→Prop,(∀i,F i→i<w.heap.size∧(i<W.heap.size→G i))→(∀j c,j≠k→L[j]?=some c→∃F':Nat→Prop,c.ok w F'∧∀i,F' i→¬F i)→∀w',Chg F w w'→(Zo rInt).at1 w' B u l
theorem Zp3.base {W w:World}{L:List Ch}{k B:Nat}{u:Value}{l:List Int}(h:St noB W w L)(hu:(Zo rInt).at1 W B u l)(hB:B≤W.heap.size):Zp3 noB W w L k B u l:=fun F hF _ w' hc=>
 Rep.below hu ((h.chg.trans' hc fun i hi e=>(hF i e).2 hi).below hB fun _ _=>id)
theorem Zp3.row {G:Nat→Prop}{W w:World}{L:List Ch}{k j:Nat}{a:Option Addr}{n c:Nat}{l:List Int}(hj:L[j]?=some (rowC 3 1 a n c (l.map (Value.int .i64 ·))))(hjk:j≠k)(hl:∀x∈l,Zz x):Zp3 G W w L k w.heap.size (.slice a n c) l:=fun F hF hd w' hc=>by
 obtain ⟨F',ho,hdis⟩:=hd j _ hjk hj
 have hs:=Zhw ho
 have hn:n=l.length:=by simpa using hs.1.symm
 refine ⟨a,c,by rw[hn],by omega,hs.2.2,trivial,fun hp=>?_⟩
 obtain ⟨g,rfl,_,_,hF',hg⟩:=Zik ho (j:=0) (by simpa using hp)
 refine ⟨g,0,rfl,hg,fun i x hi=>⟨[.int .i64 x],⟨rfl,hl x (List.mem_of_getElem? hi)⟩,fun m u hm=>?_⟩⟩
 have hm0:m=0:=by have:=(List.getElem?_eq_some_iff.1 hm).1;simp at this;omega
 subst hm0
 simp at hm
 subst hm
 have hil:=(List.getElem?_eq_some_iff.1 hi).1
 have hx:=(List.getElem?_eq_some_iff.1 hi).2
 obtain ⟨g',e,hcell,_⟩:=Zik ho (j:=i) (by simpa using hil)
 injection e with e;injection e with e;subst e
 simp only[List.getElem_map,hx]at hcell
 have:=(hc.cell (p:=⟨g,i,none⟩) hg (hdis g hF')).trans hcell
 simpa[rInt]using this
section
variable {G:Nat→Prop} {W w:World} {L:List Ch} {X:Pan} {K:Value→World→Prop} {b:Nat} {S:BS}
theorem Zwd (h:St G W w L)(k:Nat)(hk:L[k]?=some (bldC b S)){side:Int}(hx:Zz side){u:Value}{l:List Int}{B:Nat}(hu:Zp3 G W w L k B u l)
  (hK:∀w',St G W w' (L.set k (bldC b (Zf3 S side l).2.2))→K (.tuple #[.int .i64 (Zf3 S side l).1,.int .i64 (Zf3 S side l).2.1]) w'):CALL Tryz.prog X Zag.id #[.pointer (some ⟨b,0,none⟩),.int .i64 side,u] w K:=by
 obtain ⟨F,hok,hF,hd,hs'⟩:=St.opn2 h hk
 refine Zf (ZZ111 hok hx (hu F hF hd)) ?_
 rintro _ w' ⟨rfl,h1,h2⟩
 exact hK _ (hs' _ _ h1 h2)
theorem Zo6 (h:St G W w L)(k:Nat)(hk:L[k]?=some (bldC b S)){level:Int}(hx:Zz level){u:Value}{l:List Int}{B:Nat}(hu:Zp3 G W w L k B u l)
  (hK:∀w',St G W w' (L.set k (bldC b (Ze0 S level l).2))→K (.int .i64 (Ze0 S level l).1) w'):CALL Tryz.prog X Zaf.id #[.pointer (some ⟨b,0,none⟩),.int .i64 level,u] w K:=by
 obtain ⟨F,hok,hF,hd,hs'⟩:=St.opn2 h hk
 refine Zf (ZZ151 hok hx (hu F hF hd)) ?_
 rintro _ w' ⟨rfl,h1,h2⟩
 exact hK _ (hs' _ _ h1 h2)
end
end Go.Proofs.YtckbgeedlobfaaaGreatDoor
namespace Go.Px.Spec
open Go.Px Go.Px.Scan
def en (r:Int×Int×BS):Except Int (Int×BS):=if r.2.1=0 then .ok (r.1,r.2.2) else .error r.2.1
end Go.Px.Spec
namespace Go.Proofs.YtckbgeedlobfaaaGreatDoor
open Go.Px Go.Px.Scan Go.Px.Spec Go.RowKit
attribute [-go_sem] Builtin.append_ Zai.b5 Zai.b3 Zai.b4 Za9.b2
noncomputable def symM (ls:List ByteArray)(S:BS)(w:Wd):Except Int (Int×BS):=if w.1=1∧hasB ls w.2.1=true then en (nonA S w.2.1) else en (Zc4 S w.2.1)
def errP (e:Int):List PanicEntry:=[{v := .iface 28 (.int .i64 e),recovered:=false }]
theorem Zyz (p:Value)(e:Int)(w:World):CtE Tryz.prog Za9.id #[p,.int .i64 e] w fun r w'=>w'=w∧((e=0∧r = .returned p)∨(e≠0∧r = .panicked (errP e))):=by
 refine CtE.intro Za9.enters fun R hR=>Za9.calls R _ _ w ?_
 unfold Za9.run
 simp -dsimp[go_sem]
 refine Za (fun h=>?_) (fun h=>?_)<;>simp at h
 ·simp -dsimp[go_sem]
  exact hR _ _ ⟨rfl,.inr ⟨h,rfl⟩⟩
 ·unfold Za9.b2
  exact hR _ _ ⟨rfl,.inl ⟨h,rfl⟩⟩
section
variable {G:Nat→Prop} {W w:World} {L:List Ch} {X:Pan} {K:Value→World→Prop} {b bb bm:Nat} {S:BS}
theorem Zn6 (s:St G W w L)(k:Nat)(hk:L[k]?=some (bldC bb S)):BSok S∧BSwf S:=by
 obtain ⟨F,⟨hwf,T,V,hb,_⟩,_⟩:=s.get hk
 exact ⟨hb.ok,hwf⟩
theorem Zdm {h:Int}{e:Int}(hK:e=0→K (.int .i64 h) w)(hX:e≠0→X (errP e) w):CALL Tryz.prog X Za9.id #[.int .i64 h,.int .i64 e] w K:=by
 refine Zgj (Zyz _ e w) ?_
 rintro r w' ⟨rfl,⟨he,rfl⟩|⟨he,rfl⟩⟩
 ·exact hK he
 ·exact hX he
def MEnd {α:Type}(G:Nat→Prop)(W:World)(m:Except Int α)(v:α→Value)(P:α→World→Prop)(r:Ending)(w':World):Prop :=
 (∃a,m = .ok a∧r = .returned (v a)∧P a w')∨(∃e,m = .error e∧r = .panicked (errP e)∧Chg G W w')
theorem Zzi {x:Wd}{A:Option Addr}{c:Nat}{ws:List Wd}{e:Int}{i:Nat}{hs:List (Nat×List ByteArray)}{st:ByteArray}{rs:List RowS}{D:RD}{ls:List ByteArray}(s:St G W w L)(k0:Nat)(h0:L[k0]?=some (boxC bm 83 [.pointer (some ⟨bb,0,none⟩),.pointer (some ⟨b,0,none⟩)]))(k1:Nat)(h1:L[k1]?=some (bldC bb S))
  (kr:Nat) (hr:L[kr]?=some (boxC b 102 (Zea A c ws e i hs st rs D))) (kl:Nat) (hl:L[kl]?=some (mapC Tryz.prog kStr 9 3 D.lm D.lc (cnt ls))) (hx:x.2.1.size≤maxLen) :
  CtE Tryz.prog Zai.id #[.pointer (some ⟨bm,0,none⟩),wdV x] w (MEnd G W (symM ls S x) (fun a=> .int .i64 a.1) fun a w'=>St G W w' (L.set k1 (bldC bb a.2))):=by
 refine CtE.intro Zai.enters fun R hR=>Zai.calls R _ _ w ?_
 unfold Zai.run
 rw[show wdV x = .agg #[.int .i64 x.1,.string x.2.1,.int .i64 x.2.2] from rfl]
 simp -dsimp[go_sem]
 have hc2:=(Chg.refl noB w).alloc (.cells #[.int .i64 x.1,.string x.2.1,.int .i64 x.2.2] 73)
 have ht:=new3 (w:=w) x
 generalize w.alloc (.cells #[.int .i64 x.1,.string x.2.1,.int .i64 x.2.2] 73)=w2 at hc2 ht ⊢
 generalize w.heap.size=q at ht ⊢
 have s2:=s.old hc2
 have y0:=(s2.box k0 h0).1
 simp[Zp]at y0
 have d0:=ht.c0
 have d1:=ht.c1
 have hT:symM ls S x=en (Zc4 S x.2.1)→∀w3,Chg noB w2 w3→Zai.b3 R (.pointer (some ⟨bm,0,none⟩)) (.pointer (some ⟨q,0,none⟩)) w3:=fun he w3 hc3=>by
  have s3:=s2.old hc3
  have y3:=(s3.box k0 h0).1
  simp[Zp]at y3
  have d1':=hc3.at d1 id
  unfold Zai.b3
  simp -dsimp[go_sem,y3,d1']
  refine Zkl (s3.old (Chg.refl noB w3).drew) k1 h1 hx fun w4 s4=>?_
  simp -dsimp[go_sem]
  refine Zdm (fun h=>hR _ _ (.inl ⟨((Zc4 S x.2.1).1,(Zc4 S x.2.1).2.2),?_,rfl,s4⟩)) (fun h=>hR _ _ (.inr ⟨_,?_,rfl,s4.chg⟩))
  ·rw[he];unfold en;rw[if_pos h]
  ·rw[he];unfold en;rw[if_neg h]
 have hN:∀t:Bool,(t=true↔x.1=1∧hasB ls x.2.1=true)→∀w3,Chg noB w2 w3→Zai.b5 R (.pointer (some ⟨bm,0,none⟩)) (.pointer (some ⟨q,0,none⟩)) (.bool t) w3:=fun t ht2 w3 hc3=>by
  unfold Zai.b5
  refine Za (fun h=>?_) (fun h=>?_)
  ·have he:symM ls S x=en (nonA S x.2.1):=if_pos (ht2.1 h)
   have s3:=s2.old hc3
   have y3:=(s3.box k0 h0).1
   simp[Zp]at y3
   have d1':=hc3.at d1 id
   simp -dsimp[go_sem,y3,d1']
   refine Zqs (s3.old (Chg.refl noB w3).drew) k1 h1 hx fun w4 s4=>?_
   simp -dsimp[go_sem]
   refine Zdm (fun h=>hR _ _ (.inl ⟨((nonA S x.2.1).1,(nonA S x.2.1).2.2),?_,rfl,s4⟩)) (fun h=>hR _ _ (.inr ⟨_,?_,rfl,s4.chg⟩))
   ·rw[he];unfold en;rw[if_pos h]
   ·rw[he];unfold en;rw[if_neg h]
  ·exact hT (if_neg fun h2=>by rw[ht2.2 h2]at h;cases h) w3 hc3
 unfold Zai.b4
 simp -dsimp[go_sem,d0]
 refine Za (fun h=>?_) (fun h=>?_)<;>simp at h
 ·have yr:=(s2.box kr hr).1
  simp[Zp,Zea]at yr
  have mg:(Instr.lookup 98 D.lm (.string x.2.1) false).run Tryz.prog w2.drew = .ok (.int .i64 (cnt ls x.2.1)) w2.drew:=(s2.old (Chg.refl noB w2).drew).mapGet mStr kl hl x.2.1 hx
  simp -dsimp[go_sem,y0,yr,d1,mg]
  refine hN _ ?_ _ (Chg.refl noB w2).drew
  have hz:=Zvf ls x.2.1
  have hp:0≤cnt ls x.2.1:=Int.natCast_nonneg _
  simp only[decide_eq_true_eq,h,true_and]
  constructor
  ·intro h2
   cases hb:hasB ls x.2.1 with
   | true=>rfl
   | false=>have:=hz.2 hb;omega
  ·intro h2
   have:cnt ls x.2.1≠0:=fun h3=>by rw[hz.1 h3]at h2;cases h2
   omega
 ·exact hN false (by simp[h]) _ (Chg.refl noB w2).drew
end
end Go.Proofs.YtckbgeedlobfaaaGreatDoor
namespace Go.Px.Spec
open Go.Px Go.Px.Scan
structure MB (hs:List (Nat×List ByteArray))(rs:List RowS)(st:ByteArray):Prop where
 hl:hs.length≤10000
 side:∀h∈hs,h.1≤3
 tl:∀h∈hs,h.2.length≤10000
 tx:∀h∈hs,∀t∈h.2,t.size≤maxLen
 rl:rs.length≤10000
 left:∀r∈rs,r.left.size≤maxLen
 by_:∀r∈rs,r.by_.size≤maxLen
 wl:∀r∈rs,r.words.length≤10000
 wx:∀r∈rs,∀x∈r.words,x.2.1.size≤maxLen
 sx:st.size≤maxLen
end Go.Px.Spec
namespace Go.Proofs.YtckbgeedlobfaaaGreatDoor
open Go.Px Go.Px.Scan Go.Px.Spec Go.RowKit
attribute [-go_sem] Builtin.append_
noncomputable def ZZ65 (a:List Int×BS)(t:ByteArray):Except Int (List Int×BS):=do let r ←en (Zc4 a.2 t);pure (a.1++[r.1],r.2)
noncomputable def levF (lv:Int→Int)(d:Nat)(r:List Int×BS):Except Int ((Int→Int)×BS) :=
 if 0<d then do let n ←en (Zf3 r.2 d r.1);pure (fun t=>if t∈r.1 then n.1 else lv t,n.2) else pure (lv,r.2)
noncomputable def Zl0 (a:(Int→Int)×BS)(h:Nat×List ByteArray):Except Int ((Int→Int)×BS):=do
 let r ←h.2.foldlM ZZ65 ([],a.2)
 levF a.1 h.1 r
noncomputable def symF (ls:List ByteArray)(a:List Int×BS)(w:Wd):Except Int (List Int×BS):=do let r ←symM ls a.2 w;pure (a.1++[r.1],r.2)
noncomputable def Ztd (lv:Int→Int)(n:Int×BS)(t:ByteArray):Except Int BS:=if t=noT then pure n.2 else do let h ←en (Zc4 n.2 t);pure (Ze0 h.2 (lv h.1) [n.1]).2
noncomputable def endF (lv:Int→Int)(t:ByteArray)(said:Nat)(n:Int×BS):Except Int BS:=do
 let S ←Ztd lv n t
 pure (if said=2 then (Ze0 S 0 [n.1]).2 else S)
noncomputable def rowF (ls:List ByteArray)(lv:Int→Int)(S:BS)(r:RowS):Except Int BS:=do
 let l ←en (nonA S r.left)
 let q ←r.words.foldlM (symF ls) ([],l.2)
 let n ←en (Zez q.2 l.1 q.1)
 endF lv r.by_ r.said n
noncomputable def Zlr (st:ByteArray)(S:BS):Except Int BS:=if st=noT then pure S else do let h ←en (nonA S st);pure (if isN h.2 h.1 then {h.2 with start:=h.1 } else h.2)
noncomputable def allM (hs:List (Nat×List ByteArray))(ls:List ByteArray)(rs:List RowS)(st:ByteArray):Except Int BS:=do
 let a ←hs.foldlM Zl0 (fun _=>0,S0)
 let S ←rs.foldlM (rowF ls a.1) a.2
 Zlr st S
theorem Zj2 {S:BS}(ok:BSok S)(t:ByteArray):0≤(Zc4 S t).1∧(Zc4 S t).1≤65:=by
 have:=ok.syms
 have h2:=Zl9 (S.terms.map (·.1)) t
 have h3:=Ztc (S.terms.map (·.1)) t
 rw[List.length_map]at h3
 unfold Zc4
 split
 ·simp
 ·split
  ·simp only;omega
  ·split
   ·simp
   ·simp only;omega
theorem Zk6 {S:BS}(ok:BSok S)(t:ByteArray) : -65≤(nonA S t).1∧(nonA S t).1≤0:=by
 have:=ok.syms
 have h2:=Zl9 S.nons t
 have h3:=Ztc S.nons t
 unfold nonA
 split
 ·simp
 ·split
  ·simp only;omega
  ·split
   ·simp
   ·simp only;omega
theorem Zsj {S:BS}(ok:BSok S)(d:Int)(l:List Int):0≤(Zf3 S d l).1∧(Zf3 S d l).1≤65:=by
 have:=ok.syms
 have h2:=ok.lev
 by_cases h:LvP S d l
 ·rw[Zf0 h];simp only;omega
 ·rw[Zkg h];simp
theorem Zuj {S:BS}(ok:BSok S)(x:Int)(l:List Int):0≤(Zez S x l).1∧(Zez S x l).1≤96:=by
 have:=ok.prods
 unfold Zez
 split
 ·simp
 ·split
  ·simp
  ·simp only;omega
theorem en_ok {r:Int×Int×BS}{a:Int×BS}(h:en r = .ok a):r.2.1=0∧a=(r.1,r.2.2):=by
 unfold en at h
 split at h
 ·rename_i h0;injection h with h;exact ⟨h0,h.symm⟩
 ·cases h
theorem Zpc {r:Int×Int×BS}(h:r.2.1=0):en r = .ok (r.1,r.2.2):=if_pos h
theorem Zwm {r:Int×Int×BS}(h:r.2.1≠0):en r = .error r.2.1:=if_neg h
section
variable {G:Nat→Prop} {W w:World} {L:List Ch}
theorem Zma {e:TypeId}{size:Nat}{vs:List Value}{xss:List (List Value)}(s:St G W w L)(k:Nat)(hk:L[k]?=some (Zeg e size vs xss)){i:Nat}(hi:i<xss.length) :
  ∃a n c,vs[i]?=some (.slice a n c)∧∃F,(rowC e size a n c xss[i]).ok w F:=by
 obtain ⟨F,⟨hlen,h⟩,_⟩:=s.get hk
 have hv:vs[i]?=some (vs[i]'(by omega)):=List.getElem?_eq_getElem _
 obtain ⟨a,n,c,he,ho⟩:=h i _ _ hv (List.getElem?_eq_getElem hi)
 exact ⟨a,n,c,by rw[hv,he],F,ho⟩
theorem hd_at {hs:List (Nat×List ByteArray)}{D:RD}(s:St G W w L)(kh:Nat)(hkh:L[kh]?=some (rowC 118 2 D.ah hs.length D.ch ((hs.zip D.vs).flatMap encH)))(kv:Nat)(hkv:L[kv]?=some (Zeg 9 1 D.vs (hs.map fun h=>h.2.map Value.string))){i:Nat}(hi:i<hs.length) :
  ∃g a c,D.ah=some ⟨g,0,none⟩∧D.vs[i]?=some (.slice a hs[i].2.length c)∧w.cell? ⟨g,i*2,none⟩=some (.int .i64 hs[i].1)∧w.cell? ⟨g,i*2+1,none⟩=some (.slice a hs[i].2.length c):=by
 obtain ⟨a,n,c,hv,F,ho⟩:=Zma s kv hkv (i:=i) (by simpa using hi)
 have hn:=(Zhw ho).1
 simp at hn
 subst hn
 obtain ⟨F2,ho2,_⟩:=s.get hkh
 have hz:(hs.zip D.vs)[i]?=some (hs[i],.slice a hs[i].2.length c):=by
  rw[List.getElem?_zip_eq_some];exact ⟨List.getElem?_eq_getElem hi,hv⟩
 obtain ⟨g,hg,hc,_⟩:=Zhl ho2 (fun _ _=>rfl) (by omega) hz
 exact ⟨g,a,c,hg,hv,hc 0 _ rfl,hc 1 _ rfl⟩
theorem tm_at {hs:List (Nat×List ByteArray)}{D:RD}(s:St G W w L)(kv:Nat)(hkv:L[kv]?=some (Zeg 9 1 D.vs (hs.map fun h=>h.2.map Value.string))){i:Nat}(hi:i<hs.length){a:Option Addr}{n c:Nat}(hv:D.vs[i]?=some (.slice a n c)){j:Nat}(hj:j<hs[i].2.length) :
  ∃g,a=some ⟨g,0,none⟩∧w.cell? ⟨g,j,none⟩=some (.string hs[i].2[j]):=by
 obtain ⟨a',n',c',hv',F,ho⟩:=Zma s kv hkv (i:=i) (by simpa using hi)
 rw[hv]at hv'
 injection hv' with hv';injection hv' with e1 e2 e3
 subst e1 e2 e3
 obtain ⟨g,hg,hc,_⟩:=Zik ho (j:=j) (by simpa using hj)
 exact ⟨g,hg,by rw[hc];simp⟩
theorem rw_at {rs:List RowS}{D:RD}(s:St G W w L)(kh:Nat)(hkh:L[kh]?=some (rowC 124 4 D.ar rs.length D.cr ((rs.zip D.us).flatMap encR)))(kv:Nat)(hkv:L[kv]?=some (Zeg 73 3 D.us (rs.map fun r=>r.words.flatMap encW))){i:Nat}(hi:i<rs.length) :
  ∃g a c,D.ar=some ⟨g,0,none⟩∧D.us[i]?=some (.slice a rs[i].words.length c)∧w.cell? ⟨g,i*4,none⟩=some (.string rs[i].left)∧w.cell? ⟨g,i*4+1,none⟩=some (.slice a rs[i].words.length c)∧w.cell? ⟨g,i*4+2,none⟩=some (.string rs[i].by_)∧w.cell? ⟨g,i*4+3,none⟩=some (.bool (decide (rs[i].said=2))):=by
 obtain ⟨a,n,c,hv,F,ho⟩:=Zma s kv hkv (i:=i) (by simpa using hi)
 have hn:=(Zhw ho).1
 have hfl:∀l:List Wd,(l.flatMap encW).length=l.length*3:=fun l=>by
  induction l with
  | nil=>rfl
  | cons x l ih=>rw[List.flatMap_cons,List.length_append,ih,List.length_cons];show 3+_=_;omega
 simp only[List.getElem_map,hfl]at hn
 have hn':n=rs[i].words.length:=by omega
 subst hn'
 obtain ⟨F2,ho2,_⟩:=s.get hkh
 have hz:(rs.zip D.us)[i]?=some (rs[i],.slice a rs[i].words.length c):=by
  rw[List.getElem?_zip_eq_some];exact ⟨List.getElem?_eq_getElem hi,hv⟩
 obtain ⟨g,hg,hc,_⟩:=Zhl ho2 (fun _ _=>rfl) (by omega) hz
 exact ⟨g,a,c,hg,hv,hc 0 _ rfl,hc 1 _ rfl,hc 2 _ rfl,hc 3 _ rfl⟩
theorem wx_at {rs:List RowS}{D:RD}(s:St G W w L)(kv:Nat)(hkv:L[kv]?=some (Zeg 73 3 D.us (rs.map fun r=>r.words.flatMap encW))){i:Nat}(hi:i<rs.length){a:Option Addr}{n c:Nat}(hv:D.us[i]?=some (.slice a n c)){j:Nat}(hj:j<rs[i].words.length) :
  ∃g,a=some ⟨g,0,none⟩∧w.cell? ⟨g,j*3,none⟩=some (.int .i64 rs[i].words[j].1)∧w.cell? ⟨g,j*3+1,none⟩=some (.string rs[i].words[j].2.1)∧w.cell? ⟨g,j*3+2,none⟩=some (.int .i64 rs[i].words[j].2.2):=by
 obtain ⟨a',n',c',hv',F,ho⟩:=Zma s kv hkv (i:=i) (by simpa using hi)
 rw[hv]at hv'
 injection hv' with hv';injection hv' with e1 e2 e3
 subst e1 e2 e3
 simp only[List.getElem_map]at ho
 obtain ⟨g,hg,hc,_⟩:=Zhl ho (fun _ _=>rfl) (by omega) (List.getElem?_eq_getElem hj)
 exact ⟨g,hg,hc 0 _ rfl,hc 1 _ rfl,hc 2 _ rfl⟩
end
end Go.Proofs.YtckbgeedlobfaaaGreatDoor
namespace Go.Px.Spec
open Go.Px Go.Px.Scan
def addB (a:List ByteArray)(x:ByteArray):List ByteArray:=if hasB a x then a else a++[x]
def dd (l:List ByteArray):List ByteArray:=l.foldl addB []
theorem Znr (l:List ByteArray)(x:ByteArray):dd (l++[x])=addB (dd l) x:=by simp[dd]
theorem Zkm {a:List ByteArray}{x y:ByteArray}:y∈addB a x↔y∈a∨y=x:=by
 unfold addB
 split
 ·rename_i h;rw[Zae]at h;constructor
  ·exact Or.inl
  ·rintro (h2|rfl)
   ·exact h2
   ·exact h
 ·simp
theorem Zvl {l:List ByteArray}:∀{a:List ByteArray} {y:ByteArray},y∈l.foldl addB a↔y∈a∨y∈l:=by
 induction l with
 | nil=>simp
 | cons x l ih=>intro a y;rw[List.foldl_cons,ih,Zkm];simp[or_assoc]
theorem Zgl {l:List ByteArray}{y:ByteArray}:y∈dd l↔y∈l:=by unfold dd;rw[Zvl];simp
theorem Zk3 {a:List ByteArray}{x:ByteArray}(h:a.Nodup):(addB a x).Nodup:=by
 unfold addB
 split
 ·exact h
 ·rename_i hx;rw[Zae]at hx;exact List.nodup_append.2 ⟨h,by simp,fun y hy z hz e=>by simp at hz;subst hz;subst e;exact hx hy⟩
theorem Zle {l:List ByteArray}:∀{a:List ByteArray},a.Nodup→(l.foldl addB a).Nodup:=by
 induction l with
 | nil=>exact fun h=>h
 | cons x l ih=>exact fun h=>ih (Zk3 h)
theorem ZZ84 (l:List ByteArray):(dd l).Nodup:=Zle List.nodup_nil
inductive HOk:List (Nat×List ByteArray)→Prop
 | nil:HOk []
 | head {hs:List (Nat×List ByteArray)} {d:Nat}:HOk hs→d≤3→HOk (hs++[(d,[])])
 | term {hs:List (Nat×List ByteArray)} {d:Nat} {l:List ByteArray} {t:ByteArray}:HOk (hs++[(d,l)])→¬(kn (hs++[(d,l)]) t=2∨(d=0∧0<kn (hs++[(d,l)]) t))→HOk (hs++[(d,l++[t])])
def Nm (P:Wd→Prop)(t:ByteArray):Prop:=∃w,P w∧w.1=1∧w.2.1=t
def Tm (P:Wd→Prop)(t:ByteArray):Prop:=∃w,P w∧isTB w=true∧w.2.1=t
theorem Nm.tm {P:Wd→Prop}{t:ByteArray}(h:Nm P t):Tm P t:=by obtain ⟨w,h1,h2,h3⟩:=h;exact ⟨w,h1,by simp[isTB,h2],h3⟩
structure RI (P:Wd→Prop)(k:Nat)(r:RowS):Prop where
 left:Nm P r.left
 by_:r.by_=noT∨Tm P r.by_
 wl:r.words.length≤k
 wx:∀x∈r.words,P x∧isTB x=true
theorem RI.up {P:Wd→Prop}{k:Nat}{r:RowS}(h:RI P k r):RI P (k+1) r:=⟨h.left,h.by_,by have:=h.wl;omega,h.wx⟩
def Sd (r:RowS):Prop:=(r.said=1∧r.by_≠noT)∨(r.said≠1∧r.by_=noT)
structure MI (P:Wd→Prop)(k:Nat)(m:Mc):Prop where
 ph:m.ph≤9
 hl:m.heads.length≤k
 hok:HOk m.heads
 tl:∀h∈m.heads,h.2.length≤k
 tx:∀h∈m.heads,∀t∈h.2,Tm P t
 h1:m.ph=1∨m.ph=2→m.heads≠[]
 ne:∀h∈m.heads.dropLast,h.2≠[]
 ne2:m.ph≠1→∀h∈m.heads,h.2≠[]
 rl:m.rows.length≤k
 ri:∀r∈m.rows,RI P k r
 sd:∀r∈m.rows.dropLast,Sd r
 sd2:m.ph≠7→∀r∈m.rows,Sd r
 sd7:m.ph=7→∃rs r,m.rows=rs++[r]∧r.said=1∧r.by_=noT
 st:m.start=noT∨Nm P m.start
 rule:5≤m.ph→Nm P m.rule
 lefts:∀x∈m.lefts,Nm P x
 zero:m.ph≤4→m.rows=[]∧m.lefts=[]
 ord5:m.ph=5→dd (m.rows.map (·.left)++[m.rule])=dd m.lefts
 ord6:6≤m.ph→dd (m.rows.map (·.left))=dd m.lefts∧m.rule∈m.rows.map (·.left)
 r6:m.ph=6→∃rs r,m.rows=rs++[r]∧r.said=0∧r.by_=noT
theorem MI.zero' (P:Wd→Prop):MI P 0 m0:=by
 constructor<;>simp[m0,HOk.nil]
theorem Zlf {α:Type}{l:List α}{f:α→α}(h:l≠[]):∃a x,l=a++[x]∧Zx l f=a++[f x]:=by
 rcases List.eq_nil_or_concat l with e|⟨a,x,e⟩
 ·exact absurd e h
 ·subst e;exact ⟨a,x,by simp,by simp[Zx]⟩
theorem MI.begin {P:Wd→Prop}{k:Nat}{m m':Mc}{w:Wd}(h:MI P k m)(hw:P w)(hp:m.ph=0∨m.ph=9)(hs:Zg5 m w=some m'):MI P (k+1) m':=by
 unfold Zg5 at hs
 split at hs
 ·rename_i h1
  injection hs with hs
  subst hs
  have hn:Nm P w.2.1:=⟨w,hw,h1,rfl⟩
  refine ⟨by simp,by have:=h.hl;simp;omega,h.hok,fun x hx=>by have:=h.tl x hx;omega,h.tx,by simp,h.ne,fun _=>h.ne2 (by omega),by have:=h.rl;simp;omega,fun r hr=>(h.ri r hr).up,h.sd,fun _=>h.sd2 (by omega),by simp,h.st,fun _=>hn,?_,by simp,fun _=>?_,by simp,by simp⟩
  ·intro x hx
   rcases List.mem_append.1 hx with hx|hx
   ·exact h.lefts x hx
   ·simp at hx;rw[hx];exact hn
  ·have e:dd (m.rows.map (·.left))=dd m.lefts:=by
    rcases hp with hp|hp
    ·have:=h.zero (by omega);rw[this.1,this.2];rfl
    ·exact (h.ord6 (by omega)).1
   show dd (m.rows.map (·.left)++[w.2.1])=dd (m.lefts++[w.2.1])
   rw[Znr,Znr,e]
 ·cases hs
theorem Zzl {a:List ByteArray}{x:ByteArray}(h:x∈a):addB a x=a:=by unfold addB;rw[if_pos (Zae.2 h)]
theorem MI.another {P:Wd→Prop}{k:Nat}{m:Mc}(h:MI P k m)(hp:m.ph=5∨m.ph=6∨m.ph=8):MI P (k+1) (Zcj m):=by
 have hr:∀r∈m.rows,Sd r:=h.sd2 (by omega)
 refine ⟨by simp[Zcj],by have:=h.hl;simp[Zcj];omega,h.hok,fun x hx=>by have:=h.tl x hx;omega,h.tx,by simp[Zcj],h.ne,fun _=>h.ne2 (by omega),by have:=h.rl;simp[Zcj];omega,fun r hr=>?_,fun r hr'=>?_,fun _ r hr'=>?_,by simp[Zcj],h.st,fun _=>h.rule (by omega),h.lefts,by simp[Zcj],by simp[Zcj],fun _=>?_,fun _=>⟨m.rows,_,rfl,rfl,rfl⟩⟩
 ·rcases List.mem_append.1 hr with hr|hr
  ·exact (h.ri r hr).up
  ·simp at hr;subst hr
   exact ⟨h.rule (by omega),Or.inl rfl,by simp,by simp⟩
 ·have:(Zcj m).rows.dropLast=m.rows:=by simp[Zcj]
  rw[this]at hr';exact hr r hr'
 ·rcases List.mem_append.1 hr' with hr'|hr'
  ·exact hr r hr'
  ·simp at hr';subst hr';exact Or.inr ⟨by simp,rfl⟩
 ·have e:(Zcj m).rows.map (·.left)=m.rows.map (·.left)++[m.rule]:=by simp[Zcj]
  rw[e]
  refine ⟨?_,by simp[Zcj]⟩
  show _=dd m.lefts
  rcases hp with hp|hp
  ·exact h.ord5 hp
  ·have:=h.ord6 (by omega)
   rw[Znr,Zzl (Zgl.2 this.2),this.1]
theorem MI.row {P:Wd→Prop}{k:Nat}{m:Mc}{f:RowS→RowS}{q:Nat}(h:MI P k m)(hp:6≤m.ph∧m.ph≤8)(hq:6≤q∧q≤8)(hl:∀r,(f r).left=r.left)(hf:∀r∈m.rows,RI P k r→RI P (k+1) (f r))
  (h6:q=6→m.ph=6∧∀r,r.said=0→r.by_=noT→(f r).said=0∧(f r).by_=noT)
  (h7:q=7→m.ph=6∧∀r,r.by_=noT→(f r).said=1∧(f r).by_=noT)
  (h8:q=8→(m.ph=6∧∀r,r.by_=noT→Sd (f r))∨(m.ph=7∧∀r,r.said=1→Sd (f r))):MI P (k+1) {m with ph:=q,rows:=Zx m.rows f }:=by
 have hne:m.rows≠[]:=by
  have:=(h.ord6 hp.1).2
  intro e;rw[e]at this;simp at this
 obtain ⟨a,x,e1,e2⟩:=Zlf (f:=f) hne
 have hda:m.rows.dropLast=a:=by rw[e1];simp
 have hsa:∀r∈a,Sd r:=fun r hr=>h.sd r (by rw[hda];exact hr)
 have hlast:m.ph=6→x.said=0∧x.by_=noT:=fun hp6=>by
  obtain ⟨rs,r,e3,e4⟩:=h.r6 hp6
  rw[e1]at e3
  have:=List.append_inj' e3 rfl
  simp at this
  rw[this.2];exact e4
 have hlast7:m.ph=7→x.said=1∧x.by_=noT:=fun hp7=>by
  obtain ⟨rs,r,e3,e4⟩:=h.sd7 hp7
  rw[e1]at e3
  have:=List.append_inj' e3 rfl
  simp at this
  rw[this.2];exact e4
 refine ⟨by simp;omega,by have:=h.hl;simp;omega,h.hok,fun y hy=>by have:=h.tl y hy;omega,h.tx,by simp;omega,h.ne,fun _=>h.ne2 (by omega),?_,?_,?_,?_,?_,h.st,fun _=>h.rule (by omega),h.lefts,by simp;omega,by simp;omega,fun _=>?_,?_⟩
 ·show (Zx m.rows f).length≤_
  have:=h.rl
  rw[e1]at this
  rw[e2];simp at this ⊢;omega
 ·show ∀r∈Zx m.rows f,_
  rw[e2]
  intro r hr
  rcases List.mem_append.1 hr with hr|hr
  ·exact (h.ri r (by rw[e1];simp[hr])).up
  ·simp at hr;subst hr
   exact hf x (by rw[e1];simp) (h.ri x (by rw[e1];simp))
 ·show ∀r∈(Zx m.rows f).dropLast,_
  rw[e2];simp;exact hsa
 ·intro hq7
  show ∀r∈Zx m.rows f,_
  rw[e2]
  intro r hr
  rcases List.mem_append.1 hr with hr|hr
  ·exact hsa r hr
  ·simp at hr;subst hr
   have hq7':q≠7:=hq7
   rcases (by omega:q=6∨q=8) with h9|h9
   ·obtain ⟨h10,h11⟩:=h6 h9
    have:=hlast h10
    have:=h11 x this.1 this.2
    exact Or.inr ⟨by omega,this.2⟩
   ·rcases h8 h9 with ⟨h10,h11⟩|⟨h10,h11⟩
    ·exact h11 x (hlast h10).2
    ·exact h11 x (hlast7 h10).1
 ·intro hq7
  obtain ⟨h10,h11⟩:=h7 hq7
  exact ⟨a,f x,e2,h11 x (hlast h10).2⟩
 ·show dd ((Zx m.rows f).map (·.left))=_∧_∈(Zx m.rows f).map (·.left)
  have e:(Zx m.rows f).map (·.left)=m.rows.map (·.left):=by rw[e2,e1];simp[hl]
  rw[e];exact h.ord6 hp.1
 ·intro hq6
  obtain ⟨h10,h11⟩:=h6 hq6
  exact ⟨a,f x,e2,h11 x (hlast h10).1 (hlast h10).2⟩
theorem ZZ150 {t:ByteArray}{d:Nat}(h:Zfs t=some d):d≤3:=by
 unfold Zfs at h
 split at h
 ·injection h with h;omega
 ·split at h
  ·injection h with h;omega
  ·split at h
   ·injection h with h;omega
   ·split at h
    ·injection h with h;omega
    ·cases h
theorem MI.list {P:Wd→Prop}{k:Nat}{m m':Mc}{w:Wd}(h:MI P k m)(hw:P w)(hT:isTB w=true)(hp:m.ph=1∨m.ph=2)(hs:Zob m w.2.1=some m'):MI P (k+1) m':=by
 unfold Zob at hs
 split at hs
 ·cases hs
 ·rename_i hc
  injection hs with hs
  subst hs
  obtain ⟨a,⟨d,l⟩,e1,e2⟩:=Zlf (f:=fun h:Nat×List ByteArray=>(h.1,h.2++[w.2.1])) (h.h1 hp)
  have hok:=h.hok
  rw[e1]at hc hok
  have hz:=h.zero (by omega)
  have hda:m.heads.dropLast=a:=by rw[e1];simp
  have hmem:∀x∈Zx m.heads (fun h=>(h.1,h.2++[w.2.1])),x∈a∨x=(d,l++[w.2.1]):=fun x hx=>by rw[e2]at hx;simpa using hx
  refine ⟨by simp,?_,?_,fun x hx=>?_,fun x hx t ht=>?_,fun _=>?_,?_,fun _ x hx=>?_,by have:=h.rl;simp;omega,fun r hr=>(h.ri r hr).up,h.sd,fun _=>h.sd2 (by omega),by simp,h.st,by simp,h.lefts,fun _=>hz,by simp,by simp,by simp⟩
  ·show (Zx m.heads _).length≤_
   have:=h.hl
   rw[e1]at this;rw[e2];simp at this ⊢;omega
  ·show HOk (Zx m.heads _)
   rw[e2]
   refine HOk.term hok ?_
   rintro (h1|h1)
   ·exact hc (Or.inl h1)
   ·exact hc (Or.inr (by simpa using h1))
  ·rcases hmem x hx with hx|rfl
   ·have:=h.tl x (by rw[e1];simp[hx]);omega
   ·have:=h.tl (d,l) (by rw[e1];simp);simp at this ⊢;omega
  ·rcases hmem x hx with hx|rfl
   ·exact h.tx x (by rw[e1];simp[hx]) t ht
   ·rcases List.mem_append.1 ht with ht|ht
    ·exact h.tx (d,l) (by rw[e1];simp) t ht
    ·simp at ht;subst ht;exact ⟨w,hw,hT,rfl⟩
  ·show Zx m.heads _≠[]
   rw[e2];simp
  ·show ∀x∈(Zx m.heads _).dropLast,_
   rw[e2]
   intro x hx
   simp at hx
   exact h.ne x (by rw[hda];exact hx)
  ·rcases hmem x hx with hx|rfl
   ·exact h.ne x (by rw[hda];exact hx)
   ·simp
theorem MI.head {P:Wd→Prop}{k:Nat}{m m':Mc}{w:Wd}(h:MI P k m)(hp:m.ph=0)(hs:Zl4 m w=some m'):MI P (k+1) m':=by
 have hz:=h.zero (by omega)
 have hn2:=h.ne2 (by omega)
 unfold Zl4 at hs
 cases hd:Zfs w.2.1 with
 | some d=>
  rw[hd]at hs
  injection hs with hs
  subst hs
  refine ⟨by simp,by have:=h.hl;simp;omega,HOk.head h.hok (ZZ150 hd),fun x hx=>?_,fun x hx t ht=>?_,fun _=>by simp,fun x hx=>?_,fun hh=>absurd rfl hh,by have:=h.rl;simp;omega,fun r hr=>(h.ri r hr).up,h.sd,fun _=>h.sd2 (by omega),by simp,h.st,by simp,h.lefts,fun _=>hz,by simp,by simp,by simp⟩
  ·rcases List.mem_append.1 hx with hx|hx
   ·have:=h.tl x hx;omega
   ·simp at hx;subst hx;simp
  ·rcases List.mem_append.1 hx with hx|hx
   ·exact h.tx x hx t ht
   ·simp at hx;subst hx;simp at ht
  ·simp at hx;exact hn2 x hx
 | none=>
  rw[hd]at hs
  simp only at hs
  split at hs
  ·injection hs with hs
   subst hs
   exact ⟨by simp,by have:=h.hl;simp;omega,h.hok,fun x hx=>by have:=h.tl x hx;omega,h.tx,by simp,h.ne,fun _=>hn2,by have:=h.rl;simp;omega,fun r hr=>(h.ri r hr).up,h.sd,fun _=>h.sd2 (by omega),by simp,h.st,by simp,h.lefts,fun _=>hz,by simp,by simp,by simp⟩
  ·cases hs
theorem MI.phase0 {P:Wd→Prop}{k:Nat}{m:Mc}(h:MI P k m)(hp:m.ph=2∨m.ph=4):MI P (k+1) {m with ph:=0 } :=
 ⟨by simp,by have:=h.hl;simp;omega,h.hok,fun x hx=>by have:=h.tl x hx;omega,h.tx,by simp,h.ne,fun _=>h.ne2 (by omega),by have:=h.rl;simp;omega,fun r hr=>(h.ri r hr).up,h.sd,fun _=>h.sd2 (by omega),by simp,h.st,by simp,h.lefts,fun _=>h.zero (by omega),by simp,by simp,by simp⟩
theorem MI.within {P:Wd→Prop}{k:Nat}{m m':Mc}{w:Wd}(h:MI P k m)(hw:P w)(hp:m.ph=6∨m.ph=8)(hs:Ze6 m w=some m'):MI P (k+1) m':=by
 unfold Ze6 at hs
 split at hs
 ·injection hs with hs;subst hs;exact h.another (by omega)
 split at hs
 ·injection hs with hs;subst hs
  have hr:=h.ord6 (by omega)
  exact ⟨by simp,by have:=h.hl;simp;omega,h.hok,fun x hx=>by have:=h.tl x hx;omega,h.tx,by simp,h.ne,fun _=>h.ne2 (by omega),by have:=h.rl;simp;omega,fun r hr=>(h.ri r hr).up,h.sd,fun _=>h.sd2 (by omega),by simp,h.st,fun _=>h.rule (by omega),h.lefts,by simp,by simp,fun _=>hr,by simp⟩
 split at hs
 ·rename_i hc
  injection hs with hs;subst hs
  have e:({m with rows:=Zx m.rows fun r=>{r with words:=r.words++[w] } }:Mc)={m with ph:=6,rows:=Zx m.rows fun r=>{r with words:=r.words++[w] } }:=by rw[←hc.1]
  rw[e]
  exact h.row (by omega) (by omega) (fun r=>rfl) (fun r _ hr=>⟨hr.left,hr.by_,by have:=hr.wl;simp;omega,fun x hx=>by
   rcases List.mem_append.1 hx with hx|hx
   ·exact hr.wx x hx
   ·simp at hx;subst hx;exact ⟨hw,hc.2⟩⟩) (fun _=>⟨hc.1,fun r h1 h2=>⟨h1,h2⟩⟩) (by omega) (by omega)
 split at hs
 ·rename_i hc
  injection hs with hs;subst hs
  exact h.row (by omega) (by omega) (fun r=>rfl) (fun r _ hr=>⟨hr.left,hr.by_,by have:=hr.wl;simp;omega,hr.wx⟩) (by omega) (fun _=>⟨hc.1,fun r h2=>⟨rfl,h2⟩⟩) (by omega)
 split at hs
 ·rename_i hc
  injection hs with hs;subst hs
  exact h.row (by omega) (by omega) (fun r=>rfl) (fun r _ hr=>⟨hr.left,hr.by_,by have:=hr.wl;simp;omega,hr.wx⟩) (by omega) (by omega) (fun _=> .inl ⟨hc.1,fun r h2=>Or.inr ⟨by simp,h2⟩⟩)
 ·cases hs
theorem MI.step {P:Wd→Prop}{k:Nat}{m m':Mc}{w:Wd}(h:MI P k m)(hw:P w)(hne:w.2.1≠noT)(hs:Zbv m w=some m'):MI P (k+1) m':=by
 have hph:=h.ph
 unfold Zbv at hs
 split at hs
 ·rename_i hp
  split at hs
  ·exact h.head hp hs
  ·exact h.begin hw (Or.inl hp) hs
 ·rename_i hp
  split at hs
  ·rename_i hT;exact h.list hw hT (Or.inl hp) hs
  ·cases hs
 ·rename_i hp
  split at hs
  ·rename_i hT;exact h.list hw hT (Or.inr hp) hs
  ·split at hs
   ·injection hs with hs;subst hs;exact h.phase0 (Or.inl hp)
   ·cases hs
 ·rename_i hp
  split at hs
  ·rename_i h1
   injection hs with hs;subst hs
   exact ⟨by simp,by have:=h.hl;simp;omega,h.hok,fun x hx=>by have:=h.tl x hx;omega,h.tx,by simp,h.ne,fun _=>h.ne2 (by omega),by have:=h.rl;simp;omega,fun r hr=>(h.ri r hr).up,h.sd,fun _=>h.sd2 (by omega),by simp,Or.inr ⟨w,hw,h1,rfl⟩,by simp,h.lefts,fun _=>h.zero (by omega),by simp,by simp,by simp⟩
  ·cases hs
 ·rename_i hp
  split at hs
  ·injection hs with hs;subst hs;exact h.phase0 (Or.inr hp)
  ·cases hs
 ·rename_i hp
  split at hs
  ·injection hs with hs;subst hs;exact h.another (Or.inl hp)
  ·cases hs
 ·rename_i hp
  split at hs
  ·rename_i hT
   injection hs with hs;subst hs
   exact h.row (by omega) (by omega) (fun r=>rfl) (fun r _ hr=>⟨hr.left,Or.inr ⟨w,hw,hT,rfl⟩,by have:=hr.wl;simp;omega,hr.wx⟩) (by omega) (by omega) (fun _=> .inr ⟨hp,fun r h1=>Or.inl ⟨h1,hne⟩⟩)
  ·cases hs
 ·rename_i hp;exact h.begin hw (Or.inr hp) hs
 ·rename_i h0 h1 h2 h3 h4 h5 h7 h9
  have hq:m.ph=6∨m.ph=8:=by
   generalize m.ph=q at *
   match q,hph with
   | 0,_=>exact (h0 rfl).elim
   | 1,_=>exact (h1 rfl).elim
   | 2,_=>exact (h2 rfl).elim
   | 3,_=>exact (h3 rfl).elim
   | 4,_=>exact (h4 rfl).elim
   | 5,_=>exact (h5 rfl).elim
   | 6,_=>exact Or.inl rfl
   | 7,_=>exact (h7 rfl).elim
   | 8,_=>exact Or.inr rfl
   | 9,_=>exact (h9 rfl).elim
  exact h.within hw hq hs
theorem MI.go {P:Wd→Prop}{ws:List Wd}:∀{k:Nat} {m m':Mc} {l:List Wd},MI P k m→(∀w∈ws,P w∧w.2.1≠noT)→goM m ws=(m',l)→MI P (k+ws.length) m':=by
 induction ws with
 | nil=>intro k m m' l h _ hg;cases hg;simpa using h
 | cons w ws ih=>
  intro k m m' l h hP hg
  cases hs:Zbv m w with
  | none=>
   rw[Zgw hs]at hg;cases hg
   have up:∀n,MI P (k+n) m:=fun n=>by
    induction n with
    | zero=>exact h
    | succ n ih=>exact ⟨ih.ph,by have:=ih.hl;omega,ih.hok,fun x hx=>by have:=ih.tl x hx;omega,ih.tx,ih.h1,ih.ne,ih.ne2,by have:=ih.rl;omega,fun r hr=>(ih.ri r hr).up,ih.sd,ih.sd2,ih.sd7,ih.st,ih.rule,ih.lefts,ih.zero,ih.ord5,ih.ord6,ih.r6⟩
   exact up _
  | some m1=>
   rw[Zcc hs]at hg
   have:=ih (h.step (hP w (by simp)).1 (hP w (by simp)).2 hs) (fun x hx=>hP x (by simp[hx])) hg
   rw[List.length_cons,show k+(ws.length+1)=k+1+ws.length by omega]
   exact this
end Go.Px.Spec
namespace Go.Px.Scan
open Go.Px
theorem Ziz {s:ByteArray}{a e i:Nat}(he:e≤s.size)(h:a+i<e):bt (s.extract a e) i=bt s (a+i):=by
 rw[Zfa,Zfa]
 have:=Lib.extract_toList s a e
 rw[ByteArray.toList_eq]at this
 rw[this]
 simp only[List.getD_eq_getElem?_getD]
 rw[List.getElem?_take_of_lt (by omega),List.getElem?_drop]
def WP (w:Wd):Prop:=(w.1=1→Zfi w.2.1)∧(w.1=2→Zec w.2.1)∧(w.1=3→whole w.2.1=true)∧(w.1=4→w.2.1.size=1∧Zot (bt w.2.1 0)=true)∧(w.1=1∨w.1=2∨w.1=3∨w.1=4)∧0<w.2.1.size
theorem ZZ350 {s:ByteArray}{i kd a b n:Nat}(hi:i<s.size)(h:oneS s i = .word kd a b n):WP ((kd:Int),s.extract a b,(i:Int)):=by
 have hw:=Zht hi h
 have hz:=extract_size (s:=s) (a:=a) (e:=b) (by omega) (by omega)
 unfold oneS at h
 split at h
 ·rename_i hs
  cases h
  refine ⟨by simp,by simp,by simp,fun _=>⟨by rw[hz];omega,?_⟩,by simp,by rw[hz];omega⟩
  rw[Ziz (by omega) (by omega)];exact hs
 split at h
 ·split at h
  ·rename_i hc
   cases h
   simp at hc
   exact ⟨by simp,by simp,fun _=>hc.2,by simp,by simp,by rw[hz];omega⟩
  ·cases h
 split at h
 ·split at h
  ·cases h
   have hm:=Zqo Zb3 s 16 (i+1)
   refine ⟨by simp,fun _=>⟨by rw[hz];omega,by rw[hz];omega,fun j hj=>?_⟩,by simp,by simp,by simp,by rw[hz];omega⟩
   rw[hz]at hj
   rw[Ziz (by omega) (by omega)]
   exact (Zqn Zb3 s 16 (i+1) (i+1+j) (by omega) (by omega)).1
  ·cases h
 split at h
 ·rename_i hl
  split at h
  ·cases h
  ·cases h
   have hm:=Zqo Zbq s 16 i
   refine ⟨fun _=>⟨by rw[hz];omega,by rw[hz];omega,?_,fun j hj=>?_⟩,by simp,by simp,by simp,by simp,by rw[hz];omega⟩
   ·rw[Ziz (by omega) (by omega)];exact hl
   ·rw[hz]at hj
    rw[Ziz (by omega) (by omega)]
    exact (Zqn Zbq s 16 i (i+j) (by omega) (by omega)).1
 ·cases h
theorem ZZ312 (s:ByteArray)(i:Nat):∀x∈(allS s i).1,WP x:=by
 induction i using allS.induct s with
 | case1 i h k h1=>intro x hx;rw[Zlj h h1]at hx;simp at hx
 | case2 i h kd a b n h1 ih=>
  intro x hx
  rw[Zhn h h1]at hx
  rcases List.mem_cons.1 hx with rfl|hx
  ·exact ZZ350 h h1
  ·exact ih x hx
 | case3 i h=>intro x hx;rw[Zjo h]at hx;simp at hx
theorem Zvn (s:ByteArray):∀x∈(Zah s).1,WP x:=by
 unfold Zah;split
 ·simp
 ·exact ZZ312 s 0
end Go.Px.Scan
namespace Go.Px.Spec
open Go.Px Go.Px.Scan
theorem Zeu {t:ByteArray}(h:0<t.size):t≠noT:=fun e=>by rw[e]at h;exact absurd h (by decide)
theorem Nm.name {t:ByteArray}(h:Nm WP t):Zfi t:=by obtain ⟨w,h1,h2,rfl⟩:=h;exact h1.1 h2
theorem Tm.term {t:ByteArray}(h:Tm WP t):Zec t:=by
 obtain ⟨w,h1,h2,rfl⟩:=h
 simp[isTB]at h2
 rcases h2 with h2|h2
 ·exact (h1.1 h2).term
 ·exact h1.2.1 h2
theorem Zoi {t:ByteArray}(h:Zec t):t.size≤maxLen:=by have:=h.2.1;unfold maxLen;omega
theorem ZZ176 (s:ByteArray){m:Mc}{l:List Wd}(h:goM m0 (Zah s).1=(m,l)):MI WP (Zah s).1.length m:=by
 have:=(MI.zero' WP).go (fun w hw=>⟨Zvn s w hw,Zeu (Zvn s w hw).2.2.2.2.2⟩) h
 simpa using this
theorem HOk.side {hs:List (Nat×List ByteArray)}(h:HOk hs):∀x∈hs,x.1≤3:=by
 induction h with
 | nil=>simp
 | head _ hd ih=>intro x hx;rcases List.mem_append.1 hx with hx | hx;exact ih x hx;simp at hx;subst hx;exact hd
 | @term hs d l t _ _ ih=>
  intro x hx
  rcases List.mem_append.1 hx with hx|hx
  ·exact ih x (by simp[hx])
  ·rw[List.mem_singleton.1 hx];exact ih (d,l) (List.mem_append_right _ (List.mem_singleton.2 rfl))
theorem ZZ310 {s:ByteArray}{m:Mc}{l:List Wd}(h:goM m0 (Zah s).1=(m,l)):MB m.heads m.rows m.start:=by
 have mi:=ZZ176 s h
 have hl:=Zrk s
 refine ⟨by have:=mi.hl;omega,mi.hok.side,fun x hx=>by have:=mi.tl x hx;omega,fun x hx t ht=>Zoi (mi.tx x hx t ht).term,by have:=mi.rl;omega,fun r hr=>Zoi (mi.ri r hr).left.tm.term,fun r hr=>?_,fun r hr=>by have:=(mi.ri r hr).wl;omega,fun r hr x hx=>?_,?_⟩
 ·rcases (mi.ri r hr).by_ with e|e
  ·rw[e];decide
  ·exact Zoi e.term
 ·have:=(mi.ri r hr).wx x hx
  exact Zoi (Tm.term ⟨x,this.1,this.2,rfl⟩)
 ·rcases mi.st with e|e
  ·rw[e];decide
  ·exact Zoi e.tm.term
end Go.Px.Spec
namespace Go.Px.Spec
open Go.Px Go.Px.Scan
def putT (ts:List (ByteArray×Int))(t:ByteArray)(n:Nat):List (ByteArray×Int) :=
 let us:=if hasB (ts.map (·.1)) t then ts else ts++[(t,0)]
 if n=0 then us else us.modify (posN (us.map (·.1)) t) fun x=>(x.1,(n:Int))
def Zd1 (a:List (ByteArray×Int)×List Int)(h:Nat×List ByteArray):List (ByteArray×Int)×List Int :=
 let lv:=if 0<h.1 then a.2++[(h.1:Int)] else a.2
 (h.2.foldl (fun ts t=>putT ts t (if 0<h.1 then lv.length else 0)) a.1,lv)
def hAll (hs:List (Nat×List ByteArray)):List (ByteArray×Int)×List Int:=hs.foldl Zd1 ([(noT,0)],[])
def tmOf (hs:List (Nat×List ByteArray)):List (ByteArray×Int):=(hAll hs).1
def lvOf (hs:List (Nat×List ByteArray)):List Int:=(hAll hs).2
def sideL (hs:List (Nat×List ByteArray)):Nat:=(hs.getLast?.map (·.1)).getD 0
theorem Zz5 (hs:List (Nat×List ByteArray))(d:Nat):hAll (hs++[(d,[])])=(tmOf hs,if 0<d then lvOf hs++[(d:Int)] else lvOf hs):=by
 simp[hAll,tmOf,lvOf,Zd1]
theorem Zyg (hs:List (Nat×List ByteArray))(d:Nat)(l:List ByteArray)(t:ByteArray) :
  hAll (hs++[(d,l++[t])])=(putT (tmOf (hs++[(d,l)])) t (if 0<d then (lvOf (hs++[(d,l)])).length else 0),lvOf (hs++[(d,l)])):=by
 simp[hAll,tmOf,lvOf,Zd1]
theorem ZZ204 (hs:List (Nat×List ByteArray))(d:Nat):tmOf (hs++[(d,[])])=tmOf hs:=by unfold tmOf;rw[Zz5];rfl
theorem ZZ236 (hs:List (Nat×List ByteArray))(d:Nat)(l:List ByteArray)(t:ByteArray):tmOf (hs++[(d,l++[t])])=putT (tmOf (hs++[(d,l)])) t (if 0<d then (lvOf (hs++[(d,l)])).length else 0):=by
 rw[tmOf,Zyg]
theorem Zxy (hs:List (Nat×List ByteArray))(h:Nat×List ByteArray):sideL (hs++[h])=h.1:=by simp[sideL]
theorem Zfy (ts:List (ByteArray×Int))(t:ByteArray)(n:Nat):(putT ts t n).map (·.1)=addB (ts.map (·.1)) t:=by
 have hm:∀(us:List (ByteArray×Int)) (k:Nat) (x:Int),(us.modify k fun y=>(y.1,x)).map (·.1)=us.map (·.1):=fun us k x=>by
  apply List.ext_getElem?
  intro i
  rw[List.getElem?_map,List.getElem?_modify,List.getElem?_map]
  cases us[i]? with
  | none=>rfl
  | some y=>by_cases e:k=i<;>simp[e]
 have hu:(if hasB (ts.map (·.1)) t then ts else ts++[(t,(0:Int))]).map (·.1)=addB (ts.map (·.1)) t:=by
  unfold addB;split<;>simp
 unfold putT
 simp only
 split
 ·exact hu
 ·rw[hm,hu]
theorem Zsi {x:ByteArray×Int}{r:List (ByteArray×Int)}{t:ByteArray}(n:Nat)(h:t≠x.1):putT (x::r) t n=x::putT r t n:=by
 have hb:hasB ((x::r).map (·.1)) t=hasB (r.map (·.1)) t:=by
  have:¬x.1=t:=fun e=>h e.symm
  simp[hasB,this]
 unfold putT
 simp only[hb]
 have e1:(if hasB (r.map (·.1)) t then x::r else x::r++[(t,(0:Int))])=x::(if hasB (r.map (·.1)) t then r else r++[(t,0)]):=by split<;>rfl
 rw[e1]
 generalize (if hasB (r.map (·.1)) t then r else r++[(t,(0:Int))])=us
 split
 ·rfl
 ·have:posN ((x::us).map (·.1)) t=posN (us.map (·.1)) t+1:=by
   rw[List.map_cons,posN,if_neg (fun e=>h e.symm)]
  rw[this,List.modify_succ_cons]
def hTl (hs:List (Nat×List ByteArray)):List (ByteArray×Int)×List Int:=hs.foldl Zd1 ([],[])
theorem ZZ82 {h:Nat×List ByteArray}(hn:∀t∈h.2,t≠noT)(ts:List (ByteArray×Int))(lv:List Int):Zd1 ((noT,0)::ts,lv) h=((noT,0)::(Zd1 (ts,lv) h).1,(Zd1 (ts,lv) h).2):=by
 unfold Zd1
 simp only
 generalize (if 0<h.1 then lv++[(h.1:Int)] else lv)=lv'
 generalize (if 0<h.1 then lv'.length else 0)=n
 have:∀(l:List ByteArray),(∀t∈l,t≠noT)→∀ts,l.foldl (fun ts t=>putT ts t n) ((noT,(0:Int))::ts)=(noT,0)::l.foldl (fun ts t=>putT ts t n) ts:=fun l=>by
  induction l with
  | nil=>intro _ ts;rfl
  | cons t l ih=>intro hl ts;rw[List.foldl_cons,List.foldl_cons,Zsi n (hl t (by simp)),ih fun x hx=>hl x (by simp[hx])]
 rw[this h.2 hn]
theorem Zuw {hs:List (Nat×List ByteArray)}(hn:∀h∈hs,∀t∈h.2,t≠noT):hAll hs=((noT,0)::(hTl hs).1,(hTl hs).2):=by
 have:∀(hs:List (Nat×List ByteArray)),(∀h∈hs,∀t∈h.2,t≠noT)→∀ts lv,hs.foldl Zd1 ((noT,(0:Int))::ts,lv)=((noT,0)::(hs.foldl Zd1 (ts,lv)).1,(hs.foldl Zd1 (ts,lv)).2):=fun hs=>by
  induction hs with
  | nil=>intro _ ts lv;rfl
  | cons h hs ih=>
   intro hn ts lv
   rw[List.foldl_cons,List.foldl_cons,ZZ82 (hn h (by simp)),ih fun x hx=>hn x (by simp[hx])]
 exact this hs hn [] []
def lvT (ts:List (ByteArray×Int))(t:ByteArray):Option Int:=(ts[posN (ts.map (·.1)) t]?).map (·.2)
def knOf:Option Int→Nat | none=>0 | some n=>if 0<n then 2 else 1
theorem Zg9 {ts:List (ByteArray×Int)}{t:ByteArray}:lvT ts t=none↔t∉ts.map (·.1):=by
 unfold lvT
 rw[Option.map_eq_none_iff,List.getElem?_eq_none_iff,←Zg8,List.length_map];omega
theorem Zp5 {l:List ByteArray}{s t:ByteArray}(ht:t∈l)(h:posN l t=posN l s):s=t:=by
 obtain ⟨h1,h2⟩:=Zc2 ht
 have hs:s∈l:=Zg8.1 (by rw[←h];exact h1)
 have:=(Zc2 hs).2
 rw[←h,h2]at this
 injection this with this;exact this.symm
theorem ZZ108 (ts:List (ByteArray×Int))(t:ByteArray)(s:ByteArray):lvT (ts++[(t,0)]) s=if hasB (ts.map (·.1)) s then lvT ts s else if s=t then some 0 else none:=by
 unfold lvT
 rw[List.map_append,List.map_singleton,Zmk]
 by_cases hs:s∈ts.map (·.1)
 ·have:=Zg8.2 hs
  rw[if_pos this,if_pos (Zae.2 hs),List.getElem?_append_left (by simpa using this)]
 ·have:¬posN (ts.map (·.1)) s<(ts.map (·.1)).length:=fun h=>hs (Zg8.1 h)
  rw[if_neg this,if_neg (fun h=>hs (Zae.1 h))]
  by_cases e:s=t
  ·rw[if_pos e.symm,if_pos e,List.getElem?_append_right (by simp)];simp
  ·rw[if_neg (fun h=>e h.symm),if_neg e,List.getElem?_append_right (by simp)];simp
theorem Zio (us:List (ByteArray×Int))(k:Nat)(x:Int):(us.modify k fun y=>(y.1,x)).map (·.1)=us.map (·.1):=by
 apply List.ext_getElem?
 intro i
 rw[List.getElem?_map,List.getElem?_modify,List.getElem?_map]
 cases us[i]? with
 | none=>rfl
 | some y=>by_cases e:k=i<;>simp[e]
theorem Zwr {us:List (ByteArray×Int)}{t:ByteArray}(ht:t∈us.map (·.1))(x:Int)(s:ByteArray):lvT (us.modify (posN (us.map (·.1)) t) fun y=>(y.1,x)) s=if s=t then some x else lvT us s:=by
 unfold lvT
 rw[Zio,List.getElem?_modify]
 by_cases e:s=t
 ·subst e
  rw[if_pos rfl]
  have:=(Zc2 ht).1
  rw[List.getElem?_eq_getElem (by simpa using this)];simp
 ·have h2:¬posN (us.map (·.1)) t=posN (us.map (·.1)) s:=fun h=>e (Zp5 ht h)
  rw[if_neg e]
  simp only[h2,if_false]
  cases us[posN (us.map (·.1)) s]?<;>rfl
theorem Zmt {ts:List (ByteArray×Int)}{t:ByteArray}(n:Nat)(s:ByteArray):lvT (putT ts t n) s=if s=t then (if n=0 then some ((lvT ts t).getD 0) else some (n:Int)) else lvT ts s:=by
 have hu:∀s,lvT (if hasB (ts.map (·.1)) t then ts else ts++[(t,(0:Int))]) s=if s=t then some ((lvT ts t).getD 0) else lvT ts s:=fun s=>by
  by_cases hb:hasB (ts.map (·.1)) t=true
  ·have hm:=Zae.1 hb
   rw[if_pos hb]
   by_cases e:s=t
   ·subst e
    rw[if_pos rfl]
    cases hl:lvT ts s with
    | none=>exact absurd hm (Zg9.1 hl)
    | some x=>rfl
   ·rw[if_neg e]
  ·have hm:t∉ts.map (·.1):=fun h=>hb (Zae.2 h)
   rw[if_neg hb,ZZ108]
   by_cases e:s=t
   ·subst e
    rw[if_neg hb,if_pos rfl,if_pos rfl,Zg9.2 hm];rfl
   ·rw[if_neg e,if_neg e]
    by_cases hs:hasB (ts.map (·.1)) s=true
    ·rw[if_pos hs]
    ·rw[if_neg hs,Zg9.2 fun h=>hs (Zae.2 h)]
 have hin:t∈(if hasB (ts.map (·.1)) t then ts else ts++[(t,(0:Int))]).map (·.1):=by
  by_cases hb:hasB (ts.map (·.1)) t=true
  ·rw[if_pos hb];exact Zae.1 hb
  ·rw[if_neg hb];simp
 unfold putT
 simp only
 by_cases hn:n=0
 ·rw[if_pos hn,if_pos hn,hu]
 ·rw[if_neg hn,if_neg hn,Zwr hin]
  by_cases e:s=t
  ·rw[if_pos e,if_pos e]
  ·rw[if_neg e,if_neg e,hu,if_neg e]
theorem ZZ241 (hs:List (Nat×List ByteArray))(d:Nat)(l:List ByteArray)(t s:ByteArray):kn (hs++[(d,l++[t])]) s=if s=t then min d 1+1 else kn (hs++[(d,l)]) s:=by
 unfold kn
 rw[List.foldl_append,List.foldl_append]
 simp only[List.foldl_cons,List.foldl_nil]
 by_cases e:s=t
 ·subst e
  rw[if_pos rfl,if_pos (Zae.2 (by simp))]
 ·rw[if_neg e]
  have:hasB (l++[t]) s=hasB l s:=by
   have:¬t=s:=fun h=>e h.symm
   simp[hasB,this]
  rw[this]
theorem ZZ280 (hs:List (Nat×List ByteArray))(d:Nat)(s:ByteArray):kn (hs++[(d,[])]) s=kn hs s:=by
 unfold kn
 rw[List.foldl_append]
 simp[hasB]
theorem ZZ353 (hs:List (Nat×List ByteArray)){d:Nat}(hd:0<d)(l:List ByteArray):1≤(lvOf (hs++[(d,l)])).length:=by
 have:lvOf (hs++[(d,l)])=lvOf hs++[(d:Int)]:=by simp[lvOf,hAll,Zd1,hd]
 rw[this];simp
theorem kn_lv {hs:List (Nat×List ByteArray)}(h:HOk hs):(∀x∈hs,∀t∈x.2,t≠noT)→∀s,s≠noT→kn hs s=knOf (lvT (tmOf hs) s):=by
 induction h with
 | nil=>
  intro _ s hs
  have:lvT (tmOf []) s=none:=Zg9.2 (by simp[tmOf,hAll,hs])
  rw[this];rfl
 | @head hs d _ _ ih=>
  intro hn s hs
  rw[ZZ280,ZZ204]
  exact ih (fun x hx=>hn x (by simp[hx])) s hs
 | @term hs d l t _ hc ih=>
  intro hn s hsn
  have hn':∀x∈hs++[(d,l)],∀t∈x.2,t≠noT:=fun x hx y hy=>by
   rcases List.mem_append.1 hx with hx|hx
   ·exact hn x (by simp[hx]) y hy
   ·rw[List.mem_singleton.1 hx]at hy
    exact hn (d,l++[t]) (by simp) y (by simp[show y∈l from hy])
  have ht:t≠noT:=hn (d,l++[t]) (by simp) t (by simp)
  rw[ZZ241,ZZ236,Zmt]
  by_cases e:s=t
  ·subst e
   rw[if_pos rfl,if_pos rfl]
   by_cases hd:0<d
   ·have:=ZZ353 hs hd l
    rw[if_pos hd,if_neg (by omega)]
    have h2:(0:Int)<((lvOf (hs++[(d,l)])).length:Int):=by omega
    simp only[knOf,h2,if_true];omega
   ·have hd0:d=0:=by omega
    rw[if_neg hd,if_pos rfl]
    have h0:kn (hs++[(d,l)]) s=0:=by
     by_cases h0:0<kn (hs++[(d,l)]) s
     ·exact absurd (Or.inr ⟨hd0,h0⟩) hc
     ·omega
    have h1:=ih hn' s ht
    rw[h0]at h1
    cases hl:lvT (tmOf (hs++[(d,l)])) s with
    | none=>simp[knOf,hd0]
    | some x=>
     rw[hl]at h1
     by_cases hx:0<x
     ·simp[knOf,hx]at h1
     ·simp[knOf,hx]at h1
  ·rw[if_neg e,if_neg e]
   exact ih hn' s hsn
end Go.Px.Spec
namespace Go.Proofs.YtckbgeedlobfaaaGreatDoor
open Go.Px Go.Px.Scan Go.Px.Spec Go.RowKit
attribute [-go_sem] Builtin.append_ Zb.b25 Zb.b29 Zb.b30 Zb.b31 Zb.b31_1 Zb.b35 Zb.b36 Zb.b5 Zb.b4
def mkL (bm bb b:Nat)(S:BS)(lmv:Value)(n:Nat)(lv:Int→Int)(A:Option Addr)(c:Nat)(ws:List Wd)(e:Int)(i:Nat)(hs:List (Nat×List ByteArray))(st:ByteArray)(ls:List ByteArray)(rs:List RowS)(D:RD):List Ch :=
 boxC bm 83 [.pointer (some ⟨bb,0,none⟩),.pointer (some ⟨b,0,none⟩)]::bldC bb S::mapC Tryz.prog kInt 3 3 lmv n lv::rdL b A c ws e i hs st ls rs D
section
variable {G:Nat→Prop} {W w:World} {R:EP} {C22:VP} {bm bb b p n q:Nat} {S:BS} {lv:Int→Int} {A Al:Option Addr} {c cl:Nat} {ws:List Wd} {e:Int} {i:Nat} {hs:List (Nat×List ByteArray)} {st:ByteArray} {ls:List ByteArray} {rs:List RowS} {D:RD} {l:List Int} {x27:Value} {bx:Ch}
theorem ZZ141 {m:Int}(hm:0<m∧m≤65)(hl:∀h∈l,Zz h)(hln:l.length≤10000)(hn:n≤1000000000)
  (s:St G W w (mkL bm bb b S (.map (some p)) n lv A c ws e i hs st ls rs D++[bx,rowC 3 1 Al l.length cl (l.map (Value.int .i64 ·))]))
  (hK:∀w' n',n'≤n+l.length→St G W w' (mkL bm bb b S (.map (some p)) n' (fun t=>if t∈l then m else lv t) A c ws e i hs st ls rs D++[bx,rowC 3 1 Al l.length cl (l.map (Value.int .i64 ·))])→Zb.b25 R C22 x27 w') :
  Zb.l33 R C22 (.map (some p)) (.int .i64 m) x27 (.slice Al l.length cl) (.int .i64 l.length) (.int .i64 0) w:=by
 refine Zb.l33_intro _ _ _ _ _ _ _ _ _ (fun y w'=>∃(j n':Nat),y = .int .i64 j∧j≤l.length∧n'≤n+j ∧
   St G W w' (mkL bm bb b S (.map (some p)) n' (fun t=>if t∈l.take j then m else lv t) A c ws e i hs st ls rs D++[bx,rowC 3 1 Al l.length cl (l.map (Value.int .i64 ·))])) (fun y _=>l.length-iv y)
   ⟨0,n,rfl,by omega,by omega,by simpa using s⟩ ?_
 rintro _ w1 ⟨j,n',rfl,hj,hn',s1⟩ C33 hC
 unfold Zb.b34
 simp -dsimp[go_sem]
 refine Za (fun h1=>?_) (fun h1=>?_)<;>simp at h1
 ·obtain ⟨g,rfl,hc,_⟩:=s1.rowAt 12 rfl (j:=j) (by simpa using h1)
  simp only[List.getElem_map]at hc
  have wj:IntKind.i64.wrap ((j:Int)+1)=(j:Int)+1:=IntWalk.i64_in _ (by omega)
  have hmem:∀t,t∈l.take (j+1)↔t∈l.take j∨t=l[j]:=fun t=>by rw[List.take_succ_eq_append_getElem h1,List.mem_append,List.mem_singleton]
  have hcnt:∀x:Int,(if x=0 then n'+1 else n')≤n+(j+1):=fun x=>by split<;>omega
  obtain ⟨w2,hrun,s2⟩:=s1.mapPut mInt 2 rfl l[j] (hl _ (List.getElem_mem h1)) (by unfold maxLen;omega) (x:=m) (by unfold Zz;omega) (by omega)
   (if (if l[j]∈l.take j then m else lv l[j])=0 then n'+1 else n') (fun t=>if t∈l.take (j+1) then m else lv t) (fun h=>if_pos h) (fun h=>if_neg h)
   (by rw[if_pos ((hmem _).2 (Or.inr rfl))]) (fun t ht=>by by_cases h:t∈l.take j<;>simp only[hmem,h,ht,or_false,true_or,if_true,if_false])
  have hrun':(Instr.mapUpdate 116 (.map (some p)) (.int .i64 l[j]) (.int .i64 m)).run Tryz.prog w1 = .ok () w2:=hrun
  unfold Zb.b34_1
  simp -dsimp[go_sem,h1,Nat.not_le.2 h1,hc,hrun',wj]
  exact hC _ _ ⟨j+1,_,by simp,h1,hcnt _,s2⟩ (by simp[iv];omega)
 ·have hja:j=l.length:=by omega
  subst hja
  rw[List.take_length]at s1
  exact hK _ n' hn' s1
theorem Zxm {d:Nat}{v1:Value}(hd:d≤3)(hlv:∀t,0≤lv t∧lv t≤65)(hl:∀h∈l,Zz h)(hln:l.length≤10000)(hn:n≤1000000000)
  (s:St G W w (mkL bm bb b S (.map (some p)) n lv A c ws e i hs st ls rs D++[boxC q 118 [.int .i64 d,v1],rowC 3 1 Al l.length cl (l.map (Value.int .i64 ·))]))
  (hK:∀lv' S' w' n',levF lv d (l,S) = .ok (lv',S')→n'≤n+10000→(∀t,0≤lv' t∧lv' t≤65)→St G W w' (mkL bm bb b S' (.map (some p)) n' lv' A c ws e i hs st ls rs D)→Zb.b25 R C22 x27 w')
  (hX:∀e,levF lv d (l,S) = .error e→∀w',Chg G W w'→R (.panicked (errP e)) w') :
  Zb.b29 R C22 (.pointer (some ⟨bm,0,none⟩)) (.map (some p)) (.pointer (some ⟨q,0,none⟩)) (.slice Al l.length cl) x27 w:=by
 have yq:=(s.box 11 rfl).1
 have ym:=(s.box 0 rfl).1
 simp[Zp]at yq ym
 obtain ⟨ok,_⟩:=Zn6 s 1 rfl
 unfold Zb.b29
 simp -dsimp[go_sem,yq]
 unfold Zb.b30
 refine Za (fun h1=>?_) (fun h1=>?_)<;>simp at h1
 ·have e1:levF lv d (l,S)=(do let n ←en (Zf3 S d l);pure (fun t=>if t∈l then n.1 else lv t,n.2)):=by unfold levF;rw[if_pos h1]
  unfold Zb.b31
  simp -dsimp[go_sem,yq,ym]
  refine Zwd (s.old (Chg.refl noB w).drew) 1 rfl (by unfold Zz;omega) (Zp3.row (j:=12) rfl (by omega) hl) fun w2 s2=>?_
  have hr:=Zsj ok d l
  unfold Zb.b31_1
  simp -dsimp[go_sem]
  refine Zdm (fun h2=>?_) (fun h2=>hX _ (by rw[e1,Zwm h2];rfl) _ s2.chg)
  simp -dsimp[go_sem]
  rw[Zpc h2]at e1
  have hpos:0<(Zf3 S d l).1:=by
   by_cases h:LvP S d l
   ·rw[Zf0 h];simp only;omega
   ·rw[Zkg h]at h2;simp at h2
  refine ZZ141 ⟨hpos,hr.2⟩ hl hln hn s2 fun w3 n' hn' s3=>?_
  exact hK _ _ _ n' e1 (by omega) (fun t=>by dsimp only;split;exact hr;exact hlv t) (s3.take 11)
 ·unfold Zb.b35
  exact hK lv S _ n (by unfold levF;rw[if_neg (by omega)];rfl) (by omega) hlv (s.take 11)
theorem Zug {k:Nat}{a:Option Addr}{ca:Nat}(hk:k<hs.length)(mb:MB hs rs st)(hlv:∀t,0≤lv t∧lv t≤65)(hn:n≤1000000000)(hv:D.vs[k]?=some (.slice a hs[k].2.length ca))
  (s:St G W w (mkL bm bb b S (.map (some p)) n lv A c ws e i hs st ls rs D++[boxC q 118 [.int .i64 hs[k].1,.slice a hs[k].2.length ca]]))
  (hK:∀lv' S' w' n',Zl0 (lv,S) hs[k] = .ok (lv',S')→n'≤n+10000→(∀t,0≤lv' t∧lv' t≤65)→St G W w' (mkL bm bb b S' (.map (some p)) n' lv' A c ws e i hs st ls rs D)→Zb.b25 R C22 x27 w')
  (hX:∀e,Zl0 (lv,S) hs[k] = .error e→∀w',Chg G W w'→R (.panicked (errP e)) w') :
  Zb.b36 R C22 (.pointer (some ⟨bm,0,none⟩)) (.map (some p)) (.pointer (some ⟨q,0,none⟩)) (.slice none 0 0) x27 w:=by
 have htl:=mb.tl _ (List.getElem_mem hk)
 have yq:=(s.box 11 rfl).1
 simp[Zp]at yq
 unfold Zb.b36
 simp -dsimp[go_sem,yq]
 refine Zb.l38_intro _ _ _ _ _ _ _ _ _ _ _ (fun x y w'=>∃(j:Nat) (Al:Option Addr) (cl:Nat) (l:List Int) (S1:BS),y = .int .i64 j∧x = .slice Al l.length cl∧j≤hs[k].2.length∧l.length=j∧(∀h∈l,Zz h) ∧
   Zl0 (lv,S) hs[k]=((hs[k].2.drop j).foldlM ZZ65 (l,S1) >>= levF lv hs[k].1) ∧
   St G W w' (mkL bm bb b S1 (.map (some p)) n lv A c ws e i hs st ls rs D++[boxC q 118 [.int .i64 hs[k].1,.slice a hs[k].2.length ca],rowC 3 1 Al l.length cl (l.map (Value.int .i64 ·))])) (fun _ y _=>hs[k].2.length-iv y)
   ⟨0,none,0,[],S,rfl,rfl,by omega,rfl,by simp,rfl,by have:=s.nilRow 3 1;simpa[mkL]using this⟩ ?_
 rintro _ _ w1 ⟨j,Al,cl,l,S1,rfl,rfl,hj,hlj,hl,hg,s1⟩ C38 hC
 unfold Zb.b39
 simp -dsimp[go_sem]
 refine Za (fun h1=>?_) (fun h1=>?_)<;>simp at h1
 ·have ym:=(s1.box 0 rfl).1
  simp[Zp]at ym
  obtain ⟨g,rfl,hc⟩:=tm_at s1 7 rfl hk hv h1
  have wj:IntKind.i64.wrap ((j:Int)+1)=(j:Int)+1:=IntWalk.i64_in _ (by omega)
  obtain ⟨ok,_⟩:=Zn6 s1 1 rfl
  have hr:=Zj2 ok hs[k].2[j]
  rw[List.drop_eq_getElem_cons h1,List.foldlM_cons]at hg
  unfold Zb.b39_3
  simp -dsimp[go_sem,h1,Nat.not_le.2 h1,hc,ym]
  refine Zkl s1 1 rfl (mb.tx _ (List.getElem_mem hk) _ (List.getElem_mem h1)) fun w2 s2=>?_
  unfold Zb.b39_2
  simp -dsimp[go_sem]
  refine Zdm (fun h2=>?_) (fun h2=>hX _ (by rw[hg];unfold ZZ65;rw[Zwm h2];rfl) _ s2.chg)
  rw[ZZ65,Zpc h2]at hg
  unfold Zb.b39_1
  simp -dsimp[go_sem]
  refine s2.append1 12 rfl Zqw iInt rfl (by omega) (news:=[.int .i64 (Zc4 S1 hs[k].2[j]).1]) rfl (by simp[Value.oneCell']) (by unfold maxLen;omega) (by unfold Zr;omega) ?_
  intro g' cap w3 s3
  simp -dsimp[go_sem,wj]
  refine hC _ _ _ ⟨j+1,some ⟨g',0,none⟩,cap,l++[(Zc4 S1 hs[k].2[j]).1],(Zc4 S1 hs[k].2[j]).2.2,by simp,by simp,h1,by simp[hlj],fun h hh=>?_,hg,?_⟩ (by simp[iv];omega)
  ·rcases List.mem_append.1 hh with hh|hh
   ·exact hl h hh
   ·rw[List.mem_singleton.1 hh];unfold Zz;omega
  ·simpa[mkL,rdL]using s3
 ·have hja:j=hs[k].2.length:=by omega
  rw[hja,List.drop_length]at hg
  have hg':Zl0 (lv,S) hs[k]=levF lv hs[k].1 (l,S1):=hg
  exact Zxm (mb.side _ (List.getElem_mem hk)) hlv hl (by omega) hn s1 (fun lv' S' w' n' h=>hK lv' S' w' n' (hg'.trans h)) (fun e h=>hX e (hg'.trans h))
theorem Zx0 (mb:MB hs rs st){rest:(Int→Int)×BS→Except Int BS}{T:Except Int BS}(hT:T=hs.foldlM Zl0 (lv,S) >>= rest)(hlv:∀t,lv t=0)(hn:n=0)
  (s:St G W w (mkL bm bb b S (.map (some p)) n lv A c ws e i hs st ls rs D))
  (hK:∀lv' S' w' n',T=rest (lv',S')→(∀t,0≤lv' t∧lv' t≤65)→St G W w' (mkL bm bb b S' (.map (some p)) n' lv' A c ws e i hs st ls rs D)→Zb.b5 R (.pointer (some ⟨bm,0,none⟩)) (.map (some p)) w')
  (hX:∀e,T = .error e→∀w',Chg G W w'→R (.panicked (errP e)) w') :
  Zb.b20 R (.pointer (some ⟨bm,0,none⟩)) (.map (some p)) w:=by
 have hhl:=mb.hl
 have ym:=(s.box 0 rfl).1
 have yr:=(s.box 3 rfl).1
 simp[Zp,Zea]at ym yr
 unfold Zb.b20
 simp -dsimp[go_sem,ym,yr]
 refine Zb.l22_intro _ _ _ _ _ _ _ (fun y w'=>∃(k n':Nat) (lv':Int→Int) (S':BS),y = .int .i64 k∧k≤hs.length∧n'≤k*10000∧(∀t,0≤lv' t∧lv' t≤65)∧T=(hs.drop k).foldlM Zl0 (lv',S') >>= rest ∧
   St G W w' (mkL bm bb b S' (.map (some p)) n' lv' A c ws e i hs st ls rs D)) (fun y _=>hs.length-iv y)
   ⟨0,n,lv,S,rfl,by omega,by omega,fun t=>by rw[hlv];omega,hT,s⟩ ?_
 rintro _ w1 ⟨k,n',lv',S',rfl,hk,hn',hlv',hg,s1⟩ C22 hC
 unfold Zb.b23
 simp -dsimp[go_sem]
 refine Za (fun h1=>?_) (fun h1=>?_)<;>simp at h1
 ·obtain ⟨g,a,ca,hah,hv,c0,c1⟩:=hd_at s1 6 rfl 7 rfl h1
  rw[List.drop_eq_getElem_cons h1,List.foldlM_cons]at hg
  have wk:IntKind.i64.wrap ((k:Int)+1)=(k:Int)+1:=IntWalk.i64_in _ (by omega)
  have s2:=s1.alloc #[.int .i64 hs[k].1,.slice a hs[k].2.length ca] 118
  rw[hah]
  unfold Zb.b27
  simp -dsimp[go_sem,h1,Nat.not_le.2 h1,c0,c1]
  refine Zug h1 mb hlv' (by omega) hv s2 (fun lv2 S2 w3 n2 he hn2 hlv2 s3=>?_) (fun e he w3 hc=>hX e (by rw[hg,he];rfl) w3 hc)
  unfold Zb.b25
  simp -dsimp[go_sem,wk]
  exact hC _ _ ⟨k+1,n2,lv2,S2,by simp,h1,by omega,hlv2,by rw[hg,he];rfl,s3⟩ (by simp[iv];omega)
 ·have hka:k=hs.length:=by omega
  rw[hka,List.drop_length]at hg
  exact hK lv' S' _ n' hg hlv' s1
end
end Go.Proofs.YtckbgeedlobfaaaGreatDoor
