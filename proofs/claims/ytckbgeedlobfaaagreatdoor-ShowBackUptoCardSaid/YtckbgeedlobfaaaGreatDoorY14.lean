/-
  Texts of this claim: Gb2, Gb3, Gl1, Sp3, Sp4, Sp5, Sp6, Sp7, Sp8, Sp9.
-/
import Derived.Test.YtckbgeedlobfaaaGreatDoorY13
import Derived.Test.YtckbgeedlobfaaaGreatDoorY12
import Derived.Test.YtckbgeedlobfaaaGreatDoorY02
set_option maxHeartbeats 1000000
set_option linter.unusedSimpArgs false
set_option linter.unusedVariables false
set_option maxRecDepth 100000
namespace Go.Proofs.YtckbgeedlobfaaaGreatDoor
open Go.Px Go.Px.Scan Go.RowKit
attribute [-go_sem] Builtin.append_
attribute [-go_sem] Zd.b5 Zd.b7 Zd.b11 Zd.b9 Zd.b10 Zd.b20 Zd.b29
def zG:List Value:=[.slice none 0 0,.slice none 0 0,.slice none 0 0,.int .i64 0,.slice none 0 0]
def GrAns (S:BS)(w:World)(v:Value)(w':World):Prop :=
 Chg noB w w'∧(Zl5 S=true→∃vg,v = .tuple #[vg,.int .i64 0]∧Zoy w w' vg (Zdr S))∧(Zl5 S=false→v = .tuple #[.agg zG.toArray,.int .i64 1])
def boxG (x4:Nat)(At:Option Addr)(nt ct:Nat)(An:Option Addr)(nn cn:Nat)(Al:Option Addr)(nl cl:Nat)(Ap:Option Addr)(np cp:Nat):Ch :=
 boxC x4 27 [.slice At nt ct,.slice An nn cn,.slice Al nl cl,.int .i64 0,.slice Ap np cp]
section
variable {R:Ending→World→Prop} {w:World} {b q x4:Nat} {S:BS} {a0:Option Addr} {c0:Nat} {a2:Option Addr} {c2:Nat} {a4:Option Addr} {c4:Nat} {a5:Option Addr} {c5:Nat} {a6:Option Addr} {c6:Nat} {rs:List Value} (hr:∀w',Chg noB w w'→BRead w' b S a0 c0 a2 c2 a4 c4 a5 c5 a6 c6 rs) (ok:BSok S) (hwf:BSwf S)
 {al:Option Addr} {cl:Nat}
include hr ok
theorem ZZ119 {w4:World}{q2:Nat}(h4:St noB w w4 [boxC q 27 zG,rowC 64 2 (some ⟨q2,0,none⟩) 1 1 [.string ⟨#[]⟩,.int .i64 0],rowC 3 1 al S.levels.length cl (S.levels.map (.int .i64 ·)),boxG x4 (some ⟨q2,0,none⟩) 1 1 none 0 0 al S.levels.length cl none 0 0])
  (hK:∀At ct w',St noB w w' [boxC q 27 zG,rowC 64 2 At (S.terms.length+1) ct ((Zdr S).terms.flatMap Zor),rowC 3 1 al S.levels.length cl (S.levels.map (.int .i64 ·)),boxG x4 At (S.terms.length+1) ct none 0 0 al S.levels.length cl none 0 0] →
   Zd.b5 R (.pointer (some ⟨b,0,none⟩)) (.pointer (some ⟨q,0,none⟩)) (.pointer (some ⟨x4,0,none⟩)) w') :
  Zd.l37 R (.pointer (some ⟨b,0,none⟩)) (.pointer (some ⟨q,0,none⟩)) (.pointer (some ⟨x4,0,none⟩)) (.slice a0 S.terms.length c0) (.int .i64 S.terms.length) (.int .i64 0) w4:=by
 have hsy:=ok.syms
 refine Zd.l37_intro _ _ _ _ _ _ _ _ (fun y w'=>∃(k:Nat) (At:Option Addr) (ct:Nat),y = .int .i64 k∧k≤S.terms.length ∧
  St noB w w' [boxC q 27 zG,rowC 64 2 At (k+1) ct ([.string ⟨#[]⟩,.int .i64 0]++(S.terms.take k).flatMap Zor),rowC 3 1 al S.levels.length cl (S.levels.map (.int .i64 ·)),boxG x4 At (k+1) ct none 0 0 al S.levels.length cl none 0 0]) (fun y _=>S.terms.length-iv y) ⟨0,_,_,rfl,by omega,by simpa using h4⟩ ?_
 rintro _ w5 ⟨k,At,ct,rfl,hk,hst⟩ C hC
 simp -dsimp[go_sem]
 refine Za (fun p1=>?_) (fun p1=>?_)<;>simp at p1
 ·have hst2:=hst.old ((Chg.refl noB w5).drew)
  have z:=hr _ hst2.chg
  have y:=hst2.box 3 rfl
  simp[Zp]at y
  obtain ⟨g0,e0,d0,_⟩:=Zik (w:=w5) (F:=fun _=>True) (e:=9) (size:=1) (a:=a0) (n:=S.terms.length) (c:=c0) ⟨(hr _ hst.chg).texts,fun _ _=>trivial⟩ (j:=k) (by simpa using p1)
  obtain ⟨g1,e1,d1,_⟩:=Zik (w:=w5.drew) (F:=fun _=>True) (e:=3) (size:=1) (a:=a4) (n:=S.terms.length) (c:=c4) ⟨z.graded,fun _ _=>trivial⟩ (j:=k) (by simpa using p1)
  subst e0 e1
  simp only[List.getElem_map]at d0 d1
  simp -dsimp[go_sem,p1,d0,d1,y,z.k4]
  refine hst.append1d 1 rfl ZZ166 iTerm rfl (by omega) (news:=[.string S.terms[k].1,.int .i64 S.terms[k].2]) rfl (by simp[Value.oneCell']) (by unfold maxLen;omega) (by unfold Zr;omega) ?_
  intro g' cap w6 h6
  have y6:=h6.box 3 rfl
  simp[Zp]at y6
  have wk:IntKind.i64.wrap ((k:Int)+1)=(k:Int)+1:=IntWalk.i64_in _ (by omega)
  have h7:=h6.set 3 rfl 0 (.slice (some ⟨g',0,none⟩) (k+1+1) cap)
  have htk:S.terms.take (k+1)=S.terms.take k++[S.terms[k]]:=List.take_succ_eq_append_getElem p1
  have em:[Value.string ⟨#[]⟩,.int .i64 0]++(S.terms.take k).flatMap Zor++[.string S.terms[k].1,.int .i64 S.terms[k].2]=[Value.string ⟨#[]⟩,.int .i64 0]++(S.terms.take (k+1)).flatMap Zor:=by
   rw[htk,List.flatMap_append,List.append_assoc];rfl
  rw[em]at h7
  simp -dsimp[go_sem,y6,wk]
  exact hC _ _ ⟨k+1,_,_,by simp,by omega,h7⟩ (by simp[iv];omega)
 ·have hka:k=S.terms.length:=by omega
  subst hka
  rw[List.take_length]at hst
  exact hK _ _ _ hst
omit hr ok in
include hwf in
theorem Zpf (k:Nat):(Zj (S.rules.take k)).length≤S.nons.length:=Ze4 fun r hr'=>hwf.left r (List.mem_of_mem_take hr')
include hwf in
theorem ZZ113 {w4:World}{At:Option Addr}{ct:Nat}{tx:List Value}(h4:St noB w w4 [boxC q 27 zG,rowC 64 2 At (S.terms.length+1) ct tx,rowC 3 1 al S.levels.length cl (S.levels.map (.int .i64 ·)),boxG x4 At (S.terms.length+1) ct none 0 0 al S.levels.length cl none 0 0])
  (hK:∀m An cn w',St noB w w' [boxC q 27 zG,rowC 64 2 At (S.terms.length+1) ct tx,rowC 3 1 al S.levels.length cl (S.levels.map (.int .i64 ·)),boxG x4 At (S.terms.length+1) ct An (Zj S.rules).length cn al S.levels.length cl none 0 0,
    mapC Tryz.prog kInt 3 3 (.map (some m)) (Zj S.rules).length (Ze5 (S.terms.length+1) (Zj S.rules)),rowC 9 1 An (Zj S.rules).length cn (((Zj S.rules).map (Zk9 S)).map Value.string)] →
   Zd.b7 R (.pointer (some ⟨b,0,none⟩)) (.pointer (some ⟨q,0,none⟩)) (.pointer (some ⟨x4,0,none⟩)) (.map (some m)) w') :
  Zd.b5 R (.pointer (some ⟨b,0,none⟩)) (.pointer (some ⟨q,0,none⟩)) (.pointer (some ⟨x4,0,none⟩)) w4:=by
 have hsy:=ok.syms
 have hpr:=ok.prods
 unfold Zd.b5
 have h5:=h4.map Tryz.prog kInt 3 3
 have z5:=hr _ h5.chg
 simp -dsimp[go_sem,mkInt,z5.k6]
 generalize w4.heap.size=m at h5 ⊢
 generalize w4.alloc (.map #[] 0)=w5 at h5 z5 ⊢
 have h6:=h5.nilRow 9 1
 refine Zd.l32_intro _ _ _ _ _ _ _ _ _ (fun y w'=>∃(k n:Nat) (An:Option Addr) (cn:Nat),y = .int .i64 k∧k≤S.rules.length∧n=(Zj (S.rules.take k)).length ∧
  St noB w w' [boxC q 27 zG,rowC 64 2 At (S.terms.length+1) ct tx,rowC 3 1 al S.levels.length cl (S.levels.map (.int .i64 ·)),boxG x4 At (S.terms.length+1) ct An n cn al S.levels.length cl none 0 0,
    mapC Tryz.prog kInt 3 3 (.map (some m)) n (Ze5 (S.terms.length+1) (Zj (S.rules.take k))),rowC 9 1 An n cn (((Zj (S.rules.take k)).map (Zk9 S)).map Value.string)]) (fun y _=>S.rules.length-iv y) ⟨0,0,none,0,rfl,by omega,rfl,by
   have:Ze5 (S.terms.length+1) (Zj (S.rules.take 0))=fun _=>0:=by funext x;simp[Ze5,Zj]
   rw[this]
   simpa[Zj]using h6⟩ ?_
 rintro _ w6 ⟨k,n,An,cn,rfl,hk,hn,hst⟩ C hC
 have hln:=Zpf hwf k
 simp -dsimp[go_sem]
 refine Za (fun p1=>?_) (fun p1=>?_)<;>simp at p1
 ·have z:=hr _ hst.chg
  have hrk:k<rs.length:=by rw[z.rlen];exact p1
  obtain ⟨g,rfl,hcell,_⟩:=Zhl (F:=fun _=>True) (a:=a6) (c:=c6) (n:=S.rules.length) (e:=130) (size:=3) (enc:=fun x:(Int×List Int×Int)×Value=>Zh3 x.1 x.2) (i:=k) (x:=(S.rules[k],rs[k])) ⟨z.rules,fun _ _=>trivial⟩ (fun _ _=>rfl) (by omega) (by simp[List.getElem?_zip_eq_some,p1,hrk])
  have d0:=hcell 0 _ rfl
  have d1:=hcell 1 _ rfl
  have d2:=hcell 2 _ rfl
  simp only[Nat.add_zero]at d0
  have hleft:=hwf.left S.rules[k] (List.getElem_mem p1)
  have hii:Zz S.rules[k].1:=by unfold Zz;omega
  obtain ⟨ar,cr,hv,_⟩:=Zay (z.rights k S.rules[k] rs[k] (List.getElem?_eq_getElem p1) (List.getElem?_eq_getElem hrk))
  rw[hv]at d1
  have h7:=hst.alloc #[.int .i64 S.rules[k].1,rs[k],.int .i64 S.rules[k].2.2] 130
  rw[hv]at h7
  have mg:(Instr.lookup 116 (.map (some m)) (.int .i64 S.rules[k].1) false).run Tryz.prog (w6.alloc (.cells #[.int .i64 S.rules[k].1,.slice ar S.rules[k].2.1.length cr,.int .i64 S.rules[k].2.2] 130))=_:=h7.mapGet mInt 4 rfl S.rules[k].1 hii
  simp -dsimp[go_sem,p1,d0,d1,d2,mg]
  generalize w6.heap.size=rb at h7 ⊢
  generalize w6.alloc (.cells #[.int .i64 S.rules[k].1,.slice ar S.rules[k].2.1.length cr,.int .i64 S.rules[k].2.2] 130)=w7 at h7 mg ⊢
  have wk:IntKind.i64.wrap ((k:Int)+1)=(k:Int)+1:=IntWalk.i64_in _ (by omega)
  have htk:S.rules.take (k+1)=S.rules.take k++[S.rules[k]]:=List.take_succ_eq_append_getElem p1
  have hlt:Zj (S.rules.take (k+1))=addL (Zj (S.rules.take k)) S.rules[k].1:=by rw[htk,Zir]
  have y7:=h7.box 3 rfl
  have yr:=h7.box 6 rfl
  simp[Zp]at y7 yr
  refine Za (fun p2=>?_) (fun p2=>?_)<;>simp at p2
  ·have hno:=(Zq8 (by omega)).1 p2
   have hadd:addL (Zj (S.rules.take k)) S.rules[k].1=Zj (S.rules.take k)++[S.rules[k].1]:=if_neg hno
   rw[hadd]at hlt
   have hln1:=Zpf hwf (k+1)
   rw[hlt,List.length_append]at hln1
   have wa:IntKind.i64.wrap ((S.terms.length:Int)+1+n)=(S.terms.length:Int)+1+n:=IntWalk.i64_in _ (by simp at hln1;omega)
   obtain ⟨w8,hrun,h8⟩:=h7.mapPut mInt 4 rfl S.rules[k].1 hii (by unfold maxLen;omega) (x:=(S.terms.length:Int)+1+n) (by unfold Zz;omega) (by omega) (n+1) (Ze5 (S.terms.length+1) (Zj (S.rules.take (k+1)))) (fun _=>rfl) (fun h=>absurd p2 h)
    (by rw[hlt,Zpr hno,if_pos rfl,←hn];simp) (fun c hc=>by rw[hlt,Zpr hno,if_neg hc])
   have hrun':(Instr.mapUpdate 116 (.map (some m)) (.int .i64 S.rules[k].1) (.int .i64 ((S.terms.length:Int)+1+n))).run Tryz.prog w7=_:=hrun
   have h8d:=h8.old ((Chg.refl noB w8).drew)
   have y8:=h8d.box 3 rfl
   have yr8:=h8d.box 6 rfl
   simp[Zp]at y8 yr8
   have z8:=hr _ h8d.chg
   obtain ⟨j,hj⟩:∃j:Nat,S.rules[k].1 = -1-(j:Int):=⟨(-1-S.rules[k].1).toNat,by omega⟩
   have hjl:j<S.nons.length:=by omega
   obtain ⟨g2,e2,dn,_⟩:=Zik (F:=fun _=>True) (e:=9) (size:=1) (a:=a2) (n:=S.nons.length) (c:=c2) ⟨z8.nons,fun _ _=>trivial⟩ (j:=j) (by simpa using hjl)
   subst e2
   simp only[List.getElem_map]at dn
   have ws:IntKind.i64.wrap (-1-S.rules[k].1)=(j:Int):=by rw[show -1-S.rules[k].1=(j:Int) by omega];exact IntWalk.i64_in _ (by omega)
   have hnon:Zk9 S S.rules[k].1=S.nons[j]:=by
    unfold Zk9
    rw[show (-1-S.rules[k].1).toNat=j by omega,List.getElem?_eq_getElem hjl];rfl
   simp -dsimp[go_sem,y7,yr,wa,hrun',y8,yr8,z8.k2,ws,hjl,dn]
   refine h8.append1d 5 rfl uStrs iStr rfl (by omega) (news:=[.string S.nons[j]]) rfl (by simp[Value.oneCell']) (by unfold maxLen;omega) (by unfold Zr;omega) ?_
   intro g' cap w9 h9
   have y9:=h9.box 3 rfl
   simp[Zp]at y9
   have h10:=h9.set 3 rfl 1 (.slice (some ⟨g',0,none⟩) (n+1) cap)
   simp -dsimp[go_sem,y9,wk]
   have e3:((Zj (S.rules.take k)).map (Zk9 S)).map Value.string++[.string S.nons[j]]=((Zj (S.rules.take (k+1))).map (Zk9 S)).map Value.string:=by
    rw[hlt,List.map_append,List.map_append,←hnon];rfl
   have h11:=h10.take 6
   rw[e3]at h11
   refine hC _ _ ⟨k+1,n+1,some ⟨g',0,none⟩,cap,by simp,by omega,by rw[hlt,List.length_append,←hn];rfl,?_⟩ (by simp[iv];omega)
   exact h11
  ·have hyes:S.rules[k].1∈Zj (S.rules.take k):=Classical.byContradiction fun h=>p2 ((Zq8 (by omega)).2 h)
   have hadd:addL (Zj (S.rules.take k)) S.rules[k].1=Zj (S.rules.take k):=if_pos hyes
   rw[hadd]at hlt
   simp -dsimp[go_sem,wk]
   refine hC _ _ ⟨k+1,n,An,cn,by simp,by omega,by rw[hlt];exact hn,?_⟩ (by simp[iv];omega)
   have:=h7.take 6
   rw[hlt]
   exact this
 ·have hka:k=S.rules.length:=by omega
  subst hka
  rw[List.take_length]at hst hn
  subst hn
  exact hK _ _ _ _ hst
omit hr ok in
theorem ZZ93 {w:World}{A:Option Addr}{n c o:Nat}(h:w.cell? ⟨b,o,none⟩=some (.slice A n c)):Ct Tryz.prog Zao.id #[.pointer (some ⟨b,o,none⟩)] w fun v w'=>v = .int .i64 n∧w=w':=by
 refine Zao.ct fun R hR=>?_
 unfold Zao.run Zao.b1
 simp[go_sem,h]
 exact hR _ _ ⟨rfl,rfl⟩
def LG (S:BS)(q x4:Nat)(At:Option Addr)(ct:Nat)(al:Option Addr)(cl:Nat)(m:Nat)(An:Option Addr)(cn:Nat)(Ap:Option Addr)(np cp:Nat):List Ch :=
 [boxC q 27 zG,rowC 64 2 At (S.terms.length+1) ct ((Zdr S).terms.flatMap Zor),rowC 3 1 al S.levels.length cl (S.levels.map (.int .i64 ·)),boxG x4 At (S.terms.length+1) ct An (Zj S.rules).length cn al S.levels.length cl Ap np cp,
  mapC Tryz.prog kInt 3 3 (.map (some m)) (Zj S.rules).length (Ze5 (S.terms.length+1) (Zj S.rules)),rowC 9 1 An (Zj S.rules).length cn (((Zj S.rules).map (Zk9 S)).map Value.string)]
include hwf in
theorem ZZ112 {w4:World}{At:Option Addr}{ct m:Nat}{An:Option Addr}{cn:Nat}(h4:St noB w w4 (LG S q x4 At ct al cl m An cn none 0 0))
  (hK:∀Ap cp vs w',St noB w w' (LG S q x4 At ct al cl m An cn Ap S.rules.length cp++[rowC 50 3 Ap S.rules.length cp (((S.rules.map (pv S)).zip vs).flatMap Zgm),Zeg 3 1 vs ((S.rules.map (pv S)).map fun p=>p.2.1.map (.int .i64 ·))]) →
   Zd.b9 R (.pointer (some ⟨b,0,none⟩)) (.pointer (some ⟨q,0,none⟩)) (.pointer (some ⟨x4,0,none⟩)) (.map (some m)) w') :
  Zd.b11 R (.pointer (some ⟨b,0,none⟩)) (.pointer (some ⟨q,0,none⟩)) (.pointer (some ⟨x4,0,none⟩)) (.map (some m)) w4:=by
 have hsy:=ok.syms
 have hpr:=ok.prods
 have z4:=hr _ h4.chg
 unfold Zd.b11
 simp -dsimp[go_sem,z4.k6]
 have h5:=h4.nilRow 50 3
 have h6:=h5.push (c:=Zeg 3 1 [] []) ⟨rfl,fun i v xs h=>by simp at h⟩
 refine Zd.l13_intro _ _ _ _ _ _ _ _ _ (fun y w'=>∃(k:Nat) (Ap:Option Addr) (cp:Nat) (vs:List Value),y = .int .i64 k∧k≤S.rules.length ∧
  St noB w w' (LG S q x4 At ct al cl m An cn Ap k cp++[rowC 50 3 Ap k cp ((((S.rules.take k).map (pv S)).zip vs).flatMap Zgm),Zeg 3 1 vs (((S.rules.take k).map (pv S)).map fun p=>p.2.1.map (.int .i64 ·))])) (fun y _=>S.rules.length-iv y) ⟨0,none,0,[],rfl,by omega,by simpa using h6⟩ ?_
 rintro _ w6 ⟨k,Ap,cp,vs,rfl,hk,hst⟩ C hC
 simp -dsimp[go_sem]
 refine Za (fun p1=>?_) (fun p1=>?_)<;>simp at p1
 ·have z:=hr _ hst.chg
  have hrk:k<rs.length:=by rw[z.rlen];exact p1
  obtain ⟨g,rfl,hcell,_⟩:=Zhl (F:=fun _=>True) (a:=a6) (c:=c6) (n:=S.rules.length) (e:=130) (size:=3) (enc:=fun x:(Int×List Int×Int)×Value=>Zh3 x.1 x.2) (i:=k) (x:=(S.rules[k],rs[k])) ⟨z.rules,fun _ _=>trivial⟩ (fun _ _=>rfl) (by omega) (by simp[List.getElem?_zip_eq_some,p1,hrk])
  have d0:=hcell 0 _ rfl
  have d1:=hcell 1 _ rfl
  have d2:=hcell 2 _ rfl
  simp only[Nat.add_zero]at d0
  have hleft:=hwf.left S.rules[k] (List.getElem_mem p1)
  have hlev:=hwf.lev S.rules[k] (List.getElem_mem p1)
  have hright:=hwf.right S.rules[k] (List.getElem_mem p1)
  have hfit:=hwf.fit S.rules[k] (List.getElem_mem p1)
  have hii:Zz S.rules[k].1:=by unfold Zz;omega
  have hri:=z.rights k S.rules[k] rs[k] (List.getElem?_eq_getElem p1) (List.getElem?_eq_getElem hrk)
  obtain ⟨ar,cr,hv,hr1,hr2,_⟩:=Zay hri
  rw[hv]at d1 hri
  generalize hrule:S.rules[k]=r at d0 d1 d2 hleft hlev hright hfit hii hri hv hr1
  generalize hsym:Ze5 (S.terms.length+1) (Zj S.rules) r.1=sl
  have h7:=(hst.alloc #[.int .i64 r.1,.slice ar r.2.1.length cr,.int .i64 r.2.2] 130)
  have mg:(Instr.lookup 116 (.map (some m)) (.int .i64 r.1) false).run Tryz.prog (w6.alloc (.cells #[.int .i64 r.1,.slice ar r.2.1.length cr,.int .i64 r.2.2] 130))=_:=h7.mapGet mInt 4 rfl r.1 hii
  have h8:=h7.alloc #[.int .i64 sl,.slice none 0 0,.int .i64 r.2.2] 50
  have hs7:(w6.alloc (.cells #[.int .i64 r.1,.slice ar r.2.1.length cr,.int .i64 r.2.2] 130)).heap.size=w6.heap.size+1:=by simp
  rw[hs7]at h8
  rw[hsym]at mg
  simp -dsimp[go_sem,p1,d0,d1,d2,mg]
  generalize w6.heap.size=rb at h7 h8 ⊢
  generalize (w6.alloc (.cells #[.int .i64 r.1,.slice ar r.2.1.length cr,.int .i64 r.2.2] 130)).alloc (.cells #[.int .i64 sl,.slice none 0 0,.int .i64 r.2.2] 50)=w8 at h8 ⊢
  have h9:=h8.nilRow 3 1
  have hslb:Zz sl:=by
   have:=Zvk (t:=S.terms.length+1) (L:=Zj S.rules) (h:=r.1)
   have:=Ze4 hwf.left
   rw[hsym]at *;unfold Zz;omega
  refine Zd.l23_intro _ _ _ _ _ _ _ _ _ _ (fun y w'=>∃(j:Nat) (Ar:Option Addr) (cr':Nat),y = .int .i64 j∧j≤r.2.1.length ∧
   St noB w w' (LG S q x4 At ct al cl m An cn Ap k cp++[rowC 50 3 Ap k cp ((((S.rules.take k).map (pv S)).zip vs).flatMap Zgm),Zeg 3 1 vs (((S.rules.take k).map (pv S)).map fun p=>p.2.1.map (.int .i64 ·)),
    boxC rb 130 [.int .i64 r.1,.slice ar r.2.1.length cr,.int .i64 r.2.2],boxC (rb+1) 50 [.int .i64 sl,.slice Ar j cr',.int .i64 r.2.2],rowC 3 1 Ar j cr' (((r.2.1.take j).map (symH (S.terms.length+1) (Zj S.rules))).map (.int .i64 ·))])) (fun y _=>r.2.1.length-iv y) ⟨0,none,0,rfl,by omega,by simpa[LG]using h9⟩ ?_
  rintro _ w10 ⟨j,Ar,cr',rfl,hj,hst10⟩ C' hC'
  have z10:=hr _ hst10.chg
  have hri10:=z10.rights k r rs[k] (by rw[List.getElem?_eq_getElem p1,hrule]) (List.getElem?_eq_getElem hrk)
  rw[hv]at hri10
  have y10:=hst10.box 9 rfl
  simp[Zp]at y10
  simp -dsimp[go_sem]
  refine Za (fun p2=>?_) (fun p2=>?_)<;>simp at p2
  ·obtain ⟨b1,o1,rfl,hb1,e1,e2⟩:=Go.Px.ints_at hri10 p2
   have hel:=hright _ (List.getElem_mem p2)
   have wj:=Zau p2 (Nat.le_trans hr1 hr2)
   have mg2:(Instr.lookup 116 (.map (some m)) (.int .i64 r.2.1[j]) false).run Tryz.prog w10=_:=hst10.mapGet mInt 4 rfl r.2.1[j] e2
   have htk:r.2.1.take (j+1)=r.2.1.take j++[r.2.1[j]]:=List.take_succ_eq_append_getElem p2
   have fin:∀x:Int,x=symH (S.terms.length+1) (Zj S.rules) r.2.1[j]→Zd.b29 R C C' (.pointer (some ⟨rb+1,0,none⟩)) (.int .i64 x) (.int .i64 j) w10:=by
    intro x hx
    unfold Zd.b29
    simp -dsimp[go_sem,y10]
    have hjm:j<maxLen:=by omega
    refine hst10.append1 10 rfl Zqw iInt rfl (by omega) (news:=[.int .i64 x]) rfl (by simp[Value.oneCell']) (by omega) ?_ ?_
    ·have:=hfit;omega
    intro g' cap w11 h11
    have y11:=h11.box 9 rfl
    simp[Zp]at y11
    have h12:=h11.set 9 rfl 1 (.slice (some ⟨g',0,none⟩) (j+1) cap)
    simp -dsimp[go_sem,y11,wj]
    have em:((r.2.1.take j).map (symH (S.terms.length+1) (Zj S.rules))).map (Value.int .i64 ·)++[.int .i64 x]=((r.2.1.take (j+1)).map (symH (S.terms.length+1) (Zj S.rules))).map (Value.int .i64 ·):=by
     rw[htk,List.map_append,List.map_append,hx];rfl
    rw[em]at h12
    exact hC' _ _ ⟨j+1,_,_,by simp,by omega,h12⟩ (by simp[iv];omega)
   simp -dsimp[go_sem,p2,e1]
   refine Za (fun p3=>?_) (fun p3=>?_)<;>simp at p3
   ·simp -dsimp[go_sem,mg2]
    exact fin _ (by unfold symH;rw[if_pos p3])
   ·exact fin _ (by unfold symH;rw[if_neg (by omega)])
  ·have hja:j=r.2.1.length:=by omega
   subst hja
   rw[List.take_length]at hst10
   have y3:=hst10.box 3 rfl
   simp[Zp]at y3
   have hc':=(hst10.rowSize 10 rfl)
   unfold Zd.b20
   simp -dsimp[go_sem,y10,y3]
   refine hst10.append1 6 rfl ZZ180 iProd rfl (by omega) (news:=[.int .i64 sl,.slice Ar r.2.1.length cr',.int .i64 r.2.2]) rfl (by simp[Value.oneCell']) (by unfold maxLen;omega) (by unfold Zr;omega) ?_
   intro g' cap w11 h11
   have y11:=h11.box 3 rfl
   simp[Zp]at y11
   have h12:=h11.set 3 rfl 4 (.slice (some ⟨g',0,none⟩) (k+1) cap)
   have wk:IntKind.i64.wrap ((k:Int)+1)=(k:Int)+1:=IntWalk.i64_in _ (by omega)
   simp -dsimp[go_sem,y11,wk]
   obtain ⟨Fv,hov,_⟩:=hst10.get (k:=7) rfl
   have hvl:vs.length=k:=by have:=hov.1;simp at this;omega
   have h13:=h12.merge (j:=10) (k:=7) rfl rfl (by omega) (e:=Zeg 3 1 (vs++[.slice Ar r.2.1.length cr']) ((((S.rules.take k).map (pv S)).map fun p=>p.2.1.map (.int .i64 ·))++[(r.2.1.map (symH (S.terms.length+1) (Zj S.rules))).map (.int .i64 ·)])) fun F F' h1 h2=>Zi3 h1 h2
   have htk:S.rules.take (k+1)=S.rules.take k++[r]:=by rw[←hrule];exact List.take_succ_eq_append_getElem p1
   have e1:((S.rules.take (k+1)).map (pv S))=(S.rules.take k).map (pv S)++[pv S r]:=by rw[htk,List.map_append];rfl
   have e2:(((S.rules.take (k+1)).map (pv S)).map fun p=>p.2.1.map (Value.int .i64 ·))=(((S.rules.take k).map (pv S)).map fun p=>p.2.1.map (Value.int .i64 ·))++[(r.2.1.map (symH (S.terms.length+1) (Zj S.rules))).map (.int .i64 ·)]:=by rw[e1,List.map_append];rfl
   have e3:((((S.rules.take (k+1)).map (pv S)).zip (vs++[.slice Ar r.2.1.length cr'])).flatMap Zgm)=((((S.rules.take k).map (pv S)).zip vs).flatMap Zgm)++[.int .i64 sl,.slice Ar r.2.1.length cr',.int .i64 r.2.2]:=by
    rw[e1,List.zip_append (by simp[hvl];omega),List.flatMap_append]
    congr 1
    simp[Zgm,pv,hsym]
   rw[←e2,←e3]at h13
   refine hC _ _ ⟨k+1,_,_,_,by simp,by omega,h13.take 8⟩ (by simp[iv];omega)
 ·have hka:k=S.rules.length:=by omega
  subst hka
  rw[List.take_length]at hst
  exact hK _ _ _ _ hst
include hwf in
theorem ZZ345 {w4:World}{At:Option Addr}{ct m:Nat}{An:Option Addr}{cn:Nat}{Ap:Option Addr}{cp:Nat}{vs:List Value}(hne:S.rules≠[])(h4:St noB w w4 (LG S q x4 At ct al cl m An cn Ap S.rules.length cp++[rowC 50 3 Ap S.rules.length cp (((S.rules.map (pv S)).zip vs).flatMap Zgm),Zeg 3 1 vs ((S.rules.map (pv S)).map fun p=>p.2.1.map (.int .i64 ·))]))
  (hR:∀vg w',Zoy w w' vg (Zdr S)→R (.returned (.tuple #[vg,.int .i64 0])) w') :
  Zd.b9 R (.pointer (some ⟨b,0,none⟩)) (.pointer (some ⟨q,0,none⟩)) (.pointer (some ⟨x4,0,none⟩)) (.map (some m)) w4:=by
 have hsy:=ok.syms
 have hpr:=ok.prods
 have hpos:0<S.rules.length:=List.length_pos_iff.2 hne
 obtain ⟨Fv,hov,_⟩:=h4.get (k:=7) rfl
 have hvl:vs.length=S.rules.length:=by have:=hov.1;simpa using this
 obtain ⟨Fp,hop,_⟩:=h4.get (k:=6) rfl
 obtain ⟨g,rfl,hcell,_⟩:=Zhl (enc:=Zgm) (i:=0) (x:=(pv S S.rules[0],vs[0])) hop (fun _ _=>rfl) (by omega) (by simp[List.getElem?_zip_eq_some,hpos,hvl])
 have d0:w4.cell? ⟨g,0,none⟩=some (.int .i64 (Ze5 (S.terms.length+1) (Zj S.rules) S.rules[0].1)):=hcell 0 _ rfl
 have hL:=Ze4 hwf.left
 have symb:∀h:Int,Zz (Ze5 (S.terms.length+1) (Zj S.rules) h):=fun h=>by
  have:=Zvk (t:=S.terms.length+1) (L:=Zj S.rules) (h:=h)
  unfold Zz;omega
 have symb':∀h:Int,h≤S.terms.length → -(S.nons.length:Int)≤h→Zz (symH (S.terms.length+1) (Zj S.rules) h):=fun h h1 h2=>by
  unfold symH
  split
  ·exact symb h
  ·unfold Zz;omega
 have y4:=h4.box 3 rfl
 simp[Zp]at y4
 have h5:=h4.set 3 rfl 3 (.int .i64 (Ze5 (S.terms.length+1) (Zj S.rules) S.rules[0].1))
 have z5:=hr _ h5.chg
 have fin:∀(w5:World) (st:Int),st=(Zdr S).start→St noB w w5 [boxC q 27 zG,rowC 64 2 At (S.terms.length+1) ct ((Zdr S).terms.flatMap Zor),rowC 3 1 al S.levels.length cl (S.levels.map (.int .i64 ·)),
   boxC x4 27 [.slice At (S.terms.length+1) ct,.slice An (Zj S.rules).length cn,.slice al S.levels.length cl,.int .i64 st,.slice (some ⟨g,0,none⟩) S.rules.length cp],
   mapC Tryz.prog kInt 3 3 (.map (some m)) (Zj S.rules).length (Ze5 (S.terms.length+1) (Zj S.rules)),rowC 9 1 An (Zj S.rules).length cn (((Zj S.rules).map (Zk9 S)).map Value.string),
   rowC 50 3 (some ⟨g,0,none⟩) S.rules.length cp (((S.rules.map (pv S)).zip vs).flatMap Zgm),Zeg 3 1 vs ((S.rules.map (pv S)).map fun p=>p.2.1.map (.int .i64 ·))] →
   Zd.b10 R (.pointer (some ⟨q,0,none⟩)) (.pointer (some ⟨x4,0,none⟩)) w5:=by
  intro w5 st hst h6
  unfold Zd.b10
  have y6:=h6.box 3 rfl
  have yq:=h6.box 0 rfl
  simp[Zp]at y6
  simp[Zp,zG]at yq
  have h7:=((((h6.set 0 rfl 0 (.slice At (S.terms.length+1) ct)).set 0 rfl 1 (.slice An (Zj S.rules).length cn)).set 0 rfl 2 (.slice al S.levels.length cl)).set 0 rfl 3 (.int .i64 st)).set 0 rfl 4 (.slice (some ⟨g,0,none⟩) S.rules.length cp)
  have yq7:=h7.box 0 rfl
  simp[Zp,zG]at yq7
  simp -dsimp[go_sem,y6,yq,yq7]
  refine hR _ _ ⟨At,ct,An,cn,al,cl,some ⟨g,0,none⟩,cp,vs,?_,h7.pick [1,5,2,6,7] (by decide) ?_,?_,?_,?_,?_,?_⟩
  ·simp[Zdr,hst]
  ·simp[Zdr,zG]
  ·intro t ht
   rcases List.mem_cons.1 ht with rfl|ht
   ·exact ⟨by unfold maxLen;decide,by unfold Zz;simp⟩
   ·have h1:=(ok.tnam t ht).2.1
    have h2:=ok.grd t ht
    have:=ok.lev
    exact ⟨by unfold maxLen;omega,by unfold Zz;omega⟩
  ·intro s hs
   obtain ⟨h,_,rfl⟩:=List.mem_map.1 hs
   unfold Zk9
   cases e:S.nons[(-1-h).toNat]? with
   | none=>unfold maxLen;decide
   | some t=>have:=(ok.nnam t (List.mem_of_getElem? e)).2.1;simp only[Option.getD_some];unfold maxLen;omega
  ·intro x hx
   have:=hwf.sides x hx
   unfold Zz;omega
  ·exact symb _
  ·intro p hp
   obtain ⟨r,hr',rfl⟩:=List.mem_map.1 hp
   have h1:=hwf.lev r hr'
   have:=ok.lev
   refine ⟨symb _,fun x hx=>?_,by show Zz r.2.2;unfold Zz;omega⟩
   obtain ⟨h,hh,rfl⟩:=List.mem_map.1 hx
   have:=hwf.right r hr' h hh
   exact symb' h this.2.1 this.1
 unfold Zd.b9
 have z4:=hr _ h4.chg
 have hk7:=z5.k7
 simp -dsimp[go_sem,y4,hpos,d0,hk7]
 have hh:(S.rules.head?.map (·.1)).getD 0=S.rules[0].1:=by
  rw[List.head?_eq_getElem?,List.getElem?_eq_getElem hpos];rfl
 refine Za (fun p1=>?_) (fun p1=>?_)<;>simp at p1
 ·have hsi:Zz S.start:=by have:=hwf.start;unfold Zz;omega
  have mg:(Instr.lookup 116 (.map (some m)) (.int .i64 S.start) false).run Tryz.prog (w4.setCell ⟨x4,3,none⟩ (.int .i64 (Ze5 (S.terms.length+1) (Zj S.rules) S.rules[0].1)))=_:=h5.mapGet mInt 4 rfl S.start hsi
  have y5:=h5.box 3 rfl
  simp[Zp]at y5
  simp -dsimp[go_sem,hk7,mg,y5]
  have h6:=h5.set 3 rfl 3 (.int .i64 (Ze5 (S.terms.length+1) (Zj S.rules) S.start))
  exact fin _ _ (by simp[Zdr,p1]) h6
 ·exact fin _ _ (by simp[Zdr,p1,hh]) h5
end
set_option maxHeartbeats 4000000 in
theorem Zxh {w:World}{T:Nat→Nat}{b:Nat}{V:BV}{S:BS}(h:Bld w T b V S)(hwf:BSwf S) :
  Ct Tryz.prog Zd.id #[.pointer (some ⟨b,0,none⟩)] w fun v w'=>GrAns S w v w':=by
 refine Zd.ct fun R hR=>?_
 obtain ⟨a0,c0,a2,c2,a4,c4,a5,c5,a6,c6,rs,hr⟩:=h.read
 have ok:=h.ok
 have hsy:=ok.syms
 have hpr:=ok.prods
 have hlv:=ok.lev
 have z0:=hr w (Chg.refl _ _)
 have no:∀w',Chg noB w w'→¬(S.rules≠[]∧S.nons.length≤(Zj S.rules).length)→R (.returned (.tuple #[.agg zG.toArray,.int .i64 1])) w':=fun w' hc hn=>
  hR _ _ ⟨hc,fun ht=>absurd (of_decide_eq_true ht) hn,fun _=>rfl⟩
 unfold Zd.run
 have h1:=(St.refl noB w).alloc #[.slice none 0 0,.slice none 0 0,.slice none 0 0,.int .i64 0,.slice none 0 0] 27
 have z1:=hr _ h1.chg
 simp -dsimp[go_sem,z1.k6]
 generalize w.heap.size=q at h1 ⊢
 generalize w.alloc (.cells #[.slice none 0 0,.slice none 0 0,.slice none 0 0,.int .i64 0,.slice none 0 0] 27)=w1 at h1 z1 ⊢
 have y1:=h1.box 0 rfl
 simp[Zp]at y1
 refine Za (fun q1=>?_) (fun q1=>?_)<;>simp at q1
 ·simp -dsimp[go_sem,y1]
  refine no _ ?_ fun hn=>hn.1 q1
  exact (((((h1.set 0 rfl 0 _).set 0 rfl 1 _).set 0 rfl 2 _).set 0 rfl 3 _).set 0 rfl 4 _).chg
 have h2:=h1.lit 64 2 1 #[.string ⟨#[]⟩,.int .i64 0] (by simp[maxLen]) rfl
 have z2:=hr _ h2.chg
 simp -dsimp[go_sem,z2.k5]
 generalize w1.heap.size=q2 at h2 ⊢
 generalize w1.alloc (.cells #[.string ⟨#[]⟩,.int .i64 0] 64)=w2 at h2 z2 ⊢
 have hlr:(Zo rInt).at1 w2 w2.heap.size (.slice a5 S.levels.length c5) S.levels :=
  Zdh (r:=rInt) (enc:=fun x=>[Value.int .i64 x]) (base:=0) (e:=3) (by rw[Zfu];exact z2.levels) (fun _ _=>rfl) (fun y hy=>⟨rfl,by have:=hwf.sides y hy;unfold Zz;omega⟩) (Nat.le_refl _)
 refine Zf (Zs9 hlr (Nat.le_refl _) (by unfold Zr;omega)) ?_
 rintro vl w3 ⟨hown,hc3⟩
 obtain ⟨al,cl,rfl⟩:∃a c,vl = .slice a S.levels.length c:=by
  rcases hown.2 with ⟨e1,e2⟩|⟨g,cap,cur,hv,_⟩
  ·exact ⟨none,0,by rw[e1,e2]⟩
  ·exact ⟨_,_,hv⟩
 have h3:=h2.seq (St.ofRow hown hc3)
 have h4:=h3.alloc #[.slice (some ⟨q2,0,none⟩) 1 1,.slice none 0 0,.slice al S.levels.length cl,.int .i64 0,.slice none 0 0] 27
 simp -dsimp[go_sem]
 generalize w3.heap.size=x4 at h4 ⊢
 generalize w3.alloc (.cells #[.slice (some ⟨q2,0,none⟩) 1 1,.slice none 0 0,.slice al S.levels.length cl,.int .i64 0,.slice none 0 0] 27)=w4 at h4 ⊢
 have z4:=hr _ h4.chg
 simp -dsimp[go_sem,z4.k0]
 refine ZZ119 hr ok h4 fun At ct w5 h5=>?_
 refine ZZ113 hr ok hwf h5 fun m An cn w6 h6=>?_
 unfold Zd.b7
 have h6d:=h6.old ((Chg.refl noB w6).drew)
 have z6:=hr _ h6d.chg
 have y6:=h6d.box 3 rfl
 have y6':=h6.box 3 rfl
 simp[Zp]at y6 y6'
 simp -dsimp[go_sem,y6,y6']
 refine Zf (ZZ93 z6.k2) ?_
 rintro _ _ ⟨rfl,rfl⟩
 simp -dsimp[go_sem,y6,y6']
 refine Za (fun p1=>?_) (fun p1=>?_)<;>simp at p1
 ·have y0:=h6d.box 0 rfl
  simp[Zp,zG]at y0
  simp -dsimp[go_sem,y0]
  refine no _ ?_ fun hn=>by have:=hn.2;omega
  exact (((((h6d.set 0 rfl 0 _).set 0 rfl 1 _).set 0 rfl 2 _).set 0 rfl 3 _).set 0 rfl 4 _).chg
 ·refine ZZ112 hr ok hwf (m:=m) (An:=An) (cn:=cn) h6d fun Ap cp vs w7 h7=>?_
  refine ZZ345 hr ok hwf q1 h7 fun vg w8 hG=>hR _ _ ⟨hG.chg,fun _=>⟨vg,rfl,hG⟩,fun ht=>?_⟩
  exact absurd ⟨q1,by omega⟩ (of_decide_eq_false ht)
end Go.Proofs.YtckbgeedlobfaaaGreatDoor
namespace Go.Px.Scan
open Go.Px
theorem BSwf.zero:BSwf ⟨[],[],[],[],0⟩:=⟨by simp,by simp,by simp,by simp,by simp,by simp,by simp⟩
theorem BSwf.mono {S S':BS}(h:BSwf S)(ht:S.terms.length≤S'.terms.length)(hn:S.nons.length≤S'.nons.length)(hl:S'.levels=S.levels)(hr:S'.rules=S.rules)(hs:S'.start=S.start)(hu:∀t∈S.terms,t∈S'.terms):BSwf S':=by
 refine ⟨fun r h1=>?_,fun r h1 x hx=>?_,fun r h1=>?_,?_,fun s hs'=>?_,fun r h1=>?_,fun i hi=>?_⟩
 ·rw[hr]at h1;have:=h.left r h1;omega
 ·rw[hr]at h1;have:=h.right r h1 x hx;omega
 ·rw[hr]at h1;rw[hl];exact h.lev r h1
 ·rw[hs];have:=h.start;omega
 ·rw[hl]at hs';exact h.sides s hs'
 ·rw[hr]at h1;exact h.fit r h1
 ·rw[hl]at hi;obtain ⟨t,h1,h2⟩:=h.used i hi;exact ⟨t,hu t h1,h2⟩
end Go.Px.Scan
namespace Go.Proofs.YtckbgeedlobfaaaGreatDoor
open Go.Px Go.Px.Scan Go.RowKit
attribute [-go_sem] Builtin.append_
theorem ZZ87 {S:BS}(h:BSwf S)(s:ByteArray):BSwf (Zc4 S s).2.2:=by
 unfold Zc4
 split
 ·exact h
 ·split
  ·exact h
  ·split
   ·exact h
   ·exact h.mono (by simp) (Nat.le_refl _) rfl rfl rfl (fun t ht=>by simp[ht])
theorem ZZ235 {S:BS}(h:BSwf S)(s:ByteArray):BSwf (nonA S s).2.2:=by
 unfold nonA
 split
 ·exact h
 ·split
  ·exact h
  ·split
   ·exact h
   ·exact h.mono (Nat.le_refl _) (by simp) rfl rfl rfl (fun t ht=>ht)
theorem ZZ42 {S:BS}(h:BSwf S)(x:Int):BSwf (if isN S x then {S with start:=x } else S):=by
 split
 ·rename_i hx
  have hx':x<0 ∧ -(S.nons.length:Int)≤x:=by simpa[isN]using hx
  exact ⟨h.left,h.right,h.lev,by show _∧_;simp only;omega,h.sides,h.fit,h.used⟩
 ·exact h
theorem ZZ100 {S:BS}(ok:BSok S)(h:BSwf S)(left:Int){right:List Int}(hn:right.length*8≤Zr):BSwf (Zez S left right).2.2:=by
 unfold Zez
 split
 ·exact h
 ·rename_i hb
  split
  ·exact h
  ·have hN:isN S left=true:=by
    cases e:isN S left with
    | true=>rfl
    | false=>exact absurd (Or.inl e) hb
   have hany:right.any (badH S)=false:=by
    cases e:right.any (badH S) with
    | false=>rfl
    | true=>exact absurd (Or.inr e) hb
   have hl:left<0 ∧ -(S.nons.length:Int)≤left:=by simpa[isN]using hN
   have hlev:=ZZ160 ok right
   have mem:∀r,r∈S.rules++[(left,right,Zfk S right)]→r∈S.rules∨r=(left,right,Zfk S right):=fun r hr=>by simpa using hr
   refine ⟨fun r hr=>?_,fun r hr x hx=>?_,fun r hr=>?_,h.start,h.sides,fun r hr=>?_,h.used⟩
   ·rcases mem r hr with hr|rfl
    ·exact h.left r hr
    ·exact ⟨hl.2,hl.1⟩
   ·rcases mem r hr with hr|rfl
    ·exact h.right r hr x hx
    ·have h1:=any_false hany x hx
     unfold badH isT isN at h1
     simp only[Bool.and_eq_false_imp,Bool.not_eq_true',decide_eq_false_iff_not,Bool.not_eq_false',decide_eq_true_eq]at h1
     show -(S.nons.length:Int)≤x∧x≤S.terms.length∧x≠0
     omega
   ·rcases mem r hr with hr|rfl
    ·exact h.lev r hr
    ·exact hlev
   ·rcases mem r hr with hr|rfl
    ·exact h.fit r hr
    ·exact hn
def bldC (b:Nat)(S:BS):Ch where
 ok w F:=BSwf S∧∃T V,Bld w T b V S∧∀i,T i≠0→F i
 keep h hc hX hF:=by
  obtain ⟨hwf,T,V,hb,hT⟩:=h
  exact ⟨hwf,T,V,hb.keep hc fun i hi=>hX i (hb.lt i hi) (hT i hi),fun i hi=>hF i (hb.lt i hi) (hT i hi)⟩
theorem Zgf.step {w w':World}{T:Nat→Nat}{b:Nat}{V:BV}{S S':BS}{F:Nat→Prop}(h:Zgf w T b S' w')(hwf:BSwf S')(hT:∀i,T i≠0→F i):Chg F w w'∧(bldC b S').ok w' (fun i=>F i∨(w.heap.size≤i∧i<w'.heap.size)):=by
 obtain ⟨⟨T',V',hb,ho⟩,hc⟩:=h
 refine ⟨hc.mono fun i _ hi=>hT i hi,hwf,T',V',hb,fun i hi=>?_⟩
 by_cases hlt:i<w.heap.size
 ·rw[ho i hlt]at hi;exact Or.inl (hT i hi)
 ·exact Or.inr ⟨by omega,hb.lt i hi⟩
section
variable {G:Nat→Prop} {W w:World} {L:List Ch} {X:Pan} {K:Value→World→Prop} {b:Nat} {S:BS}
theorem ZZ122 (h:St G W w L)(hK:∀w' b,St G W w' (L++[bldC b S0])→K (.pointer (some ⟨b,0,none⟩)) w'):CALL Tryz.prog X Zgh.id #[] w K:=by
 refine Zf (ZZ303 w) ?_
 rintro _ _ ⟨rfl,rfl⟩
 refine hK _ _ (h.seq ⟨(Chg.refl _ _).alloc _,fun i=>if i=w.heap.size then 1 else 0,fun i hi=>?_,fun k d hk=>?_⟩)
 ·by_cases e:i=w.heap.size
  ·subst e;exact ⟨fun h=>absurd h (Nat.lt_irrefl _),by simp⟩
  ·dsimp only at hi;rw[if_neg e]at hi;exact absurd rfl hi
 ·match k,hk with
  | 0,hk=>
   injection hk with hk;subst hk
   exact ⟨BSwf.zero,_,_,Bld.zero w rfl,fun i hi=>by simp[T0_ne hi]⟩
  | k+1,hk=>simp at hk
theorem Zkl (h:St G W w L)(k:Nat)(hk:L[k]?=some (bldC b S)){s:ByteArray}(hs:s.size≤maxLen)
  (hK:∀w',St G W w' (L.set k (bldC b (Zc4 S s).2.2))→K (.tuple #[.int .i64 (Zc4 S s).1,.int .i64 (Zc4 S s).2.1]) w'):CALL Tryz.prog X Zu.id #[.pointer (some ⟨b,0,none⟩),.string s] w K:=by
 obtain ⟨F,⟨hwf,T,V,hb,hT⟩,_,hs'⟩:=h.opn hk
 refine Zf (ZZ230 hb hs) ?_
 rintro _ w' ⟨rfl,hA⟩
 obtain ⟨h1,h2⟩:=hA.step (V:=V) (S:=S) (ZZ87 hwf s) hT
 exact hK _ (hs' _ _ h1 h2)
theorem Zqs (h:St G W w L)(k:Nat)(hk:L[k]?=some (bldC b S)){s:ByteArray}(hs:s.size≤maxLen)
  (hK:∀w',St G W w' (L.set k (bldC b (nonA S s).2.2))→K (.tuple #[.int .i64 (nonA S s).1,.int .i64 (nonA S s).2.1]) w'):CALL Tryz.prog X Zad.id #[.pointer (some ⟨b,0,none⟩),.string s] w K:=by
 obtain ⟨F,⟨hwf,T,V,hb,hT⟩,_,hs'⟩:=h.opn hk
 refine Zf (ZZ332 hb hs) ?_
 rintro _ w' ⟨rfl,hA⟩
 obtain ⟨h1,h2⟩:=hA.step (V:=V) (S:=S) (ZZ235 hwf s) hT
 exact hK _ (hs' _ _ h1 h2)
theorem Zw5 (h:St G W w L)(k:Nat)(hk:L[k]?=some (bldC b S)){x:Int}(hx:Zz x)
  (hK:∀w',St G W w' (L.set k (bldC b (if isN S x then {S with start:=x } else S)))→K (.int .i64 (if isN S x then 0 else 1)) w'):CALL Tryz.prog X Za0.id #[.pointer (some ⟨b,0,none⟩),.int .i64 x] w K:=by
 obtain ⟨F,⟨hwf,T,V,hb,hT⟩,_,hs'⟩:=h.opn hk
 refine Zf (ZZ123 hb hx) ?_
 rintro _ w' ⟨rfl,hA⟩
 obtain ⟨h1,h2⟩:=hA.step (V:=V) (S:=S) (ZZ42 hwf x) hT
 exact hK _ (hs' _ _ h1 h2)
theorem ZZ14 (h:St G W w L)(k:Nat)(hk:L[k]?=some (bldC b S)){left:Int}(hx:Zz left){u:Value}{right:List Int}(hu:(Zo rInt).at1 w w.heap.size u right)(hn:right.length*8≤Zr)
  (hK:∀w',St G W w' (L.set k (bldC b (Zez S left right).2.2))→K (.tuple #[.int .i64 (Zez S left right).1,.int .i64 (Zez S left right).2.1]) w'):CALL Tryz.prog X Zs.id #[.pointer (some ⟨b,0,none⟩),.int .i64 left,u] w K:=by
 obtain ⟨F,⟨hwf,T,V,hb,hT⟩,_,hs'⟩:=h.opn hk
 refine Zf (ZZ255 hb hx hu (Nat.le_refl _) hn) ?_
 rintro _ w' ⟨rfl,hA⟩
 obtain ⟨h1,h2⟩:=hA.step (V:=V) (S:=S) (ZZ100 hb.ok hwf left hn) hT
 exact hK _ (hs' _ _ h1 h2)
theorem Zrz (h:St G W w L)(k:Nat)(hk:L[k]?=some (bldC b S))(hK:∀v w',BSok S→BSwf S→St G W w' L→GrAns S w v w'→K v w'):CALL Tryz.prog X Zd.id #[.pointer (some ⟨b,0,none⟩)] w K:=by
 obtain ⟨F,⟨hwf,T,V,hb,hT⟩,_⟩:=h.get hk
 refine Zf (Zxh hb hwf) ?_
 intro v w' hA
 exact hK v w' hb.ok hwf (h.old hA.1) hA
end
end Go.Proofs.YtckbgeedlobfaaaGreatDoor
namespace Go.Px
open Go.RowKit
def celC (b:Nat)(cs:List Value):Ch where
 ok w F:=F b∧b<w.heap.size∧Zp w b 0 cs∧∀j,j<cs.length→w.frozen? ⟨b,j,none⟩=false
 keep {w w' X F F'} h hc hX hF:=by
  obtain ⟨h1,h2,h3,h4⟩:=h
  have key:∀(cs:List Value) (j:Nat),Zp w b j cs→Zp w' b j cs:=by
   intro cs
   induction cs with
   | nil=>exact fun _ _=>trivial
   | cons v r ih=>exact fun j hj=>⟨(hc.cell (p:=⟨b,j,none⟩) h2 (hX b h2 h1)).trans hj.1,ih _ hj.2⟩
  exact ⟨hF b h2 h1,Nat.lt_of_lt_of_le h2 hc.size,key _ _ h3,fun j hj=>(hc.frozen (p:=⟨b,j,none⟩) h2 (hX b h2 h1)).trans (h4 j hj)⟩
theorem Zsw {w:World}{b:Nat}:∀{cs:List Value} {o i:Nat} {u:Value},Zp w b o cs→i<cs.length→Zp (w.setCell ⟨b,o+i,none⟩ u) b o (cs.set i u)
 | [],_,_,_,_,hi=>absurd hi (Nat.not_lt_zero _)
 | v::r,o,0,u,h,_=>by
  refine ⟨World.cell?_setCell_same _ _ _ h.1,?_⟩
  have:∀(cs:List Value) (j:Nat),o<j→Zp w b j cs→Zp (w.setCell ⟨b,o,none⟩ u) b j cs:=by
   intro cs
   induction cs with
   | nil=>exact fun _ _ _=>trivial
   | cons x r ih=>exact fun j hj hb=>⟨(World.cell?_setCell_other _ _ _ _ (by intro e;injection e with _ e;omega)).trans hb.1,ih _ (by omega) hb.2⟩
  exact this r (o+1) (by omega) h.2
 | v::r,o,i+1,u,h,hi=>by
  refine ⟨(World.cell?_setCell_other _ _ _ _ (by intro e;injection e with _ e;omega)).trans h.1,?_⟩
  have:=Zsw (i:=i) (u:=u) h.2 (by simpa using hi)
  rw[show o+(i+1)=o+1+i by omega]
  exact this
def ZZ56 (vs:List Value)(ls:List (List Int)):Ch where
 ok w F:=vs.length=ls.length∧∀(i:Nat) v l,vs[i]?=some v→ls[i]?=some l→∃A c,v = .slice A l.length c∧l.length≤c∧c≤maxLen∧(∀x∈l,Zz x)∧(0<l.length→∃b o,A=some ⟨b,o,none⟩∧F b∧b<w.heap.size∧∀(j:Nat) x,l[j]?=some x→w.cell? ⟨b,o+j,none⟩=some (.int .i64 x))
 keep h hc hX hF:=by
  refine ⟨h.1,fun i v l h1 h2=>?_⟩
  obtain ⟨A,c,hv,h3,h4,h5,h6⟩:=h.2 i v l h1 h2
  refine ⟨A,c,hv,h3,h4,h5,fun hp=>?_⟩
  obtain ⟨b,o,hA,hb,hlt,hcell⟩:=h6 hp
  exact ⟨b,o,hA,hF b hlt hb,Nat.lt_of_lt_of_le hlt hc.size,fun j x hj=>(hc.cell (p:=⟨b,o+j,none⟩) hlt (hX b hlt hb)).trans (hcell j x hj)⟩
section
variable {G:Nat→Prop} {W w w':World} {L:List Ch}
theorem St.cel (h:St G W w L)(k:Nat){b:Nat}{cs:List Value}(hk:L[k]?=some (celC b cs)):Zp w b 0 cs∧∀j,j<cs.length→w.frozen? ⟨b,j,none⟩=false:=by
 obtain ⟨F,ho,_⟩:=h.get hk
 exact ho.2.2
theorem St.setCel (h:St G W w L)(k:Nat){b:Nat}{cs:List Value}(hk:L[k]?=some (celC b cs))(j:Nat)(hj:j<cs.length)(u:Value):St G W (w.setCell ⟨b,j,none⟩ u) (L.set k (celC b (cs.set j u))):=by
 obtain ⟨F,ho,_,hs⟩:=h.opn hk
 refine hs _ _ ((Zjr _ _ _).mono fun i _ e=>by rw[e];exact ho.1) ⟨Or.inl ho.1,by simpa using ho.2.1,?_,fun i hi=>(World.frozen?_setCell _ _ _ _).trans (ho.2.2.2 i (by simpa using hi))⟩
 have:=Zsw (i:=j) (u:=u) ho.2.2.1 hj
 rwa [Nat.zero_add]at this
end
end Go.Px
namespace Go.Proofs.YtckbgeedlobfaaaGreatDoor
open Go.Px Go.Px.Scan Go.RowKit
attribute [-go_sem] Builtin.append_
def bldL (b:Nat)(S:BS)(a0:Option Addr)(c0:Nat)(m0:Value)(a2:Option Addr)(c2:Nat)(m2:Value)(a4:Option Addr)(c4:Nat)(a5:Option Addr)(c5:Nat)(a6:Option Addr)(c6:Nat)(rs:List Value):List Ch :=
 [celC b [.slice a0 S.terms.length c0,m0,.slice a2 S.nons.length c2,m2,.slice a4 S.terms.length c4,.slice a5 S.levels.length c5,.slice a6 S.rules.length c6,.int .i64 S.start],
  rowC 9 1 a0 S.terms.length c0 (S.terms.map fun t=> .string t.1),mapC Tryz.prog kStr 9 3 m0 S.terms.length (posH (S.terms.map (·.1))),
  rowC 9 1 a2 S.nons.length c2 (S.nons.map Value.string),mapC Tryz.prog kStr 9 3 m2 S.nons.length (posH S.nons),
  rowC 3 1 a4 S.terms.length c4 (S.terms.map fun t=> .int .i64 t.2),rowC 3 1 a5 S.levels.length c5 (S.levels.map (.int .i64 ·)),
  rowC 130 3 a6 S.rules.length c6 ((S.rules.zip rs).flatMap fun x=>Zh3 x.1 x.2),ZZ56 rs (S.rules.map (·.2.1))]
theorem Bld.pieces {w:World}{T:Nat→Nat}{b:Nat}{V:BV}{S:BS}{F:Nat→Prop}(h:Bld w T b V S)(hF:∀i,T i≠0→F i):∃a0 c0 m0 a2 c2 m2 a4 c4 a5 c5 a6 c6 rs,Zhd (bldL b S a0 c0 m0 a2 c2 m2 a4 c4 a5 c5 a6 c6 rs) w F:=by
 obtain ⟨a0,c0,e0⟩:=h.terms.row.form
 obtain ⟨a2,c2,e2⟩:=h.nons.row.form
 obtain ⟨a4,c4,e4⟩:=h.graded.form
 obtain ⟨a5,c5,e5⟩:=h.levels.form
 obtain ⟨a6,c6,e6⟩:=h.rules.form
 rw[List.length_map]at e0
 have t1:=h.tag
 have hb:=h.lt b (by omega)
 refine ⟨a0,c0,V.vm,a2,c2,V.vk,a4,c4,a5,c5,a6,c6,V.rs,T,fun i hi=>⟨hF i hi,h.lt i hi⟩,fun k c hk=>?_⟩
 have q0:=h.terms.row
 rw[List.length_map,List.map_map,e0]at q0
 have q2:=h.nons.row
 rw[e2]at q2
 have q4:=h.graded
 rw[e4]at q4
 have q5:=h.levels
 rw[e5]at q5
 have q6:=h.rules
 rw[e6]at q6
 match k,hk with
 | 0,hk=>
  injection hk with hk;subst hk
  refine ⟨t1,hb,⟨by rw[←e0];exact h.terms.c0,h.terms.c1,by rw[←e2];exact h.nons.c0,h.nons.c1,by rw[←e4];exact h.cg,by rw[←e5];exact h.cl,by rw[←e6];exact h.cr,h.cs,trivial⟩,fun j hj=>h.fz j hj⟩
 | 1,hk=>injection hk with hk;subst hk;exact ⟨q0.1,fun i hi=>q0.2 i hi⟩
 | 2,hk=>
  injection hk with hk;subst hk
  have:=h.terms.map
  rw[List.length_map]at this
  exact ⟨this,fun i hi=>h.terms.tag i hi⟩
 | 3,hk=>injection hk with hk;subst hk;exact ⟨q2.1,fun i hi=>q2.2 i hi⟩
 | 4,hk=>injection hk with hk;subst hk;exact ⟨h.nons.map,fun i hi=>h.nons.tag i hi⟩
 | 5,hk=>injection hk with hk;subst hk;exact ⟨q4.1,fun i hi=>q4.2 i hi⟩
 | 6,hk=>injection hk with hk;subst hk;exact ⟨q5.1,fun i hi=>q5.2 i hi⟩
 | 7,hk=>injection hk with hk;subst hk;exact ⟨q6.1,fun i hi=>q6.2 i hi⟩
 | 8,hk=>
  injection hk with hk;subst hk
  refine ⟨by rw[List.length_map];exact h.rlen,fun i v l h1 h2=>?_⟩
  rw[List.getElem?_map]at h2
  cases hr:S.rules[i]? with
  | none=>rw[hr]at h2;cases h2
  | some r=>
   rw[hr]at h2
   injection h2 with h2
   subst h2
   have hR:=h.rights i r v hr h1
   obtain ⟨A,c,hv,h3,h4,_,h5⟩:=id hR.rd
   injection hv with hv
   subst hv
   refine ⟨A,c,rfl,h3,h4,fun x hx=>?_,fun hp=>?_⟩
   ·obtain ⟨j,hj,rfl⟩:=List.getElem_of_mem hx
    obtain ⟨_,_,_,_,_,h9⟩:=Go.Px.ints_at hR.rd hj
    exact h9
   ·obtain ⟨b',o,rfl,hb',hc'⟩:=h5 hp
    refine ⟨b',o,rfl,hR.tg (by intro e;have hp':0<r.2.1.length:=hp;rw[e]at hp';simp at hp') b' rfl,hb',fun j x hj=>?_⟩
    obtain ⟨ys,hy,hu⟩:=hc' j x hj
    have hy1:=hy.1
    subst hy1
    simpa[rInt]using hu 0 _ rfl
theorem Bld.ofPieces {w:World}{b:Nat}{S:BS}{F:Nat→Prop}{a0:Option Addr}{c0:Nat}{m0:Value}{a2:Option Addr}{c2:Nat}{m2:Value}{a4:Option Addr}{c4:Nat}{a5:Option Addr}{c5:Nat}{a6:Option Addr}{c6:Nat}{rs:List Value}
  (h:Zhd (bldL b S a0 c0 m0 a2 c2 m2 a4 c4 a5 c5 a6 c6 rs) w F) (ok:BSok S):∃T V,Bld w T b V S∧∀i,T i≠0→F i:=by
 obtain ⟨T,ht,hk⟩:=h
 obtain ⟨k1,k2,k3,k4⟩:=hk 0 _ rfl
 have p1:=hk 1 _ rfl
 have p2:=hk 2 _ rfl
 have p3:=hk 3 _ rfl
 have p4:=hk 4 _ rfl
 have p5:=hk 5 _ rfl
 have p6:=hk 6 _ rfl
 have p7:=hk 7 _ rfl
 have p8:=hk 8 _ rfl
 obtain ⟨z0,z1,z2,z3,z4,z5,z6,z7,_⟩:=k3
 refine ⟨T,⟨.slice a0 S.terms.length c0,m0,.slice a2 S.nons.length c2,m2,.slice a4 S.terms.length c4,.slice a5 S.levels.length c5,.slice a6 S.rules.length c6,rs⟩,⟨k1,fun i hi=>(ht i hi).2,⟨z0,z1,k4 0 (by simp),k4 1 (by simp),⟨?_,p1.2⟩,?_,p2.2⟩,⟨z2,z3,k4 2 (by simp),k4 3 (by simp),⟨p3.1,p3.2⟩,p4.1,p4.2⟩,z4,z5,z6,z7,fun j hj=>k4 j (by simpa using hj),⟨p5.1,p5.2⟩,⟨p6.1,p6.2⟩,⟨p7.1,p7.2⟩,?_,fun i r v h1 h2=>?_,ok⟩,fun i hi=>(ht i hi).1⟩
 ·have:=p1.1
  rw[List.length_map,List.map_map];exact this
 ·have:=p2.1
  rw[List.length_map];exact this
 ·have:=p8.1;simpa using this
 ·obtain ⟨A,c,hv,h3,h4,h5,h6⟩:=p8.2 i v r.2.1 h2 (by rw[List.getElem?_map,h1];rfl)
  subst hv
  refine ⟨⟨A,c,rfl,h3,h4,trivial,fun hp=>?_⟩,fun hne j hj=>?_⟩
  ·obtain ⟨b',o,rfl,hb',hlt,hc'⟩:=h6 hp
   refine ⟨b',o,rfl,hlt,fun j x hj=>⟨[.int .i64 x],⟨rfl,h5 x (List.mem_of_getElem? hj)⟩,fun n u hn=>?_⟩⟩
   have hn0:n=0:=by have:=(List.getElem?_eq_some_iff.1 hn).1;simp at this;omega
   subst hn0
   simp at hn
   subst hn
   simpa[rInt]using hc' j x hj
  ·obtain ⟨b',o,rfl,hb',_⟩:=h6 (by cases e:r.2.1 with
    | nil=>exact absurd e hne
    | cons x y=>simp)
   injection hj with hj
   rw[←hj];exact hb'
end Go.Proofs.YtckbgeedlobfaaaGreatDoor
namespace Go.Proofs.YtckbgeedlobfaaaGreatDoor
open Go.Px Go.Px.Scan Go.Px.Spec Go.RowKit
attribute [-go_sem] Builtin.append_
theorem uWds:Tryz.prog.underlying 34=some (.slice 73):=Tryz.underlying34
theorem uRows:Tryz.prog.underlying 100=some (.slice 124):=Tryz.underlying100
theorem uHds:Tryz.prog.underlying 99=some (.slice 118):=Tryz.underlying99
theorem iWd:(Tryz.prog.info? 73).map (fun i=>(i.zero,i.size,i.bytes))=some (some (.agg #[.int .i64 0,.string ⟨#[]⟩,.int .i64 0]),3,32):=by kernel_rfl
theorem iRow:(Tryz.prog.info? 124).map (fun i=>(i.zero,i.size,i.bytes))=some (some (.agg #[.string ⟨#[]⟩,.slice none 0 0,.string ⟨#[]⟩,.bool false]),4,64):=by kernel_rfl
theorem iHd:(Tryz.prog.info? 118).map (fun i=>(i.zero,i.size,i.bytes))=some (some (.agg #[.int .i64 0,.slice none 0 0]),2,32):=by kernel_rfl
section
variable {F:Nat→Prop} {w w1:World} {b:Nat} {A:Option Addr} {c:Nat} {ws:List Wd} {e:Int} {j:Nat} {hs:List (Nat×List ByteArray)} {st:ByteArray} {ls:List ByteArray} {D:RD} {xb:Nat} {Ax:Option Addr} {cx:Nat} {done:List RowS} {r:RowS} {R:EP} {C:World→Prop}
def rowL (b:Nat)(A:Option Addr)(c:Nat)(ws:List Wd)(e:Int)(j:Nat)(hs:List (Nat×List ByteArray))(st:ByteArray)(ls:List ByteArray)(D:RD)(xb:Nat)(Ax:Option Addr)(cx:Nat)(done:List RowS)(r:RowS):List Ch :=
 rdL b A c ws e j hs st ls done D++[boxC xb 124 [.string r.left,.slice Ax r.words.length cx,.string r.by_,.bool (decide (r.said=2))],rowC 73 3 Ax r.words.length cx (r.words.flatMap encW)]
theorem ZZ15 (s:St F w w1 (rowL b A c ws e j hs st ls D xb Ax cx done r))(hb:Rb ws j hs ls done D)(hj:done.length<j)
  (hR:isSg (nowW ws e j) sBar=false→isSg (nowW ws e j) Zge=true→j<ws.length→∀w' D',St F w w' (rdL b A c ws e (j+1) hs st ls (done++[r]) D')→Rb ws (j+1) hs ls (done++[r]) D'→R (.returned (.tuple #[])) w')
  (hX:isSg (nowW ws e j) sBar=false→isSg (nowW ws e j) Zge=false→∀w',Chg F w w'→R (.panicked (badP (nowW ws e j).2.2)) w')
  (hC:isSg (nowW ws e j) sBar=true→j<ws.length→∀w' D',St F w w' (rdL b A c ws e (j+1) hs st ls (done++[r]) D')→Rb ws (j+1) hs ls (done++[r]) D'→C w') :
  Zh.b10 R C (.pointer (some ⟨b,0,none⟩)) (.pointer (some ⟨xb,0,none⟩)) w1:=by
 unfold rowL rdL Zea at s
 simp only[List.cons_append,List.nil_append]at s
 obtain ⟨y,yf,yb⟩:=s.box 0 rfl
 obtain ⟨z,zf,zb⟩:=s.box 8 rfl
 simp[Zp]at y z
 have yf7:=yf 7
 obtain ⟨FF,hus,_⟩:=s.get (k:=7) rfl
 have hul:D.us.length=done.length:=by have:=hus.1;simpa using this
 have hsz:=hb.sz
 have hle:=hb.le
 simp -dsimp[go_sem,y,z]
 refine ⟨by simp[World.cell?_alloc_lt,yb,y],?_⟩
 refine s.append1d 6 rfl uRows iRow rfl (by omega) (news:=[.string r.left,.slice Ax r.words.length cx,.string r.by_,.bool (decide (r.said=2))]) rfl (by simp[Value.oneCell']) (by unfold maxLen;omega) (by unfold Zr;omega) ?_
 intro g cap w3 s3
 obtain ⟨y3,yf3,yb3⟩:=s3.box 0 rfl
 simp[Zp]at y3
 have yf7:=yf3 7
 have s4:=s3.set 0 rfl 7 (.slice (some ⟨g,0,none⟩) (done.length+1) cap)
 simp -dsimp[go_sem,y3,yf7]
 generalize w3.setCell ⟨b,7,none⟩ (.slice (some ⟨g,0,none⟩) (done.length+1) cap)=w4 at s4 ⊢
 have s5:=(s4.merge (j:=9) (k:=7) rfl rfl (by decide) (e:=Zeg 73 3 (D.us++[.slice Ax r.words.length cx]) ((done.map fun r=>r.words.flatMap encW)++[r.words.flatMap encW])) fun _ _ h1 h2=>Zi3 h1 h2).take 8
 have hz:((done++[r]).zip (D.us++[.slice Ax r.words.length cx])).flatMap encR=(done.zip D.us).flatMap encR++[.string r.left,.slice Ax r.words.length cx,.string r.by_,.bool (decide (r.said=2))]:=by
  rw[List.zip_append hul.symm,List.flatMap_append];rfl
 obtain ⟨D2,hD2⟩:∃D2:RD,D2={D with ar:=some ⟨g,0,none⟩,cr:=cap,us:=D.us++[.slice Ax r.words.length cx] }:=⟨_,rfl⟩
 have s6:St F w w4 (rdL b A c ws e j hs st ls (done++[r]) D2):=by
  unfold rdL Zea
  rw[hD2]
  simp only[hz,List.length_append,List.length_singleton,List.map_append,List.map_cons,List.map_nil]
  exact s5
 have hb2:∀j',j≤j'→j'≤ws.length→Rb ws j' hs ls (done++[r]) D2:=fun j' h1 h2=>by
  rw[hD2]
  exact ⟨h2,hsz,by have:=hb.kc;simp;omega,by have:=hb.lc;simp;omega,by have:=hb.hs;omega,by simp;omega,by have:=hb.ls;omega,hb.km,hb.lm,hb.tx⟩
 have hr6:=s6.rdr 0 1 rfl rfl hle hsz
 clear s s3 s4 s5 y y3 z
 refine Zt4 s6 hr6 fun w7 s7 hr7=>?_
 simp -dsimp[go_sem]
 refine Za (fun h1=>?_) (fun h1=>?_)
 ·have hb1:isSg (nowW ws e j) sBar=false:=by rw[isSg,Bool.decide_and,←Bool.not_eq_true',Bool.not_and];exact h1
  unfold Zh.b3
  refine Zkc (X:=pan R) s7 0 rfl hr7 (fun h2 hlt w8 s8=>?_) (fun h2 w8 hc8=>hX hb1 h2 _ hc8)
  exact hR hb1 h2 hlt _ _ s8 (hb2 _ (by omega) hlt)
 ·have hb1:isSg (nowW ws e j) sBar=true:=by
   unfold isSg sBar
   revert h1
   simp
  obtain ⟨y7,yf7,_⟩:=s7.box 0 rfl
  simp[Zp,Zea]at y7
  have hlt:j<ws.length:=Zhp (ws:=ws) (e:=e) (by simp only[isSg,decide_eq_true_eq]at hb1;rw[hb1.1];decide)
  have wk:IntKind.i64.wrap ((j:Int)+1)=(j:Int)+1:=IntWalk.i64_in _ (by omega)
  have yf1:=yf7 1
  have s8:=s7.set 0 rfl 1 (.int .i64 ((j:Int)+1))
  simp -dsimp[go_sem,y7,yf1,wk]
  exact hC hb1 hlt _ _ s8 (hb2 _ (by omega) hlt)
theorem Zk5 {m:Mc}{i ph:Nat}{rl:ByteArray}(s:St F w w1 (rowL b A c ws e j hs st ls D xb Ax cx done r))(hb:Rb ws j hs ls done D)(hj:done.length<j)
  (hw:Zbv ⟨ph,hs,st,rl,ls,done++[r]⟩ (nowW ws e j)=closing ⟨ph,hs,st,rl,ls,done++[r]⟩ (nowW ws e j)) (hp:ph≠9)
  (hg:goM m (ws.drop i)=goM ⟨ph,hs,st,rl,ls,done++[r]⟩ (ws.drop j))
  (hR:∀j' rs D' w',j<j'→goM m (ws.drop i)=goM ⟨9,hs,st,rl,ls,rs⟩ (ws.drop j')→St F w w' (rdL b A c ws e j' hs st ls rs D')→Rb ws j' hs ls rs D'→R (.returned (.tuple #[])) w')
  (hX:∀a,Zew e m (ws.drop i) a→∀w',Chg F w w'→R (.panicked (badP a)) w')
  (hC:∀j' rs D' w',j<j'→goM m (ws.drop i)=goM ⟨6,hs,st,rl,ls,rs++[⟨rl,[],0,noT⟩]⟩ (ws.drop j')→rs.length<j'→St F w w' (rdL b A c ws e j' hs st ls rs D')→Rb ws j' hs ls rs D'→C w') :
  Zh.b10 R C (.pointer (some ⟨b,0,none⟩)) (.pointer (some ⟨xb,0,none⟩)) w1:=by
 refine ZZ15 s hb hj (fun h1 h2 hlt w' D' s' hb'=>?_) (fun h1 h2 w' hc=>?_) (fun h1 hlt w' D' s' hb'=>?_)
 ·refine hR (j+1) _ D' w' (by omega) ?_ s' hb'
  rw[hg]
  exact Zd4 (e:=e) (by rw[hw,closing,if_neg (by rw[h1];decide),if_pos h2]) hlt
 ·exact hX _ (Zew.congr hg (Zfc (by rw[hw,closing,if_neg (by rw[h1];decide),if_neg (by rw[h2];decide)]) (Or.inl hp))) w' hc
 ·refine hC (j+1) _ D' w' (by omega) ?_ (by simp;omega) s' hb'
  rw[hg]
  exact Zd4 (e:=e) (by rw[hw,closing,if_pos h1];rfl) hlt
end
end Go.Proofs.YtckbgeedlobfaaaGreatDoor
namespace Go.Proofs.YtckbgeedlobfaaaGreatDoor
open Go.Px Go.Px.Scan Go.Px.Spec Go.RowKit
attribute [-go_sem] Builtin.append_ Zh.b10
def atOf (b:Nat)(w:World):Nat:=match w.cell? ⟨b,1,none⟩ with | some (.int _ x)=>x.toNat | _=>0
section
variable {F:Nat→Prop} {w w1:World} {b:Nat} {A:Option Addr} {c:Nat} {ws:List Wd} {e:Int} {j:Nat} {hs:List (Nat×List ByteArray)} {st:ByteArray} {ls:List ByteArray} {D:RD} {xb:Nat} {Ax:Option Addr} {cx:Nat} {done:List RowS} {r:RowS} {R:EP} {C:World→Prop}
theorem Zi8 {G:Nat→Prop}{W:World}{L:List Ch}(s:St G W w L)(k:Nat){v:Value}{tl:List Value}(h:L[k]?=some (boxC b 102 (v :: .int .i64 j::tl))):atOf b w=j:=by
 obtain ⟨y,_,_⟩:=s.box k h
 unfold atOf
 rw[y.2.1]
 simp
theorem Zwa {m:Mc}{i:Nat}{rl:ByteArray}(s:St F w w1 (rowL b A c ws e j hs st ls D xb Ax cx done r))(hb:Rb ws j hs ls done D)(hj:done.length<j)
  (hr0:r.said=0) (hr1:r.by_=noT) (hT:isTB (nowW ws e j)=false)
  (hg:goM m (ws.drop i)=goM ⟨6,hs,st,rl,ls,done++[r]⟩ (ws.drop j))
  (hR:∀j' rs D' w',j<j'→goM m (ws.drop i)=goM ⟨9,hs,st,rl,ls,rs⟩ (ws.drop j')→St F w w' (rdL b A c ws e j' hs st ls rs D')→Rb ws j' hs ls rs D'→R (.returned (.tuple #[])) w')
  (hX:∀a,Zew e m (ws.drop i) a→∀w',Chg F w w'→R (.panicked (badP a)) w')
  (hC:∀j' rs D' w',j<j'→goM m (ws.drop i)=goM ⟨6,hs,st,rl,ls,rs++[⟨rl,[],0,noT⟩]⟩ (ws.drop j')→rs.length<j'→St F w w' (rdL b A c ws e j' hs st ls rs D')→Rb ws j' hs ls rs D'→C w') :
  Zh.b11 R C (.pointer (some ⟨b,0,none⟩)) (.pointer (some ⟨xb,0,none⟩)) w1:=by
 have hle:=hb.le
 have hsz:=hb.sz
 have hb':∀j',j≤j'→j'≤ws.length→Rb ws j' hs ls done D:=fun j' h1 h2=>⟨h2,hsz,by have:=hb.kc;omega,by have:=hb.lc;omega,by have:=hb.hs;omega,by have:=hb.rs;omega,by have:=hb.ls;omega,hb.km,hb.lm,hb.tx⟩
 have hr:=s.rdr 0 1 rfl rfl hle hsz
 unfold Zh.b11
 refine Zt4 s hr fun w2 s2 hr2=>?_
 unfold Zh.b12
 refine Za (fun h1=>?_) (fun h1=>?_)
 ·have h1':isOr (nowW ws e j) Zns=true:=h1
  have hlt:j<ws.length:=Zhp (ws:=ws) (e:=e) (by simp only[isOr,decide_eq_true_eq]at h1';rw[h1'.1];decide)
  unfold Zh.b13
  unfold rowL rdL Zea at s2
  simp only[List.cons_append,List.nil_append]at s2
  obtain ⟨y,yf,yb⟩:=s2.box 0 rfl
  obtain ⟨z,zf,zb⟩:=s2.box 8 rfl
  simp[Zp]at y z
  have zf3:=zf 3
  have s3:=s2.set 8 rfl 3 (.bool true)
  have yf1:=yf 1
  have wk:IntKind.i64.wrap ((j:Int)+1)=(j:Int)+1:=IntWalk.i64_in _ (by omega)
  have s4:=s3.set 0 rfl 1 (.int .i64 ((j:Int)+1))
  simp -dsimp[go_sem,y,z,zf3,yf1,wk]
  generalize (w2.setCell ⟨xb,3,none⟩ (.bool true)).setCell ⟨b,1,none⟩ (.int .i64 ((j:Int)+1))=w4 at s4 ⊢
  refine Zk5 (r:={r with said:=2 }) (ph:=8) (m:=m) (i:=i) s4 (hb' _ (by omega) hlt) (by omega) Znd (by decide) ?_ (fun j' rs D' w' h=>hR j' rs D' w' (by omega)) hX (fun j' rs D' w' h=>hC j' rs D' w' (by omega))
  rw[hg]
  exact Zd4 (e:=e) (ZZ5 h1') hlt
 ·have h1':isOr (nowW ws e j) Zns=false:=h1
  unfold Zh.b14
  refine Zt4 s2 hr2 fun w3 s3 hr3=>?_
  unfold Zh.b15
  refine Za (fun h2=>?_) (fun h2=>?_)
  ·have h2':isOr (nowW ws e j) Zk4=true:=h2
   have hlt:j<ws.length:=Zhp (ws:=ws) (e:=e) (by simp only[isOr,decide_eq_true_eq]at h2';rw[h2'.1];decide)
   have wk:IntKind.i64.wrap ((j:Int)+1)=(j:Int)+1:=IntWalk.i64_in _ (by omega)
   unfold Zh.b16
   unfold rowL rdL Zea at s3
   simp only[List.cons_append,List.nil_append]at s3
   obtain ⟨y,yf,yb⟩:=s3.box 0 rfl
   simp[Zp]at y
   have yf1:=yf 1
   have s4:=s3.set 0 rfl 1 (.int .i64 ((j:Int)+1))
   simp -dsimp[go_sem,y,yf1,wk]
   generalize w3.setCell ⟨b,1,none⟩ (.int .i64 ((j:Int)+1))=w4 at s4 ⊢
   have hr4:=s4.rdr (i:=j+1) 0 1 rfl rfl hlt hsz
   have hg4:goM m (ws.drop i)=goM ⟨7,hs,st,rl,ls,done++[{r with said:=1 }]⟩ (ws.drop (j+1)):=by rw[hg];exact Zd4 (e:=e) (Zx4 h2') hlt
   refine Zmg s4 hr4 fun w5 s5 hr5=>?_
   simp -dsimp[go_sem]
   refine Za (fun h3=>?_) (fun h3=>?_)<;>simp at h3
   ·refine Zim (X:=pan R) s5 hr5 fun w6 hc6=>?_
    exact hX _ (Zew.congr hg4 (Zfc (by rw[Zy1,if_neg (by rw[h3];decide)]) (Or.inl (show (7:Nat)≠9 by decide)))) w6 hc6
   ·have hlt2:j+1<ws.length:=Zhp (ws:=ws) (e:=e) (by simp[isTB]at h3;omega)
    unfold Zh.b17
    refine Zka s5 hr5 fun w6 s6 hr6=>?_
    have hg6:goM m (ws.drop i)=goM ⟨8,hs,st,rl,ls,done++[{r with said:=1,by_:=(nowW ws e (j+1)).2.1 }]⟩ (ws.drop (j+2)):=by
     rw[hg4];exact Zd4 (e:=e) (by rw[Zy1,if_pos h3]) hlt2
    generalize nowW ws e (j+1)=x at hg6 ⊢
    have wk2:IntKind.i64.wrap ((j:Int)+1+1)=(j:Int)+1+1:=IntWalk.i64_in _ (by omega)
    obtain ⟨z,zf,zb⟩:=s6.box 8 rfl
    simp[Zp]at z
    have zf2:=zf 2
    have s7:=s6.set 8 rfl 2 (.string x.2.1)
    obtain ⟨y,yf,yb⟩:=s6.box 0 rfl
    simp[Zp]at y
    have yf1:=yf 1
    have s8:=s7.set 0 rfl 1 (.int .i64 ((j:Int)+1+1))
    simp -dsimp[go_sem,wdV,y,z,zf2,yf1,wk2]
    generalize (w6.setCell ⟨xb,2,none⟩ (.string x.2.1)).setCell ⟨b,1,none⟩ (.int .i64 ((j:Int)+1+1))=w8 at s8 ⊢
    refine Zk5 (Ax:=Ax) (cx:=cx) (r:={r with said:=1,by_:=x.2.1 }) (j:=j+2) (ph:=8) (m:=m) (i:=i) ?_ (hb' _ (by omega) hlt2) (by omega) Znd (by decide) hg6 (fun j' rs D' w' h=>hR j' rs D' w' (by omega)) hX (fun j' rs D' w' h=>hC j' rs D' w' (by omega))
    have e2:((j+2:Nat):Int)=(j:Int)+1+1:=by omega
    unfold rowL rdL Zea
    rw[e2]
    simpa[hr0]using s8
  ·have h2':isOr (nowW ws e j) Zk4=false:=h2
   unfold Zh.b18
   refine Zk5 (r:=r) (ph:=6) (m:=m) (i:=i) s3 hb hj (ZZ81 hT h2' h1') (by decide) hg hR hX hC
end
end Go.Proofs.YtckbgeedlobfaaaGreatDoor
namespace Go.Proofs.YtckbgeedlobfaaaGreatDoor
open Go.Px Go.Px.Scan Go.Px.Spec Go.RowKit
attribute [-go_sem] Builtin.append_ Zh.b10 Zh.b11
section
variable {F:Nat→Prop} {w w1:World} {b:Nat} {A:Option Addr} {c:Nat} {ws:List Wd} {e:Int} {j:Nat} {hs:List (Nat×List ByteArray)} {st:ByteArray} {ls:List ByteArray} {D:RD} {xb:Nat} {Ax:Option Addr} {cx:Nat} {done:List RowS} {r:RowS} {R:EP} {C:World→Prop}
theorem Rb.up (hb:Rb ws j hs ls done D){j':Nat}(h1:j≤j')(h2:j'≤ws.length):Rb ws j' hs ls done D :=
 ⟨h2,hb.sz,by have:=hb.kc;omega,by have:=hb.lc;omega,by have:=hb.hs;omega,by have:=hb.rs;omega,by have:=hb.ls;omega,hb.km,hb.lm,hb.tx⟩
theorem Zwx {m:Mc}{i:Nat}{rl:ByteArray}(s:St F w w1 (rowL b A c ws e j hs st ls D xb none 0 done ⟨rl,[],0,noT⟩))(hb:Rb ws j hs ls done D)(hj:done.length<j)
  (hg:goM m (ws.drop i)=goM ⟨6,hs,st,rl,ls,done++[⟨rl,[],0,noT⟩]⟩ (ws.drop j))
  (hR:∀j' rs D' w',j<j'→goM m (ws.drop i)=goM ⟨9,hs,st,rl,ls,rs⟩ (ws.drop j')→St F w w' (rdL b A c ws e j' hs st ls rs D')→Rb ws j' hs ls rs D'→R (.returned (.tuple #[])) w')
  (hX:∀a,Zew e m (ws.drop i) a→∀w',Chg F w w'→R (.panicked (badP a)) w')
  (hC:∀j' rs D' w',j<j'→goM m (ws.drop i)=goM ⟨6,hs,st,rl,ls,rs++[⟨rl,[],0,noT⟩]⟩ (ws.drop j')→rs.length<j'→St F w w' (rdL b A c ws e j' hs st ls rs D')→Rb ws j' hs ls rs D'→C w') :
  Zh.l20 R C (.pointer (some ⟨b,0,none⟩)) (.pointer (some ⟨xb,0,none⟩)) w1:=by
 refine Zh.l20_intro _ _ _ _ _ (fun w'=>∃jj wx Ax cx,j≤jj∧jj≤ws.length∧wx.length≤jj∧goM m (ws.drop i)=goM ⟨6,hs,st,rl,ls,done++[⟨rl,wx,0,noT⟩]⟩ (ws.drop jj)∧St F w w' (rowL b A c ws e jj hs st ls D xb Ax cx done ⟨rl,wx,0,noT⟩)) (fun w'=>ws.length-atOf b w')
  ⟨j,[],none,0,by omega,hb.le,by simp,hg,s⟩ ?_
 rintro w2 ⟨jj,wx,Ax,cx,hjj,hle,hwx,hg2,s2⟩ C20 hC20
 have hsz:=hb.sz
 have hat:atOf b w2=jj:=Zi8 s2 0 rfl
 have hr2:=s2.rdr 0 1 rfl rfl hle hsz
 unfold Zh.b21
 refine Zmg s2 hr2 fun w3 s3 hr3=>?_
 refine Za (fun h1=>?_) (fun h1=>?_)
 ·have hlt:jj<ws.length:=Zhp (ws:=ws) (e:=e) (by simp[isTB]at h1;omega)
  have hg3:goM m (ws.drop i)=goM ⟨6,hs,st,rl,ls,done++[⟨rl,wx++[nowW ws e jj],0,noT⟩]⟩ (ws.drop (jj+1)):=by rw[hg2];exact Zd4 (e:=e) (Zyy h1) hlt
  unfold Zh.b21_2
  unfold rowL rdL Zea at s3
  simp only[List.cons_append,List.nil_append]at s3
  obtain ⟨z,zf,zb⟩:=s3.box 8 rfl
  simp[Zp]at z
  simp -dsimp[go_sem,z]
  refine Zka (s3.old (Chg.refl noB w3).drew) (hr3.chg (Chg.refl noB w3).drew) fun w4 s4 hr4=>?_
  generalize nowW ws e jj=x at hg3 ⊢
  unfold Zh.b21_1
  obtain ⟨z,zf,zb⟩:=s4.box 8 rfl
  simp[Zp]at z
  rw[show wdV x = .agg #[.int .i64 x.1,.string x.2.1,.int .i64 x.2.2] from rfl]
  simp -dsimp[go_sem,z]
  refine ⟨by simp[World.cell?_alloc_lt,zb,z],?_⟩
  refine s4.append1 9 rfl uWds iWd rfl (by omega) (news:=[.int .i64 x.1,.string x.2.1,.int .i64 x.2.2]) rfl (by simp[Value.oneCell']) (by unfold maxLen;omega) (by unfold Zr;omega) ?_
  intro g cap w5 s5
  obtain ⟨z5,zf5,zb5⟩:=s5.box 8 rfl
  simp[Zp]at z5
  have zf1:=zf5 1
  have s6:=s5.set 8 rfl 1 (.slice (some ⟨g,0,none⟩) (wx.length+1) cap)
  have wk:IntKind.i64.wrap ((jj:Int)+1)=(jj:Int)+1:=IntWalk.i64_in _ (by omega)
  simp -dsimp[go_sem,z5,zf1]
  generalize w5.setCell ⟨xb,1,none⟩ (.slice (some ⟨g,0,none⟩) (wx.length+1) cap)=w6 at s6 ⊢
  obtain ⟨y6,yf6,yb6⟩:=s6.box 0 rfl
  simp[Zp]at y6
  have yf1:=yf6 1
  have s7:=s6.set 0 rfl 1 (.int .i64 ((jj:Int)+1))
  simp -dsimp[go_sem,y6,yf1,wk]
  generalize w6.setCell ⟨b,1,none⟩ (.int .i64 ((jj:Int)+1))=w7 at s7 ⊢
  have s8:St F w w7 (rowL b A c ws e (jj+1) hs st ls D xb (some ⟨g,0,none⟩) cap done ⟨rl,wx++[x],0,noT⟩):=by
   have e2:((jj+1:Nat):Int)=(jj:Int)+1:=by omega
   have e3:(wx++[x]).flatMap encW=wx.flatMap encW++[.int .i64 x.1,.string x.2.1,.int .i64 x.2.2]:=by simp[encW]
   unfold rowL rdL Zea
   simp only[e2,e3,List.length_append,List.length_singleton]
   exact s7
  exact hC20 _ ⟨jj+1,_,_,_,by omega,hlt,by simp;omega,hg3,s8⟩ (by rw[hat,Zi8 s8 0 rfl];omega)
 ·refine Zwa s3 (hb.up hjj hle) (by omega) rfl rfl h1 hg2 (fun j' rs D' w' h=>hR j' rs D' w' (by omega)) hX (fun j' rs D' w' h=>hC j' rs D' w' (by omega))
def Ztj (F:Nat→Prop)(w:World)(b:Nat)(A:Option Addr)(c:Nat)(ws:List Wd)(e:Int)(i:Nat)(m:Mc)(ph:Nat)(r:Ending)(w':World):Prop :=
 (∃i' hs st rl ls rs D,r = .returned (.tuple #[])∧i<i'∧goM m (ws.drop i)=goM ⟨ph,hs,st,rl,ls,rs⟩ (ws.drop i')∧St F w w' (rdL b A c ws e i' hs st ls rs D)∧Rb ws i' hs ls rs D∧st.size≤maxLen) ∨
 (∃a,Zew e m (ws.drop i) a∧r = .panicked (badP a)∧Chg F w w')
theorem bRow1 (t:ByteArray)(w:World):(Instr.build 124 #[(0,.string t)]).run Tryz.prog w = .ok (.agg #[.string t,.slice none 0 0,.string noT,.bool false]) w:=by
 unfold noT
 simp[go_sem]
attribute [go_sem ↓] bRow1
theorem Zvm (l:List ByteArray)(s t:ByteArray):cnt (l++[s]) t=cnt l t+if s=t then 1 else 0:=by
 unfold cnt
 rw[List.filter_append,List.length_append]
 by_cases h:s=t
 ·simp[h]
 ·simp[h]
theorem ZZ364 (l:List ByteArray)(s:ByteArray):0≤cnt l s∧cnt l s≤l.length:=by
 unfold cnt
 have:=List.length_filter_le (fun x=>decide (x=s)) l
 omega
theorem ZZ239 {i ph:Nat}{rl:ByteArray}{rs:List RowS}(s:St F w w (rdL b A c ws e i hs st ls rs D))(hb:Rb ws i hs ls rs D)
  (hm:Zbv ⟨ph,hs,st,rl,ls,rs⟩ (nowW ws e i)=Zg5 ⟨ph,hs,st,rl,ls,rs⟩ (nowW ws e i)) (hp:ph≠9∨i<ws.length) (hst:st.size≤maxLen) :
  CtE Tryz.prog Zh.id #[.pointer (some ⟨b,0,none⟩)] w (Ztj F w b A c ws e i ⟨ph,hs,st,rl,ls,rs⟩ 9):=by
 refine CtE.intro Zh.enters fun R hR=>Zh.calls R _ w ?_
 have hsz:=hb.sz
 have hr:=s.rdr 0 1 rfl rfl hb.le hsz
 unfold Zh.run Zh.b1
 refine Zr1 (X:=pan R) s 0 rfl hr (fun h1 hlt w2 s2=>?_) (fun h1 w2 hc=>?_)
 ·have hg2:=Zd4 (e:=e) (m:=⟨ph,hs,st,rl,ls,rs⟩) (i:=i) (by rw[hm,Zg5,if_pos h1]) hlt
  have htx:(nowW ws e i).2.1.size≤maxLen:=Zvi hb.tx
  generalize (nowW ws e i).2.1=t at hg2 htx ⊢
  unfold Zh.b1_1
  obtain ⟨pl,hpl⟩:=hb.lm
  unfold rdL Zea at s2
  obtain ⟨y,yf,yb⟩:=s2.box 0 rfl
  simp[Zp]at y
  rw[hpl]at y s2
  have mg:(Instr.lookup 98 (.map (some pl)) (.string t) false).run Tryz.prog w2=_:=s2.mapGet mStr 5 rfl t htx
  have hcn:=ZZ364 ls t
  have hls:=hb.ls
  have hlc:=hb.lc
  have hle:=hb.le
  have wk:IntKind.i64.wrap (cnt ls t+1)=cnt ls t+1:=IntWalk.i64_in _ (by omega)
  obtain ⟨w3,hrun,s3⟩:=s2.mapPut mStr 5 rfl t htx (by unfold maxLen;omega) (x:=cnt ls t+1) (by unfold Zz;omega) (by omega) (if cnt ls t=0 then D.lc+1 else D.lc) (cnt (ls++[t])) (fun h=>if_pos h) (fun h=>if_neg h) (by rw[Zvm];simp) (fun u hu=>by rw[Zvm];simp[Ne.symm hu])
  have hrun':(Instr.mapUpdate 98 (.map (some pl)) (.string t) (.int .i64 (cnt ls t+1))).run Tryz.prog w2=_:=hrun
  simp -dsimp[go_sem,y,mg,wk,hrun']
  obtain ⟨D2,hD2⟩:∃D2:RD,D2={D with lm := .map (some pl),lc:=if cnt ls t=0 then D.lc+1 else D.lc }:=⟨_,rfl⟩
  have s4:St F w w3 (rdL b A c ws e (i+1) hs st (ls++[t]) rs D2):=by
   unfold rdL Zea
   rw[hD2]
   have e2:((i+1:Nat):Int)=(i:Int)+1:=by omega
   simp only[e2]
   exact s3
  have hb4:Rb ws (i+1) hs (ls++[t]) rs D2:=by
   rw[hD2]
   refine ⟨hlt,hsz,by have:=hb.kc;simp;omega,by simp;split<;>omega,by have:=hb.hs;omega,by have:=hb.rs;omega,by simp;omega,hb.km,⟨pl,rfl⟩,hb.tx⟩
  clear s2 s3 y mg hrun hrun'
  have hr4:=s4.rdr 0 1 rfl rfl hlt hsz
  refine Zkc (X:=pan R) s4 0 rfl hr4 (t:=Zpk) (fun h2 hlt2 w5 s5=>?_) (fun h2 w5 hc=>?_)
  ·have hg5:goM ⟨ph,hs,st,rl,ls,rs⟩ (ws.drop i)=goM ⟨6,hs,st,t,ls++[t],rs++[⟨t,[],0,noT⟩]⟩ (ws.drop (i+2)):=by
    rw[hg2];exact Zd4 (e:=e) (by simp[Zbv,h2,Zcj]) hlt2
   have s6:St F w w5 (rdL b A c ws e (i+2) hs st (ls++[t]) rs D2):=by
    have e2:((i+2:Nat):Int)=((i+1:Nat):Int)+1:=by omega
    unfold rdL Zea
    rw[e2]
    exact s5
   have hrs:=hb.rs
   refine Zh.l5_intro _ _ _ _ (fun w'=>∃jj rr DD,i<jj∧rr.length<jj∧goM ⟨ph,hs,st,rl,ls,rs⟩ (ws.drop i)=goM ⟨6,hs,st,t,ls++[t],rr++[⟨t,[],0,noT⟩]⟩ (ws.drop jj)∧St F w w' (rdL b A c ws e jj hs st (ls++[t]) rr DD)∧Rb ws jj hs (ls++[t]) rr DD) (fun w'=>ws.length-atOf b w')
    ⟨i+2,rs,D2,by omega,by omega,hg5,s6,hb4.up (by omega) hlt2⟩ ?_
   rintro w7 ⟨jj,rr,DD,hjj,hrr,hg7,s7,hb7⟩ C5 hC5
   have hat:atOf b w7=jj:=Zi8 s7 0 rfl
   have hle7:=hb7.le
   unfold Zh.b7
   have s8:=s7.alloc #[.string t,.slice none 0 0,.string noT,.bool false] 124
   simp -dsimp[go_sem]
   generalize w7.alloc (.cells #[.string t,.slice none 0 0,.string noT,.bool false] 124)=w8 at s8 ⊢
   generalize w7.heap.size=xb at s8 ⊢
   have s9:=s8.nilRow 73 3
   refine Zwx (m:=⟨ph,hs,st,rl,ls,rs⟩) (i:=i) (j:=jj) (done:=rr) (rl:=t) (D:=DD) (hs:=hs) (st:=st) (ls:=ls++[t]) (F:=F) (w:=w) (A:=A) (c:=c) (e:=e) ?_ hb7 hrr hg7 (fun j' rs' D' w' hj' hg' s' hb'=>hR _ _ (.inl ⟨j',hs,st,t,ls++[t],rs',D',rfl,by omega,hg',s',hb',hst⟩)) (fun a ha w' hc=>hR _ _ (.inr ⟨a,ha,rfl,hc⟩)) (fun j' rs' D' w' hj' hg' hl' s' hb'=>hC5 _ ⟨j',rs',D',by omega,hl',hg',s',hb'⟩ (by rw[hat,Zi8 s' 0 rfl];have:=hb'.le;omega))
   have:=s9
   unfold rowL
   rw[List.append_assoc]at this
   exact this
  ·exact hR _ _ (.inr ⟨_,Zew.congr hg2 (Zfc (by simp[Zbv,h2]) (Or.inl (show (5:Nat)≠9 by decide))),rfl,hc⟩)
 ·exact hR _ _ (.inr ⟨_,Zfc (by rw[hm,Zg5,if_neg h1]) hp,rfl,hc⟩)
end
end Go.Proofs.YtckbgeedlobfaaaGreatDoor
namespace Go.Proofs.YtckbgeedlobfaaaGreatDoor
open Go.Px Go.Px.Scan Go.Px.Spec Go.RowKit
attribute [-go_sem] Builtin.append_ Zc.b17 Zc.b4 Zc.b3
theorem Zme {α:Type}(L:List α)(x y:α):(L++[x]).set L.length y=L++[y]:=by simp
theorem Zp6 {α:Type}(L:List α)(x:α):(L++[x])[L.length]?=some x:=by simp
def Zmy (t:ByteArray):Option Int:=(Zfs t).map Int.ofNat
section
variable {F:Nat→Prop} {w w1:World} {b:Nat} {A:Option Addr} {c:Nat} {ws:List Wd} {e:Int} {i ph:Nat} {hs:List (Nat×List ByteArray)} {st rl:ByteArray} {ls:List ByteArray} {rs:List RowS} {D:RD} {R:EP} {C:World→Prop}
theorem Zyk {G:Nat→Prop}{W w:World}{L:List Ch}(s:St G W w L){K:World→Prop}{X:Pan}
  (hK:∀w' v,St G W w' (L++[Zt1 Tryz.prog kStr 9 3 v 4 Zmy])→CALL Tryz.prog X Zav.id #[.pointer (some ⟨b,0,none⟩)] w' fun v7 w8=>Zc.b1_1 R (.pointer (some ⟨b,0,none⟩)) v v7 w8) (hX:X=pan R) :
  Zc.b1 R (.pointer (some ⟨b,0,none⟩)) w:=by
 subst hX
 have s1:=s.mapO Tryz.prog kStr 9 3
 have hk:(L++[Zt1 Tryz.prog kStr 9 3 (.map (some w.heap.size)) 0 (fun _=>none)])[L.length]?=some (Zt1 Tryz.prog kStr 9 3 (.map (some w.heap.size)) 0 (fun _=>none)):=by simp
 obtain ⟨w2,r2,s2⟩:=s1.mapOPut mStr L.length hk Zg6 (show Zg6.size≤maxLen by unfold maxLen;decide) (by unfold maxLen;omega) (x:=0) (by unfold Zz;omega) (fun t=>if t=Zg6 then some 0 else none) (by simp) (fun t h=>by simp[h])
 rw[Zme]at s2
 obtain ⟨w3,r3,s3⟩:=s2.mapOPut mStr L.length (Zp6 L _) Zs8 (show Zs8.size≤maxLen by unfold maxLen;decide) (by unfold maxLen;omega) (x:=1) (by unfold Zz;omega) (fun t=>if t=Zs8 then some 1 else if t=Zg6 then some 0 else none) (by simp) (fun t h=>by simp[h])
 rw[Zme]at s3
 obtain ⟨w4,r4,s4⟩:=s3.mapOPut mStr L.length (Zp6 L _) Zn3 (show Zn3.size≤maxLen by unfold maxLen;decide) (by unfold maxLen;omega) (x:=2) (by unfold Zz;omega) (fun t=>if t=Zn3 then some 2 else if t=Zs8 then some 1 else if t=Zg6 then some 0 else none) (by simp) (fun t h=>by simp[h])
 rw[Zme]at s4
 obtain ⟨w5,r5,s5⟩:=s4.mapOPut mStr L.length (Zp6 L _) kNon (show kNon.size≤maxLen by unfold maxLen;decide) (by unfold maxLen;omega) (x:=3) (by unfold Zz;omega) Zmy (by decide) (fun t h=>by
  unfold Zmy Zfs
  by_cases h1:t=Zg6
  ·subst h1;decide
  ·by_cases h2:t=Zs8
   ·subst h2;decide
   ·by_cases h3:t=Zn3
    ·subst h3;decide
    ·simp[h,h1,h2,h3])
 rw[Zme]at s5
 unfold Zc.b1
 have r2':(Instr.mapUpdate 98 (.map (some w.heap.size)) (.string ⟨#[37,116,111,107,101,110]⟩) (.int .i64 0)).run Tryz.prog (w.alloc (.map #[] 0)) = .ok () w2:=r2
 have r3':(Instr.mapUpdate 98 (.map (some w.heap.size)) (.string ⟨#[37,108,101,102,116]⟩) (.int .i64 1)).run Tryz.prog w2 = .ok () w3:=r3
 have r4':(Instr.mapUpdate 98 (.map (some w.heap.size)) (.string ⟨#[37,114,105,103,104,116]⟩) (.int .i64 2)).run Tryz.prog w3 = .ok () w4:=r4
 have r5':(Instr.mapUpdate 98 (.map (some w.heap.size)) (.string ⟨#[37,110,111,110,97,115,115,111,99]⟩) (.int .i64 3)).run Tryz.prog w4 = .ok () w5:=r5
 simp -dsimp[go_sem,mkStr,r2',r3',r4',r5']
 exact hK _ _ s5
end
end Go.Proofs.YtckbgeedlobfaaaGreatDoor
namespace Go.Px.Spec
open Go.Px.Scan
theorem Zp4 (hs:List (Nat×List ByteArray))(d:Nat)(l:List ByteArray)(s:ByteArray):kn (hs++[(d,l)]) s=if hasB l s then min d 1+1 else kn hs s:=by
 unfold kn;rw[List.foldl_append];rfl
theorem Zrm (l:List ByteArray)(t s:ByteArray):hasB (l++[t]) s=(hasB l s || decide (t=s)):=by simp[hasB]
theorem kn_le (hs:List (Nat×List ByteArray))(s:ByteArray):kn hs s≤2:=by
 unfold kn
 suffices h:∀(l:List (Nat×List ByteArray)) (a:Nat),a≤2→l.foldl (fun a h=>if hasB h.2 s then min h.1 1+1 else a) a≤2 from h hs 0 (by omega)
 intro l
 induction l with
 | nil=>exact fun a h=>h
 | cons x l ih=>
  intro a h
  refine ih _ ?_
  show (if hasB x.2 s then min x.1 1+1 else a)≤2
  split<;>omega
section
variable {hs:List (Nat×List ByteArray)} {st rl:ByteArray} {ls:List ByteArray} {rs:List RowS} {x:Wd} {d ph:Nat} {l:List ByteArray}
def badT (hs:List (Nat×List ByteArray))(d:Nat)(l:List ByteArray)(t:ByteArray):Prop:=kn (hs++[(d,l)]) t=2∨(d=0∧0<kn (hs++[(d,l)]) t)
instance {t:ByteArray}:Decidable (badT hs d l t):=by unfold badT;infer_instance
theorem ZZ367 (hp:ph=1∨ph=2)(h:isTB x=true):Zbv ⟨ph,hs++[(d,l)],st,rl,ls,rs⟩ x=if badT hs d l x.2.1 then none else some ⟨2,hs++[(d,l++[x.2.1])],st,rl,ls,rs⟩:=by
 have:Zob ⟨ph,hs++[(d,l)],st,rl,ls,rs⟩ x.2.1=if badT hs d l x.2.1 then none else some ⟨2,hs++[(d,l++[x.2.1])],st,rl,ls,rs⟩:=by
  simp[Zob,badT,Zb8]
 rcases hp with rfl|rfl
 ·simp only[Zbv,if_pos h];exact this
 ·simp only[Zbv,if_pos h];exact this
theorem ZZ61 (h:isTB x=false):Zbv ⟨2,hs,st,rl,ls,rs⟩ x=if isSg x Zge then some ⟨0,hs,st,rl,ls,rs⟩ else none:=by
 simp[Zbv,h]
end
end Go.Px.Spec
namespace Go.Proofs.YtckbgeedlobfaaaGreatDoor
open Go.Px Go.Px.Scan Go.Px.Spec Go.RowKit
attribute [-go_sem] Builtin.append_ Zc.b17 Zc.b4 Zc.b3
section
variable {F:Nat→Prop} {w w1:World} {b:Nat} {A:Option Addr} {c:Nat} {ws:List Wd} {e:Int} {i j ph:Nat} {hs:List (Nat×List ByteArray)} {st rl:ByteArray} {ls:List ByteArray} {rs:List RowS} {D:RD} {R:EP} {C:World→Prop} {hb d:Nat} {Al:Option Addr} {cl:Nat} {l:List ByteArray} {kc:Nat}
def hdL (b:Nat)(A:Option Addr)(c:Nat)(ws:List Wd)(e:Int)(j:Nat)(hs:List (Nat×List ByteArray))(st:ByteArray)(ls:List ByteArray)(rs:List RowS)(D:RD)(hb d:Nat)(Al:Option Addr)(cl:Nat)(l:List ByteArray)(kc:Nat):List Ch :=
 [boxC b 102 (Zea A c ws e j hs st rs D),rowC 73 3 A ws.length c (ws.flatMap encW),mapC Tryz.prog kStr 9 3 D.km kc (knF (hs++[(d,l)])),
   rowC 118 2 D.ah hs.length D.ch ((hs.zip D.vs).flatMap encH),Zeg 9 1 D.vs (hs.map fun h=>h.2.map Value.string),
   mapC Tryz.prog kStr 9 3 D.lm D.lc (cnt ls),
   rowC 124 4 D.ar rs.length D.cr ((rs.zip D.us).flatMap encR),Zeg 73 3 D.us (rs.map fun r=>r.words.flatMap encW),
   boxC hb 118 [.int .i64 d,.slice Al l.length cl],rowC 9 1 Al l.length cl (l.map Value.string)]
theorem ZZ92 (s:St F w w1 (hdL b A c ws e j hs st ls rs D hb d Al cl l kc))(hB:Rb ws j hs ls rs D)(hj:hs.length<j)(hkc:kc≤j)
  (hR:isSg (nowW ws e j) Zge=true→j<ws.length→∀w' D',St F w w' (rdL b A c ws e (j+1) (hs++[(d,l)]) st ls rs D')→Rb ws (j+1) (hs++[(d,l)]) ls rs D'→R (.returned (.tuple #[])) w')
  (hX:isSg (nowW ws e j) Zge=false→∀w',Chg F w w'→R (.panicked (badP (nowW ws e j).2.2)) w') :
  Zc.b6 R (.pointer (some ⟨b,0,none⟩)) (.pointer (some ⟨hb,0,none⟩)) w1:=by
 have hsz:=hB.sz
 have hle:=hB.le
 have hr:=s.rdr 0 1 rfl rfl hle hsz
 unfold Zc.b6
 refine Zkc (X:=pan R) s 0 rfl hr (t:=Zge) (fun h2 hlt w2 s2=>?_) (fun h2 w2 hc=>hX h2 _ hc)
 unfold Zc.b6_1
 unfold hdL Zea at s2
 simp only[List.set_cons_zero,List.set_cons_succ]at s2
 obtain ⟨y,yf,yb⟩:=s2.box 0 rfl
 obtain ⟨z,zf,zb⟩:=s2.box 8 rfl
 simp[Zp]at y z
 obtain ⟨FF,hvs,_⟩:=s2.get (k:=4) rfl
 have hvl:D.vs.length=hs.length:=by have:=hvs.1;simpa using this
 simp -dsimp[go_sem,y,z]
 refine ⟨by simp[World.cell?_alloc_lt,yb,y],?_⟩
 refine s2.append1d 3 rfl uHds iHd rfl (by omega) (news:=[.int .i64 d,.slice Al l.length cl]) rfl (by simp[Value.oneCell']) (by unfold maxLen;omega) (by unfold Zr;omega) ?_
 intro g cap w3 s3
 obtain ⟨y3,yf3,yb3⟩:=s3.box 0 rfl
 simp[Zp]at y3
 have yf4:=yf3 4
 have s4:=s3.set 0 rfl 4 (.slice (some ⟨g,0,none⟩) (hs.length+1) cap)
 simp -dsimp[go_sem,y3,yf4]
 generalize w3.setCell ⟨b,4,none⟩ (.slice (some ⟨g,0,none⟩) (hs.length+1) cap)=w4 at s4 ⊢
 have s5:=(s4.merge (j:=9) (k:=4) rfl rfl (by decide) (e:=Zeg 9 1 (D.vs++[.slice Al l.length cl]) ((hs.map fun h=>h.2.map Value.string)++[l.map Value.string])) fun _ _ h1 h2=>Zi3 h1 h2).take 8
 have hz:((hs++[(d,l)]).zip (D.vs++[.slice Al l.length cl])).flatMap encH=(hs.zip D.vs).flatMap encH++[.int .i64 d,.slice Al l.length cl]:=by
  rw[List.zip_append hvl.symm,List.flatMap_append];rfl
 refine hR h2 hlt w4 {D with ah:=some ⟨g,0,none⟩,ch:=cap,vs:=D.vs++[.slice Al l.length cl],kc:=kc } ?_ ⟨hlt,hsz,by simp;omega,by have:=hB.lc;simp;omega,by simp;omega,by have:=hB.rs;omega,by have:=hB.ls;omega,hB.km,hB.lm,hB.tx⟩
 unfold rdL Zea
 simp only[hz,List.length_append,List.length_singleton,List.map_append,List.map_cons,List.map_nil]
 exact s5
end
end Go.Proofs.YtckbgeedlobfaaaGreatDoor
namespace Go.Proofs.YtckbgeedlobfaaaGreatDoor
open Go.Px Go.Px.Scan Go.Px.Spec Go.RowKit
attribute [-go_sem] Builtin.append_ Zc.b17 Zc.b4 Zc.b3 Zc.b13
section
variable {F:Nat→Prop} {w w1:World} {b:Nat} {A:Option Addr} {c:Nat} {ws:List Wd} {e:Int} {i j ph:Nat} {hs:List (Nat×List ByteArray)} {st rl:ByteArray} {ls:List ByteArray} {rs:List RowS} {D:RD} {R:EP} {C:World→Prop} {hb d:Nat} {Al:Option Addr} {cl:Nat} {l:List ByteArray} {kc:Nat}
theorem head_take {t:ByteArray}(s:St F w w1 (hdL b A c ws e j hs st ls rs D hb d Al cl l kc))(hB:Rb ws j hs ls rs D)(hlt:j<ws.length)(hkc:kc≤j)(hl:l.length≤j)(ht:t.size≤maxLen)(hd:d≤3)
  (hC:∀w' Al' cl' kc',St F w w' (hdL b A c ws e (j+1) hs st ls rs D hb d Al' cl' (l++[t]) kc')→kc'≤j+1→C w') :
  Zc.b13 R C (.pointer (some ⟨b,0,none⟩)) (.int .i64 d) (.pointer (some ⟨hb,0,none⟩)) (.string t) w1:=by
 have hsz:=hB.sz
 obtain ⟨pk,hpk⟩:=hB.km
 unfold hdL Zea at s
 rw[hpk]at s
 obtain ⟨y,yf,yb⟩:=s.box 0 rfl
 simp[Zp]at y
 have hf:knF (hs++[(d,l)]) t=0∨knF (hs++[(d,l)]) t≠0:=by omega
 obtain ⟨w2,hrun,s2⟩:=s.mapPut mStr 2 rfl t ht (by unfold maxLen;omega) (x:=((min d 1+1:Nat):Int)) (by unfold Zz;omega) (by omega) (if knF (hs++[(d,l)]) t=0 then kc+1 else kc) (knF (hs++[(d,l++[t])])) (fun h=>if_pos h) (fun h=>if_neg h)
  (by unfold knF;rw[Zp4,Zrm];simp)
  (fun u hu=>by unfold knF;rw[Zp4,Zp4,Zrm];simp[Ne.symm hu])
 have wm:IntKind.i64.wrap ((if (1:Int)<d then 1 else (d:Int))+1)=((min d 1:Nat):Int)+1:=by
  split<;>(rw[IntWalk.i64_in _ (by omega)];omega)
 have hrun':(Instr.mapUpdate 98 (.map (some pk)) (.string t) (.int .i64 (((min d 1:Nat):Int)+1))).run Tryz.prog w1 = .ok () w2:=hrun
 unfold Zc.b13
 obtain ⟨z,zf,zb⟩:=s2.box 8 rfl
 simp[Zp]at z
 simp -dsimp[go_sem,y,wm,hrun',z]
 refine s2.append1 9 rfl uStrs iStr rfl (by omega) (news:=[.string t]) rfl (by simp[Value.oneCell']) (by unfold maxLen;omega) (by unfold Zr;omega) ?_
 intro g cap w3 s3
 obtain ⟨z3,zf3,zb3⟩:=s3.box 8 rfl
 simp[Zp]at z3
 have zf1:=zf3 1
 have s4:=s3.set 8 rfl 1 (.slice (some ⟨g,0,none⟩) (l.length+1) cap)
 have wk:IntKind.i64.wrap ((j:Int)+1)=(j:Int)+1:=IntWalk.i64_in _ (by omega)
 simp -dsimp[go_sem,z3,zf1]
 generalize w3.setCell ⟨hb,1,none⟩ (.slice (some ⟨g,0,none⟩) (l.length+1) cap)=w4 at s4 ⊢
 obtain ⟨y4,yf4,yb4⟩:=s4.box 0 rfl
 simp[Zp]at y4
 have yf1:=yf4 1
 have s5:=s4.set 0 rfl 1 (.int .i64 ((j:Int)+1))
 simp -dsimp[go_sem,y4,yf1,wk]
 generalize w4.setCell ⟨b,1,none⟩ (.int .i64 ((j:Int)+1))=w5 at s5 ⊢
 refine hC w5 (some ⟨g,0,none⟩) cap (if knF (hs++[(d,l)]) t=0 then kc+1 else kc) ?_ (by split<;>omega)
 have e2:((j+1:Nat):Int)=(j:Int)+1:=by omega
 unfold hdL Zea
 rw[hpk]
 simp only[e2,List.length_append,List.length_singleton,List.map_append,List.map_cons,List.map_nil]
 exact s5
end
end Go.Proofs.YtckbgeedlobfaaaGreatDoor
namespace Go.Proofs.YtckbgeedlobfaaaGreatDoor
open Go.Px Go.Px.Scan Go.Px.Spec Go.RowKit
attribute [-go_sem] Builtin.append_ Zc.b17 Zc.b4 Zc.b3 Zc.b13 Zc.b6 Zc.b15
section
variable {F:Nat→Prop} {w w1:World} {b:Nat} {A:Option Addr} {c:Nat} {ws:List Wd} {e:Int} {i j ph:Nat} {hs:List (Nat×List ByteArray)} {st rl:ByteArray} {ls:List ByteArray} {rs:List RowS} {D:RD} {R:EP} {C:World→Prop} {hb d:Nat} {Al:Option Addr} {cl:Nat} {l:List ByteArray} {kc:Nat}
theorem Zww {m:Mc}{i:Nat}(s:St F w w1 (hdL b A c ws e j hs st ls rs D hb d none 0 [] kc))(hB:Rb ws j hs ls rs D)(hj:hs.length<j)(hkc:kc≤j)(hd:d≤3)(hT:isTB (nowW ws e j)=true)
  (hg:goM m (ws.drop i)=goM ⟨1,hs++[(d,[])],st,rl,ls,rs⟩ (ws.drop j))
  (hR:∀j' hs' D' w',j<j'→goM m (ws.drop i)=goM ⟨0,hs',st,rl,ls,rs⟩ (ws.drop j')→St F w w' (rdL b A c ws e j' hs' st ls rs D')→Rb ws j' hs' ls rs D'→R (.returned (.tuple #[])) w')
  (hX:∀a,Zew e m (ws.drop i) a→∀w',Chg F w w'→R (.panicked (badP a)) w') :
  Zc.l8 R (.pointer (some ⟨b,0,none⟩)) (.int .i64 d) (.pointer (some ⟨hb,0,none⟩)) w1:=by
 refine Zc.l8_intro _ _ _ _ _ (fun w'=>∃jj l ph Al cl kc,j≤jj∧jj≤ws.length∧l.length≤jj∧kc≤jj∧(ph=1∧isTB (nowW ws e jj)=true∨ph=2)∧goM m (ws.drop i)=goM ⟨ph,hs++[(d,l)],st,rl,ls,rs⟩ (ws.drop jj)∧St F w w' (hdL b A c ws e jj hs st ls rs D hb d Al cl l kc)) (fun w'=>ws.length-atOf b w')
  ⟨j,[],1,none,0,kc,by omega,hB.le,by simp,hkc,.inl ⟨rfl,hT⟩,hg,s⟩ ?_
 rintro w2 ⟨jj,l,ph,Al,cl,kc,hjj,hle,hl,hkc,hph,hg2,s2⟩ C8 hC8
 have hsz:=hB.sz
 have hat:atOf b w2=jj:=Zi8 s2 0 rfl
 have hr2:=s2.rdr 0 1 rfl rfl hle hsz
 have hBj:=hB.up hjj hle
 unfold Zc.b9
 refine Zmg s2 hr2 fun w3 s3 hr3=>?_
 refine Za (fun h1=>?_) (fun h1=>?_)
 ·have hlt:jj<ws.length:=Zhp (ws:=ws) (e:=e) (by simp[isTB]at h1;omega)
  have hst:=ZZ367 (hs:=hs) (st:=st) (rl:=rl) (ls:=ls) (rs:=rs) (d:=d) (l:=l) (by rcases hph with h | h;exact .inl h.1;exact .inr h) h1
  unfold Zc.b11
  refine Zka s3 hr3 fun w4 s4 hr4=>?_
  have htx:(nowW ws e jj).2.1.size≤maxLen:=Zvi hB.tx
  generalize hx:nowW ws e jj=x at hst htx h1
  rw[show wdV x = .agg #[.int .i64 x.1,.string x.2.1,.int .i64 x.2.2] from rfl,Zd0,fWd1,Zb9]
  have fin:∀q:Bool,(q=true↔badT hs d l x.2.1)→Zc.b15 R C8 (.pointer (some ⟨b,0,none⟩)) (.int .i64 d) (.pointer (some ⟨hb,0,none⟩)) (.string x.2.1) (.bool q) w4:=fun q hq=>by
   unfold Zc.b15
   refine Za (fun h2=>?_) (fun h2=>?_)
   ·refine Zim (X:=pan R) s4 hr4 fun w5 hc5=>?_
    exact hX _ (Zew.congr hg2 (Zfc (by rw[hx,hst,if_pos (hq.1 h2)]) (Or.inr hlt))) w5 hc5
   ·have hnb:¬badT hs d l x.2.1:=fun h=>by rw[hq.2 h]at h2;cases h2
    refine head_take s4 hBj hlt hkc hl htx hd fun w5 Al' cl' kc' s5 hk5=>?_
    refine hC8 _ ⟨jj+1,l++[x.2.1],2,Al',cl',kc',by omega,hlt,by simp;omega,hk5,.inr rfl,?_,s5⟩ (by rw[hat,Zi8 s5 0 rfl];omega)
    rw[hg2]
    exact Zd4 (e:=e) (by rw[hx,hst,if_neg hnb]) hlt
  obtain ⟨pk,hpk⟩:=hB.km
  have s4':=s4
  unfold hdL Zea at s4'
  rw[hpk]at s4'
  obtain ⟨y,yf,yb⟩:=s4'.box 0 rfl
  simp[Zp]at y
  have mg:(Instr.lookup 98 (.map (some pk)) (.string x.2.1) false).run Tryz.prog w4 = .ok (.int .i64 (kn (hs++[(d,l)]) x.2.1:Nat)) w4:=s4'.mapGet mStr 2 rfl x.2.1 htx
  have hk2:=kn_le (hs++[(d,l)]) x.2.1
  unfold Zc.b14
  simp -dsimp[go_sem,y,mg]
  refine Za (fun h2=>?_) (fun h2=>?_)<;>simp at h2
  ·exact fin true ⟨fun _=>Or.inl (by omega),fun _=>rfl⟩
  ·simp -dsimp[go_sem]
   refine Za (fun h3=>?_) (fun h3=>?_)<;>simp at h3
   ·simp -dsimp[go_sem,y,mg]
    exact fin _ (by unfold badT;simp;omega)
   ·exact fin false (by unfold badT;simp;omega)
 ·have hp2:ph=2:=by
   rcases hph with ⟨_,h⟩|h
   ·rw[h]at h1;cases h1
   ·exact h
  subst hp2
  have hst:=ZZ61 (hs:=hs++[(d,l)]) (st:=st) (rl:=rl) (ls:=ls) (rs:=rs) h1
  refine ZZ92 s3 hBj (by omega) hkc (fun h2 hlt w' D' s' hb'=>?_) (fun h2 w' hc=>?_)
  ·refine hR (jj+1) _ D' w' (by omega) ?_ s' hb'
   rw[hg2]
   exact Zd4 (e:=e) (by rw[hst,if_pos h2]) hlt
  ·exact hX _ (Zew.congr hg2 (Zfc (by rw[hst,if_neg (by rw[h2];decide)]) (Or.inl (show (2:Nat)≠9 by decide)))) w' hc
end
end Go.Proofs.YtckbgeedlobfaaaGreatDoor
