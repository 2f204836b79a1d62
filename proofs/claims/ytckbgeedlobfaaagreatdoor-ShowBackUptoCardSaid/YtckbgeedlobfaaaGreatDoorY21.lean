/-
  Texts of this claim: Gr4, ScSpec4, ScSpec5, ScSpec6, Ld0, Pl8, Lc0, Le0, Lf1, Lb2, Lb3, Le1, Le2, Lf2, Lf3.
-/
import Derived.Test.YtckbgeedlobfaaaGreatDoorY20
import Derived.Test.YtckbgeedlobfaaaGreatDoorY11
import Derived.Test.YtckbgeedlobfaaaGreatDoorY18
import Derived.Test.YtckbgeedlobfaaaGreatDoorY19
set_option maxHeartbeats 1000000
set_option linter.unusedSimpArgs false
set_option linter.unusedVariables false
set_option maxRecDepth 100000
namespace Go.Proofs.YtckbgeedlobfaaaGreatDoor
open Go.Px Go.Px.Scan Go.RowKit
attribute [-go_sem] Builtin.append_
def FitsP (g:Gr)(a:Nat):Prop:=Zll g a∧Zhz g a
open Classical in
noncomputable def fitsB (g:Gr)(a:Nat):Bool:=decide (FitsP g a)
theorem Zkp {g:Gr}{a:Nat}:fitsB g a=true↔FitsP g a:=@decide_eq_true_iff _ (_)
theorem Zny {g:Gr}(h0:g.terms.head?=some (⟨#[]⟩,0))(i:Nat):(∃t∈g.terms,t.2=(i:Int)+1)↔∃t∈g.terms.tail,t.2=(i:Int)+1:=by
 cases e:g.terms with
 | nil=>simp
 | cons t r=>
  rw[e]at h0
  simp at h0
  constructor
  ·rintro ⟨x,hx,hi⟩
   rcases List.mem_cons.1 hx with rfl|hx
   ·rw[h0]at hi;simp at hi;omega
   ·exact ⟨x,hx,hi⟩
  ·rintro ⟨x,hx,hi⟩;exact ⟨x,List.mem_cons_of_mem _ hx,hi⟩
theorem ZZ237 {w:World}{B:Nat}{v:Value}{g:Gr}(h:Zcz.atN w B v g)(hB:B≤w.heap.size)(a:Nat)(ha:a≤1):Ct Tryz.prog Zf1.id #[v,.int .i64 a] w fun r w'=>r = .bool (fitsB g a)∧Chg noB w w':=by
 refine Zf1.ct fun R hR=>?_
 obtain ⟨A1,c1,A2,c2,A3,c3,A4,c4,rfl,⟨m1,m2,m3,m4⟩,hst,hc0,hg⟩:=Ziv h hB
 have no:∀w',Chg noB w w'→¬FitsP g a→R (.returned (.bool false)) w':=fun w' hc hn=>hR _ _ ⟨by rw[Zfp Zkp hn],hc⟩
 unfold Zf1.run
 have w64:IntKind.i64.wrap (64+(a:Int))=64+a:=IntWalk.i64_in _ (by omega)
 simp -dsimp[go_sem,w64]
 generalize hw1:w.alloc (.cells #[.slice A1 g.terms.length c1,.slice A2 g.nons.length c2,.slice A3 g.levels.length c3,.int .i64 g.start,.slice A4 g.prods.length c4] 27)=w1 at hc0 hg ⊢
 have hz:∀w',Chg noB w1 w'→Zcz.atN w' B (.agg #[.slice A1 g.terms.length c1,.slice A2 g.nons.length c2,.slice A3 g.levels.length c3,.int .i64 g.start,.slice A4 g.prods.length c4]) g∧B≤w'.heap.size:=fun w' hc=>
  ⟨Za2 h ((hc0.trans hc).below hB fun _ _=>id),(hg w' hc).sz⟩
 generalize w.heap.size=q at hg ⊢
 have z1:=hg w1 (Chg.refl _ _)
 refine Za (fun q1=>?_) (fun q1=>?_)<;>simp at q1
 ·simp -dsimp[go_sem]
  exact no _ hc0 fun hs=>by have:=hs.1.n1;omega
 simp -dsimp[go_sem,z1.k]
 refine Za (fun q2=>?_) (fun q2=>?_)<;>simp at q2
 ·simp -dsimp[go_sem]
  exact no _ hc0 fun hs=>by have:=hs.1.t1;omega
 have w96:IntKind.i64.wrap (96+(a:Int))=96+a:=IntWalk.i64_in _ (by omega)
 simp -dsimp[go_sem,z1.k,w96]
 refine Za (fun q3=>?_) (fun q3=>?_)<;>simp at q3
 ·simp -dsimp[go_sem]
  exact no _ hc0 fun hs=>by have:=hs.2.c1;omega
 have wa1:IntKind.i64.wrap (1+(a:Int))=1+a:=IntWalk.i64_in _ (by omega)
 simp -dsimp[go_sem,z1.k,wa1]
 refine Za (fun q4=>?_) (fun q4=>?_)<;>simp at q4
 ·simp -dsimp[go_sem]
  exact no _ hc0 fun hs=>by have:=hs.2.c0;omega
 simp -dsimp[go_sem,z1.k]
 refine Za (fun q5=>?_) (fun q5=>?_)<;>simp at q5
 ·exact no _ hc0 fun hs=>by have:=hs.1.lev;omega
 have w65:IntKind.i64.wrap ((g.terms.length:Int)-1)=(g.terms.length:Int)-1:=IntWalk.i64_in _ (by omega)
 have w66:IntKind.i64.wrap ((g.terms.length:Int)-1+g.nons.length)=(g.terms.length:Int)-1+g.nons.length:=IntWalk.i64_in _ (by omega)
 have w67:IntKind.i64.wrap ((g.terms.length:Int)-1+g.nons.length-a)=(g.terms.length:Int)-1+g.nons.length-a:=IntWalk.i64_in _ (by omega)
 simp -dsimp[go_sem,z1.k,w65,w66,w67]
 refine Za (fun q6=>?_) (fun q6=>?_)<;>simp at q6
 ·exact no _ hc0 fun hs=>by
   have h1:=hs.1.sum
   have h2:0<g.terms.length:=by
    have:=hs.1.t0
    cases e:g.terms with
    | nil=>rw[e]at this;cases this
    | cons t r=>simp
   have h3:=hs.1.n0
   omega
 have hs:g.terms.length+g.nons.length≤1000:=by omega
 simp -dsimp[go_sem,z1.k]
 refine Zf (Zua (hz _ (Chg.refl _ _)).1 (hz _ (Chg.refl _ _)).2) ?_
 rintro _ w2 ⟨rfl,hc2⟩
 have z2:=hg _ hc2
 cases hT:ZZ62 g with
 | false=>
  simp -dsimp[go_sem]
  exact no _ (hc0.trans hc2) fun hs=>by rw[Zi9.2 ⟨hs.1.t0,hs.1.terms,hs.1.tnd⟩]at hT;cases hT
 | true=>
  have hTP:=Zi9.1 hT
  simp -dsimp[go_sem,z2.k]
  refine Zf (Zsr (hz _ hc2).1 (hz _ hc2).2) ?_
  rintro _ w3 ⟨rfl,hc3⟩
  have h3:=hc2.trans hc3
  have z3:=hg _ h3
  simp -dsimp[go_sem,z3.k]
  refine Zf (Zwv (hz _ h3).1 (hz _ h3).2 a ha) ?_
  rintro _ w4 ⟨rfl,hc4⟩
  have h4:=h3.trans hc4
  have z4:=hg _ h4
  have wl:IntKind.i64.wrap ((g.terms.length:Int)+a)=(g.terms.length:Int)+a:=IntWalk.i64_in _ (by omega)
  simp -dsimp[go_sem,z4.k,wl]
  refine Zf (Zus (hz _ h4).1 (hz _ h4).2 a ha hs) ?_
  rintro _ w5 ⟨rfl,hc5⟩
  have h5:=h4.trans hc5
  have z5:=hg _ h5
  simp -dsimp[go_sem,z5.k]
  refine Zf (Zu2 (hz _ h5).1 (hz _ h5).2 a ha (by omega)) ?_
  rintro vl w6 ⟨hl,hc6⟩
  obtain ⟨Al,cl,rfl,_⟩:=Zay hl
  have h6:=h5.trans hc6
  have h6d:=h6.drew
  have z6:=hg _ h6
  have z6d:=hg _ h6d
  have hlev:=Zjy (g:=g)
  have hnon:=Zol (g:=g) (a:=a)
  have hpf:=Zoq (g:=g) (a:=a)
  have nt0:∃n,g.terms.length=n+1:=by
   have:=hTP.1
   cases e:g.terms with
   | nil=>rw[e]at this;cases this
   | cons t r=>exact ⟨r.length,rfl⟩
  obtain ⟨nt,hnt⟩:=nt0
  cases hL:Zux g with
  | false=>
   simp -dsimp[go_sem]
   exact no _ (hc0.trans h6d) fun hs=>by
    have:Zml g:=fun i hi=>⟨(hs.1.levels i hi).1,(hs.1.levels i hi).2.1,(Zny hTP.1 i).2 (hs.1.levels i hi).2.2⟩
    rw[hlev.2 this]at hL;cases hL
  | true=>
   cases hN:nonsB g a with
   | false=>
    simp -dsimp[go_sem]
    exact no _ (hc0.trans h6d) fun hs=>by rw[hnon.2 ⟨hs.1.nnd,hs.1.nnam⟩]at hN;cases hN
   | true=>
    cases hP:pfitB g a with
    | false=>
     simp -dsimp[go_sem]
     exact no _ (hc0.trans h6d) fun hs=>by rw[hpf.2 hs.2.each]at hP;cases hP
    | true=>
     have hLP:=hlev.1 hL
     have hNP:=hnon.1 hN
     have hPP:=hpf.1 hP
     have wn:IntKind.i64.wrap ((g.nons.length:Int)-a)=(g.nons.length:Int)-a:=IntWalk.i64_in _ (by omega)
     simp -dsimp[go_sem,z6d.k,wn]
     have lpos:0<(Zj (g.prods.drop a)).length:=by
      have hp:0<(g.prods.drop a).length:=by simp;omega
      exact List.length_pos_of_mem (Zjn.2 ⟨(g.prods.drop a)[0],List.getElem_mem hp,rfl⟩)
     refine Za (fun p1=>?_) (fun p1=>?_)<;>simp at p1
     ·simp -dsimp[go_sem,z6d.k,wl]
      refine Za (fun p2=>?_) (fun p2=>?_)<;>simp at p2
      ·simp -dsimp[go_sem,z6d.k]
       refine Zf (Zlh (hz _ h6d).1 (hz _ h6d).2 hs) ?_
       rintro _ w7 ⟨rfl,hc7⟩
       have z7:=hg _ (h6d.trans hc7)
       simp -dsimp[go_sem,z7.k]
       refine hR _ _ ⟨?_,hc0.trans (h6d.trans hc7)⟩
       congr 1
       refine Zn2 ?_
       rw[decide_eq_true_iff,Zkp]
       constructor
       ·intro p3
        exact ⟨⟨hTP.1,by omega,by omega,by omega,by omega,hTP.2.1,fun i hi=>⟨(hLP i hi).1,(hLP i hi).2.1,(Zny hTP.1 i).1 (hLP i hi).2.2⟩,hTP.2.2,hNP.1,hNP.2⟩,
         ⟨by omega,by omega,hPP,by omega,by omega,by omega⟩⟩
       ·intro hs;exact hs.2.s1
      ·exact no _ (hc0.trans h6d) fun hs=>by have:=hs.2.s0;omega
     ·exact no _ (hc0.trans h6d) fun hs=>by have:=hs.2.lefts;omega
theorem Ztq {w:World}{B:Nat}{v:Value}{g:Gr}(h:Zcz.atN w B v g)(hB:B≤w.heap.size):Ct Tryz.prog Zej.id #[v] w fun r w'=>r = .bool (Zrv g)∧Chg noB w w':=by
 refine Zej.ct fun R hR=>?_
 obtain ⟨A1,c1,A2,c2,A3,c3,A4,c4,rfl,⟨m1,m2,m3,m4⟩,hst,hc0,hg⟩:=Ziv h hB
 have no:∀w',Chg noB w w'→¬Zbh g→R (.returned (.bool false)) w':=fun w' hc hn=>hR _ _ ⟨by rw[Zfp Zfz hn],hc⟩
 unfold Zej.run
 simp -dsimp[go_sem]
 generalize hw1:w.alloc (.cells #[.slice A1 g.terms.length c1,.slice A2 g.nons.length c2,.slice A3 g.levels.length c3,.int .i64 g.start,.slice A4 g.prods.length c4] 27)=w1 at hc0 hg ⊢
 have hz:∀w',Chg noB w1 w'→Zcz.atN w' B (.agg #[.slice A1 g.terms.length c1,.slice A2 g.nons.length c2,.slice A3 g.levels.length c3,.int .i64 g.start,.slice A4 g.prods.length c4]) g∧B≤w'.heap.size:=fun w' hc=>
  ⟨Za2 h ((hc0.trans hc).below hB fun _ _=>id),(hg w' hc).sz⟩
 generalize w.heap.size=q at hg ⊢
 refine Zf (ZZ237 (hz _ (Chg.refl _ _)).1 (hz _ (Chg.refl _ _)).2 0 (by omega)) ?_
 rintro _ w2 ⟨rfl,hc2⟩
 have z2:=hg _ hc2
 cases hF:fitsB g 0 with
 | false=>
  simp -dsimp[go_sem]
  exact no _ (hc0.trans hc2) fun hs=>by rw[Zkp.2 ⟨hs.syms,hs.prods⟩]at hF;cases hF
 | true=>
  have hFP:=Zkp.1 hF
  have hsy:=hFP.1.sum
  have ht1:=hFP.1.t1
  have hn1:=hFP.1.n1
  have hc1:=hFP.2.c1
  simp -dsimp[go_sem,z2.k]
  refine Zf (Zu2 (hz _ hc2).1 (hz _ hc2).2 0 (by omega) (by omega)) ?_
  rintro vl w3 ⟨hl,hc3⟩
  rw[List.drop_zero]at hl
  obtain ⟨Al,cl,rfl,hll,hml,_⟩:=Zay hl
  have hrow:=hFP.2.row
  have hlen:=hFP.2.lefts
  rw[List.drop_zero]at hlen
  generalize hL:Zj g.prods=L at *
  simp -dsimp[go_sem]
  refine Zej.l6_intro _ _ _ _ _ (fun y w'=>∃k:Nat,y = .int .i64 k∧k≤L.length∧Chg noB w3 w'∧∀i (hi:i<L.length),i<k→L[i]=(g.terms.length:Int)+i) (fun y _=>L.length-iv y) ⟨0,rfl,by omega,Chg.refl _ _,fun i hi h0=>by omega⟩ ?_
  rintro _ w4 ⟨k,rfl,hk,hc4,hall⟩ C hC
  simp -dsimp[go_sem]
  refine Za (fun p1=>?_) (fun p1=>?_)<;>simp at p1
  ·have z4:=hg _ ((hc2.trans hc3).trans hc4.drew)
   obtain ⟨b1,o1,rfl,hb1,x1,x2⟩:=Go.Px.ints_at (Rep.below hl (hc4.drew.below (Nat.le_refl _) fun _ _=>id)) p1
   have wk:IntKind.i64.wrap ((k:Int)+1)=(k:Int)+1:=IntWalk.i64_in _ (by omega)
   have wt:IntKind.i64.wrap ((g.terms.length:Int)+k)=(g.terms.length:Int)+k:=IntWalk.i64_in _ (by omega)
   simp -dsimp[go_sem,z4.k,p1,x1,wt]
   refine Za (fun p2=>?_) (fun p2=>?_)<;>simp at p2
   ·refine no _ (hc0.trans ((hc2.trans hc3).trans hc4.drew)) fun hv=>p2 ?_
    have:=hrow.1 (by rw[←hL];exact hv.sorted)
    exact this k p1
   ·simp -dsimp[go_sem,wk]
    refine hC _ _ ⟨k+1,by simp,by omega,hc4.drew,fun i hi hik=>?_⟩ (by simp[iv];omega)
    by_cases e:i=k
    ·subst e;exact p2
    ·exact hall i hi (by omega)
  ·simp -dsimp[go_sem]
   refine hR _ _ ⟨?_,hc0.trans ((hc2.trans hc3).trans hc4)⟩
   rw[Zfz.2 ⟨hFP.1,hFP.2,by rw[hL];exact hrow.2 fun i hi=>hall i hi (by omega)⟩]
end Go.Proofs.YtckbgeedlobfaaaGreatDoor
namespace Go.Px.Scan
open Go.Px
end Go.Px.Scan
namespace Go.Px.Scan
open Go.Px
theorem Zn5 {c:Nat}(h:Zbq c=false):Zcd c=false:=by
 simp[Zbq]at h;exact h.1
end Go.Px.Scan
namespace Go.Px.Scan
open Go.Px
theorem Zmq (p:Nat→Bool){s t:ByteArray}(d:Nat):∀(n i:Nat),(∀j,i≤j→j<runS p s i n→bt t (d+j)=bt s j)→d+runS p s i n≤t.size →
  (d+runS p s i n<t.size→(runS p s i n<s.size∧bt t (d+runS p s i n)=bt s (runS p s i n))∨p (bt t (d+runS p s i n))=false∨runS p s i n=i+n)→runS p t (d+i) n=d+runS p s i n
 | 0,i,_,_,_=>rfl
 | n+1,i,ha,h1,h2=>by
  by_cases hc:(i<s.size && p (bt s i))=true
  ·have e:runS p s i (n+1)=runS p s (i+1) n:=by conv=>lhs;unfold runS;rw[if_pos hc]
   rw[e]at ha h1 h2 ⊢
   have hg:=Zr5 p s n (i+1)
   have hti:=ha i (by omega) (by omega)
   conv=>lhs;unfold runS
   simp at hc
   rw[if_pos (by simp[hti,hc.2];omega)]
   exact Zmq p d n (i+1) (fun j hj=>ha j (by omega)) h1 (fun h=>by
    rcases h2 h with h3|h3|h3
    ·exact Or.inl h3
    ·exact Or.inr (Or.inl h3)
    ·exact Or.inr (Or.inr (by omega)))
  ·have e:runS p s i (n+1)=i:=by conv=>lhs;unfold runS;rw[if_neg hc]
   rw[e]at ha h1 h2 ⊢
   unfold runS
   rw[if_neg]
   intro hn
   simp at hn hc
   rcases h2 hn.1 with h3|h3|h3
   ·rw[h3.2]at hn;exact absurd hn.2 (by simp[hc h3.1])
   ·rw[h3]at hn;simp at hn
   ·omega
theorem Zhk {s t:ByteArray}(d:Nat){a e:Nat}(hs:e≤s.size)(ht:d+e≤t.size)(h:∀j,a≤j→j<e→bt t (d+j)=bt s j):t.extract (d+a) (d+e)=s.extract a e:=by
 apply Zh6
 have h1:=Lib.extract_toList t (d+a) (d+e)
 have h2:=Lib.extract_toList s a e
 rw[ByteArray.toList_eq]at h1 h2
 rw[h1,h2,show d+e-(d+a)=e-a by omega]
 apply List.ext_getElem?
 intro i
 simp only[List.getElem?_take,List.getElem?_drop]
 split
 ·rename_i hi
  have hj:=h (a+i) (by omega) (by omega)
  obtain ⟨c,hc,ec⟩:=Ztr (s:=s) (i:=a+i) (by omega)
  obtain ⟨x,hx,ex⟩:=Ztr (s:=t) (i:=d+a+i) (by omega)
  rw[hc,hx]
  congr 1
  apply UInt8.toNat_inj.1
  rw[show d+a+i=d+(a+i) by omega]at ex
  omega
 ·rfl
theorem ZZ11 {s t:ByteArray}(d:Nat)(a k:Nat):k≤s.size→(∀j,a≤j→j<(ordS s a k).1→bt t (d+j)=bt s j)→d+(ordS s a k).1≤t.size→a≤k→(ordS s a k).2=true →
  (d+(ordS s a k).1<t.size→((ordS s a k).1<s.size∧bt t (d+(ordS s a k).1)=bt s (ordS s a k).1)∨Zcd (bt t (d+(ordS s a k).1))=false)→ordS t (d+a) (d+k)=(d+(ordS s a k).1,true):=by
 induction k using ordS.induct s a with
 | case1 k h h1 ih=>
  intro hk ha hle hak ho h2
  have e:ordS s a k=ordS s a (k+1):=by conv=>lhs;unfold ordS;rw[if_pos h,if_pos h1]
  rw[e]at ha hle h2 ho ⊢
  have hg:=ZZ174 s a (k+1)
  conv=>lhs;unfold ordS
  rw[if_pos ⟨by omega,by rw[ha k hak (by omega)];exact h.2⟩,if_pos (by
   rw[show d+k+1=d+(k+1) by omega,Zhk (s:=s) d (by omega) (by omega) (fun j hj hj'=>ha j hj (by omega))];exact h1)]
  exact ih (by omega) ha hle (by omega) ho h2
 | case2 k h h1=>
  intro hk ha hle hak ho h2
  have e:ordS s a k=(k,false):=by conv=>lhs;unfold ordS;rw[if_pos h,if_neg h1]
  rw[e]at ho;cases ho
 | case3 k h=>
  intro hk ha hle hak ho h2
  have e:ordS s a k=(k,true):=by conv=>lhs;unfold ordS;rw[if_neg h]
  rw[e]at ha hle h2 ⊢
  unfold ordS
  rw[if_neg]
  rintro ⟨h4,h5⟩
  rcases h2 h4 with h6|h6
  ·simp at h6 h5
   exact h ⟨h6.1,by rw[←h6.2];exact h5⟩
  ·rw[h6]at h5;cases h5
theorem Zws {s t:ByteArray}(d:Nat){j kd a b n:Nat}(hj:j<s.size)(h:oneS s j = .word kd a b n)(hA:∀i,j≤i→i<n→bt t (d+i)=bt s i)(hn:d+n≤t.size)
  (hE:d+n<t.size→(n<s.size∧bt t (d+n)=bt s n)∨Zbq (bt t (d+n))=false):oneS t (d+j) = .word kd (d+a) (d+b) (d+n):=by
 have hw:=Zht hj h
 have h0:=hA j (Nat.le_refl _) hw.1
 unfold oneS at h ⊢
 rw[h0]
 split at h
 ·rename_i h1;rw[if_pos h1];injection h with e1 e2 e3 e4;rw[←e1,←e2,←e3,←e4];rfl
 rename_i h1;rw[if_neg h1]
 split at h
 ·rename_i h2;rw[if_pos h2]
  split at h
  ·rename_i h3
   injection h with e1 e2 e3 e4
   simp only[Bool.and_eq_true]at h3
   have ho:ordS t (d+j) (d+j+1)=(d+(ordS s j (j+1)).1,true):=by
    refine ZZ11 d j (j+1) hj ?_ (by rw[e3];omega) (by omega) h3.1 ?_
    ·intro i hi hi';exact hA i hi (by omega)
    ·intro hlt
     rw[e4]at hlt ⊢
     rcases hE hlt with h4|h4
     ·exact Or.inl h4
     ·exact Or.inr (Zn5 h4)
   rw[ho,Zhk (s:=s) d (by omega) (by omega) (fun i hi hi'=>hA i hi (by omega)),if_pos (by simp[h3.2])]
   rw[←e1,←e2,←e3,←e4]
  ·cases h
 rename_i h2;rw[if_neg h2]
 split at h
 ·rename_i h3;rw[if_pos h3]
  split at h
  ·rename_i h4
   injection h with e1 e2 e3 e4
   have hr:runS Zb3 t (d+j+1) 16=d+runS Zb3 s (j+1) 16:=by
    refine Zmq Zb3 d 16 (j+1) (fun i hi hi'=>hA i (by omega) (by omega)) (by omega) (fun _=>Or.inl ⟨h4.2.1,hA _ (by omega) (by omega)⟩)
   rw[hr,if_pos ⟨by omega,by omega,by rw[hA _ (by omega) (by omega)];exact h4.2.2⟩]
   rw[←e1,←e2,←e3,←e4];rfl
  ·cases h
 rename_i h3;rw[if_neg h3]
 split at h
 ·rename_i h4;rw[if_pos h4]
  split at h
  ·cases h
  ·rename_i h5
   injection h with e1 e2 e3 e4
   have hr:runS Zbq t (d+j) 16=d+runS Zbq s j 16:=by
    refine Zmq Zbq d 16 j (fun i hi hi'=>hA i (by omega) (by omega)) (by omega) (fun hlt=>?_)
    rw[e4]at hlt ⊢
    rcases hE hlt with h6|h6
    ·exact Or.inl h6
    ·exact Or.inr (Or.inl h6)
   rw[hr,if_neg]
   ·rw[←e1,←e2,←e3,←e4]
   rintro ⟨h6,h7⟩
   rw[e4]at h6 h7
   rcases hE h6 with h8|h8
   ·exact h5 (by rw[e4];exact ⟨h8.1,by rw[←h8.2];exact h7⟩)
   ·rw[h8]at h7;cases h7
 ·cases h
def Zjj:List Nat→Bool→Option Bool
 | [],cm=>some cm
 | c::l,true=>Zjj l (decide (c≠10))
 | c::l,false=>if c=35 then Zjj l true else if Zfr c then Zjj l false else none
theorem Zke {t:ByteArray}:∀(l:List Nat) (cm cm':Bool) (i:Nat),Zjj l cm=some cm'→(∀k c,l[k]?=some c→bt t (i+k)=c)→i+l.length≤t.size→Zb7 t cm i=Zb7 t cm' (i+l.length)
 | [],cm,cm',i,h,_,_=>by simp[Zjj]at h;rw[h];rfl
 | c::l,cm,cm',i,h,ha,hle=>by
  have h0:bt t i=c:=ha 0 c rfl
  have hi:i<t.size:=by simp at hle;omega
  have hrest:∀k x,l[k]?=some x→bt t (i+1+k)=x:=fun k x hk=>by
   rw[show i+1+k=i+(k+1) by omega];exact ha (k+1) x (by simpa using hk)
  have hl:i+(c::l).length=i+1+l.length:=by simp;omega
  rw[hl]at hle ⊢
  cases cm with
  | true=>
   simp only[Zjj]at h
   rw[←Zke l _ _ (i+1) h hrest hle]
   conv=>lhs;unfold Zb7
   rw[if_pos hi,if_pos rfl,h0]
  | false=>
   simp only[Zjj]at h
   split at h
   ·rename_i h35
    rw[←Zke l _ _ (i+1) h hrest hle]
    conv=>lhs;unfold Zb7
    rw[if_pos hi,if_neg (by simp),if_pos (by rw[h0];exact h35)]
   ·rename_i h35
    split at h
    ·rename_i hb
     rw[←Zke l _ _ (i+1) h hrest hle]
     conv=>lhs;unfold Zb7
     rw[if_pos hi,if_neg (by simp),if_neg (by rw[h0];exact h35),if_pos (by rw[h0];exact hb)]
    ·cases h
def Zks (s:ByteArray):List Nat:=s.data.toList.map (·.toNat)
theorem Zg2 (s:ByteArray):(Zks s).length=s.size:=by simp[Zks]
theorem Zs3 {s:ByteArray}{k c:Nat}(h:(Zks s)[k]?=some c):bt s k=c:=by
 unfold Zks at h
 rw[List.getElem?_map,Option.map_eq_some_iff]at h
 obtain ⟨x,hx,rfl⟩:=h
 rw[Zfa]
 simp[List.getD_eq_getElem?_getD,hx]
theorem ZZ20 {s t:ByteArray}{i:Nat}(h:i<s.size):bt (s++t) i=bt s i:=by
 rw[Zfa,Zfa]
 simp only[ByteArray.data_append,Array.toList_append,List.getD_eq_getElem?_getD]
 rw[List.getElem?_append_left (by simpa using h)]
theorem Zjq {s t:ByteArray}(i:Nat):bt (s++t) (s.size+i)=bt t i:=by
 rw[Zfa,Zfa]
 simp only[ByteArray.data_append,Array.toList_append,List.getD_eq_getElem?_getD]
 rw[List.getElem?_append_right (by simp)]
 simp
def Zpz (U:ByteArray):Prop:=U.size=0∨Zfr (bt U 0)=true∨bt U 0=35
def Zs2 (T:ByteArray)(W:List Wd):Prop:=∀U:ByteArray,(T.size=0∨Zpz U)→allS (T++U) 0=(W++(allS (T++U) T.size).1,(allS (T++U) T.size).2)
def OKW (s:ByteArray)(kd:Nat)(txt:ByteArray):Prop:=0<s.size∧Zfr (bt s 0)=false∧bt s 0≠35∧∃a b,oneS s 0 = .word kd a b s.size∧s.extract a b=txt
theorem Zxq:Zs2 ⟨#[]⟩ []:=by
 intro U _
 rfl
theorem Zs0 (a b c:ByteArray):a++b++c=a++(b++c):=by
 apply Zh6
 simp[ByteArray.data_append]
theorem Zmz {T G s txt:ByteArray}{W:List Wd}{kd:Nat}(h:Zs2 T W)(hw:OKW s kd txt)(hG:Zjj (Zks G) false=some false)(hG0:(G.size=0∧T.size=0)∨Zpz G∧0<G.size) :
  Zs2 (T++G++s) (W++[((kd:Int),txt,((T.size+G.size:Nat):Int))]):=by
 obtain ⟨hs0,hs1,hs2,a,b,h1,h2⟩:=hw
 intro U hU
 have hsz:(T++G++s).size=T.size+G.size+s.size:=by rw[ByteArray.size_append,ByteArray.size_append]
 have hU:Zpz U:=by
  rcases hU with hU|hU
  ·omega
  ·exact hU
 have hX:T++G++s++U=T++(G++(s++U)):=by rw[Zs0,Zs0]
 have hXs:(T++G++s++U).size=T.size+G.size+s.size+U.size:=by rw[ByteArray.size_append,hsz]
 have hU':T.size=0∨Zpz (G++(s++U)):=by
  rcases hG0 with h3|⟨h3,h4⟩
  ·exact Or.inl h3.2
  ·refine Or.inr (Or.inr ?_)
   rw[ZZ20 h4]
   rcases h3 with h3|h3
   ·omega
   ·exact h3
 have h3:=h (G++(s++U)) hU'
 rw[←hX]at h3
 rw[h3]
  -- the bytes
 have bG:∀i,i<G.size→bt (T++G++s++U) (T.size+i)=bt G i:=fun i hi=>by
  rw[hX,Zjq,ZZ20 hi]
 have bs:∀i,i<s.size→bt (T++G++s++U) (T.size+G.size+i)=bt s i:=fun i hi=>by
  rw[hX,show T.size+G.size+i=T.size+(G.size+i) by omega,Zjq,Zjq,ZZ20 hi]
 have bU:bt (T++G++s++U) (T.size+G.size+s.size)=bt U 0:=by
  rw[hX,show T.size+G.size+s.size=T.size+(G.size+(s.size+0)) by omega,Zjq,Zjq,Zjq]
 generalize hXX:T++G++s++U=X at hXs bG bs bU h3 ⊢
 have hk:Zb7 X false T.size=T.size+G.size:=by
  rw[Zke (Zks G) false false T.size hG (fun k c hc=>by
   have hlt:=(List.getElem?_eq_some_iff.1 hc).1
   rw[Zg2]at hlt
   rw[bG k hlt];exact Zs3 hc) (by rw[Zg2];omega),Zg2]
  have e:=bs 0 hs0
  rw[Nat.add_zero]at e
  exact Zm2 (by omega) (by rw[e];exact hs1) (by rw[e];exact hs2)
 have hw':=Zht hs0 h1
 have ho:oneS X (T.size+G.size) = .word kd (T.size+G.size+a) (T.size+G.size+b) (T.size+G.size+s.size):=by
  refine Zws (T.size+G.size) hs0 h1 (fun i _ hi=>bs i hi) (by omega) (fun hlt=>Or.inr ?_)
  rw[bU]
  rcases hU with hU|hU|hU
  ·omega
  ·simp[Zfr,Zbq,Zcd]at hU ⊢;omega
  ·rw[hU];rfl
 rw[Zhn (by rw[hk];omega) (by rw[hk];exact ho),hk,Zhk (s:=s) (T.size+G.size) (by omega) (by omega) (fun j hj hj'=>bs j (by omega)),h2,hsz]
 simp
theorem Zxc {T U:ByteArray}{W:List Wd}{cm:Bool}(h:Zs2 T W)(hU:Zpz U)(hg:Zjj (Zks U) false=some cm):allS (T++U) 0=(W,none):=by
 rw[h U (Or.inr hU)]
 have hsz:(T++U).size=T.size+U.size:=ByteArray.size_append
 have hk:Zb7 (T++U) false T.size=(T++U).size:=by
  rw[Zke (Zks U) false cm T.size hg (fun k c hc=>by rw[Zjq];exact Zs3 hc) (by rw[Zg2];omega),Zg2,Zi7 (by omega)]
  omega
 rw[Zjo (by omega)]
 simp
theorem ZZ142 {s:ByteArray}(h:Zfi s):OKW s 1 s:=by
 refine ⟨h.1,?_,?_,0,s.size,(ZZ99 h).2,Zjl s⟩
 ·have:=h.2.2.1;simp[Zcd,Zfr]at *;omega
 ·have:=h.2.2.1;simp[Zcd]at *;omega
theorem ZZ226 {s:ByteArray}(h:Zec s):OKW (quo s) 2 s:=by
 obtain ⟨h1,h2,h3⟩:=ZZ115.1 h
 refine ⟨by rw[Zku];omega,by rw[quo_0];rfl,by rw[quo_0];omega,1,s.size+1,?_,Ztg s⟩
 rw[ZZ217,h3,if_pos ⟨by omega,by omega,ZZ43 s⟩,Zku]
def isW (o:One)(kd a b n:Nat):Bool:=match o with
 | .word k x y z=>k == kd && x == a && y == b && z == n
 | .bad _=>false
theorem ZZ369 {o:One}{kd a b n:Nat}(h:isW o kd a b n=true):o = .word kd a b n:=by
 cases o with
 | bad k=>cases h
 | word k x y z=>simp[isW]at h;rw[h.1.1.1,h.1.1.2,h.1.2,h.2]
def okwB (s:ByteArray)(kd:Nat):Bool:=decide (0<s.size) && !(Zfr (bt s 0)) && decide (bt s 0≠35) && isW (oneS s 0) kd 0 s.size s.size
theorem ZZ292 {s:ByteArray}{kd:Nat}(h:okwB s kd=true):OKW s kd s:=by
 simp[okwB]at h
 exact ⟨h.1.1.1,h.1.1.2,h.1.2,0,s.size,ZZ369 h.2,Zjl s⟩
end Go.Px.Scan
namespace Go.Px.Scan
open Go.Px
def wr (w:Wd):ByteArray:=if w.1=2 then quo w.2.1 else w.2.1
end Go.Px.Scan
namespace Go.Px.Spec
open Go.Px Go.Px.Scan
theorem pos_at {l:List ByteArray}(hd:l.Nodup){i:Nat}(hi:i<l.length):posN l l[i]=i:=by
 have hm:l[i]∈l:=List.getElem_mem hi
 obtain ⟨h3,h4⟩:=Zc2 hm
 rw[List.getElem?_eq_getElem h3]at h4
 injection h4 with h4
 exact (List.getElem_inj hd).1 h4
end Go.Px.Spec
namespace Go.Proofs.YtckbgeedlobfaaaGreatDoor
open Go.Px Go.Px.Scan Go.Px.Spec Go.RowKit
end Go.Proofs.YtckbgeedlobfaaaGreatDoor
namespace Go.Proofs.YtckbgeedlobfaaaGreatDoor
open Go.Px Go.Px.Scan Go.Px.Spec Go.RowKit
theorem Zto {s:ByteArray}(h:¬8192<s.size):Zah s=allS s 0:=by unfold Zah;rw[if_neg h]
end Go.Proofs.YtckbgeedlobfaaaGreatDoor
namespace Go.Proofs.YtckbgeedlobfaaaGreatDoor
open Go.Px Go.Px.Scan Go.Px.Spec Go.RowKit
end Go.Proofs.YtckbgeedlobfaaaGreatDoor
namespace Go.Px.Spec
open Go.Px Go.Px.Scan
def erW (w:Wd):Wd:=(w.1,w.2.1,0)
def erR (r:RowS):RowS:={r with words:=r.words.map erW }
def erM (m:Mc):Mc:={m with rows:=m.rows.map erR }
theorem Zj3 {α β:Type}(l:List α)(g:α→β)(f:α→α)(f':β→β)(h:∀x,g (f x)=f' (g x)):(Zx l f).map g=Zx (l.map g) f':=by
 rcases List.eq_nil_or_concat l with e|⟨a,x,e⟩
 ·rw[e];rfl
 ·have e':l=a++[x]:=by simpa using e
  subst e'
  rw[Zb8,List.map_append,List.map_append,List.map_singleton,List.map_singleton,Zb8,h]
theorem Zb1 {α β:Type}{p:Prop}[Decidable p](f:α→β)(a b:Option α):(if p then a else b).map f=if p then a.map f else b.map f:=by split<;>rfl
theorem Zzw (m:Mc)(w:Wd):Zbv (erM m) (erW w)=(Zbv m w).map erM:=by
 have hb:Zg5 (erM m) (erW w)=(Zg5 m w).map erM:=by unfold Zg5;rw[Zb1];rfl
 have hh:Zl4 (erM m) (erW w)=(Zl4 m w).map erM:=by
  unfold Zl4
  simp only[erW]
  cases Zfs w.2.1 with
  | some d=>rfl
  | none=>simp only;rw[Zb1];rfl
 have hl:Zob (erM m) w.2.1=(Zob m w.2.1).map erM:=by unfold Zob;rw[Zb1];rfl
 have ha:Zcj (erM m)=erM (Zcj m):=by simp[Zcj,erM,erR]
 have hm:∀(f f':RowS→RowS),(∀r,erR (f r)=f' (erR r))→Zx (m.rows.map erR) f'=(Zx m.rows f).map erR:=fun f f' hf=>(Zj3 _ _ _ _ hf).symm
 have hw:Ze6 (erM m) (erW w)=(Ze6 m w).map erM:=by
  have b3:=hm (fun r=>{r with words:=r.words++[w] }) (fun r=>{r with words:=r.words++[erW w] }) fun r=>by simp[erR]
  have b4:=hm (fun r=>{r with said:=1 }) (fun r=>{r with said:=1 }) fun r=>rfl
  have b5:=hm (fun r=>{r with said:=2 }) (fun r=>{r with said:=2 }) fun r=>rfl
  unfold Ze6
  show (if isSg w sBar=true then some (Zcj (erM m)) else if isSg w Zge=true then some (erM {m with ph:=9 }) else
   if m.ph=6∧isTB w=true then some {m with rows:=Zx (m.rows.map erR) fun r=>{r with words:=r.words++[erW w] } } else
   if m.ph=6∧isOr w Zk4=true then some {m with ph:=7,rows:=Zx (m.rows.map erR) fun r=>{r with said:=1 } } else
   if m.ph=6∧isOr w Zns=true then some {m with ph:=8,rows:=Zx (m.rows.map erR) fun r=>{r with said:=2 } } else none)=_
  rw[b3,b4,b5,ha,Zb1,Zb1,Zb1,Zb1,Zb1]
  rfl
 have b7:=hm (fun r=>{r with by_:=w.2.1 }) (fun r=>{r with by_:=w.2.1 }) fun r=>rfl
 unfold Zbv
 rw[show (erM m).ph=m.ph from rfl]
 split
 ·rw[Zb1,←hb,←hh];rfl
 ·rw[Zb1,←hl];rfl
 ·rw[Zb1,Zb1,←hl];rfl
 ·rw[Zb1];rfl
 ·rw[Zb1];rfl
 ·rw[Zb1,Option.map_some,←ha];rfl
 ·rw[Zb1]
  show (if isTB w=true then some {m with ph:=8,rows:=Zx (m.rows.map erR) fun r=>{r with by_:=w.2.1 } } else none)=_
  rw[b7];rfl
 ·exact hb
 ·exact hw
theorem er_go (l:List Wd):∀m:Mc,goM (erM m) (l.map erW)=(erM (goM m l).1,(goM m l).2.map erW):=by
 induction l with
 | nil=>exact fun m=>rfl
 | cons w l ih=>
  intro m
  rw[List.map_cons]
  cases hs:Zbv m w with
  | none=>rw[Zgw hs,Zgw (by rw[Zzw,hs];rfl)];rfl
  | some m1=>rw[Zcc hs,Zcc (m':=erM m1) (by rw[Zzw,hs];rfl),ih]
theorem ZZ181 (m:Mc):Zet (erM m)=Zet m:=rfl
end Go.Px.Spec
namespace Go.Proofs.YtckbgeedlobfaaaGreatDoor
open Go.Px Go.Px.Scan Go.Px.Spec Go.RowKit
attribute [-go_sem] Builtin.append_
end Go.Proofs.YtckbgeedlobfaaaGreatDoor
namespace Go.Proofs.YtckbgeedlobfaaaGreatDoor
open Go.Px Go.Px.Scan Go.Px.Spec Go.RowKit
attribute [-go_sem] Builtin.append_
end Go.Proofs.YtckbgeedlobfaaaGreatDoor
namespace Go.Proofs.YtckbgeedlobfaaaGreatDoor
open Go.Px Go.Px.Scan Go.Px.Spec Go.RowKit
attribute [-go_sem] Builtin.append_
end Go.Proofs.YtckbgeedlobfaaaGreatDoor
namespace Go.Proofs.YtckbgeedlobfaaaGreatDoor
open Go.Px Go.Px.Scan Go.Px.Spec Go.RowKit
attribute [-go_sem] Builtin.append_
end Go.Proofs.YtckbgeedlobfaaaGreatDoor
namespace Go.Proofs.YtckbgeedlobfaaaGreatDoor
open Go.Px Go.Px.Scan Go.Px.Spec Go.RowKit
attribute [-go_sem] Builtin.append_
end Go.Proofs.YtckbgeedlobfaaaGreatDoor
namespace Go.Px.Scan
open Go.Px
end Go.Px.Scan
namespace Go.Proofs.YtckbgeedlobfaaaGreatDoor
open Go.Px Go.Px.Scan Go.Px.Spec Go.RowKit
attribute [-go_sem] Builtin.append_
theorem ZZ172 {x:Wd}(h:WP x):∃kd:Nat,x.1=(kd:Int)∧OKW (wr x) kd x.2.1∧(wr x).size≤18:=by
 obtain ⟨h1,h2,h3,h4,h5,_⟩:=h
 have hno:∀n:Int,x.1=n→n≠2→wr x=x.2.1:=fun n hn h2=>by unfold wr;rw[if_neg (by omega)]
 rcases h5 with h5|h5|h5|h5
 ·rw[hno 1 h5 (by omega)]
  exact ⟨1,h5,ZZ142 (h1 h5),by have:=(h1 h5).2.1;omega⟩
 ·have hw:wr x=quo x.2.1:=by unfold wr;rw[if_pos h5]
  rw[hw]
  exact ⟨2,h5,ZZ226 (h2 h5),by rw[Zku];have:=(h2 h5).2.1;omega⟩
 ·rw[hno 3 h5 (by omega)]
  have:=h3 h5
  unfold whole at this
  rw[List.any_eq_true]at this
  obtain ⟨o,ho,e⟩:=this
  have e':o=x.2.1:=toList_inj.1 (by simpa using e:x.2.1.toList=o.toList).symm
  rw[←e']
  have hall:∀o∈Zd9,okwB o 3=true∧o.size≤18:=by decide +kernel
  have:=hall o ho
  exact ⟨3,h5,ZZ292 this.1,this.2⟩
 ·rw[hno 4 h5 (by omega)]
  obtain ⟨e1,e2⟩:=h4 h5
  refine ⟨4,h5,⟨by omega,?_,?_,0,x.2.1.size,?_,Zjl _⟩,by omega⟩
  ·simp[Zot,Zfr]at *;omega
  ·simp[Zot]at e2;omega
  ·unfold oneS;rw[if_pos e2,e1]
end Go.Proofs.YtckbgeedlobfaaaGreatDoor
