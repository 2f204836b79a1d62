/-
  Texts of this claim: Sh7, Sh8, La1, Gm1r, Gr1, Gr2, Gr3.
-/
import Derived.Test.YtckbgeedlobfaaaGreatDoorY19
import Derived.Test.YtckbgeedlobfaaaGreatDoorY10
import Derived.Test.YtckbgeedlobfaaaGreatDoorY17
import Derived.Test.YtckbgeedlobfaaaGreatDoorY12
import Derived.Test.YtckbgeedlobfaaaGreatDoorY08
import Derived.Test.YtckbgeedlobfaaaGreatDoorY11
import Derived.Test.YtckbgeedlobfaaaGreatDoorY07
set_option maxHeartbeats 1000000
set_option linter.unusedSimpArgs false
set_option linter.unusedVariables false
set_option maxRecDepth 100000
namespace Go.Px
open Go.RowKit
theorem Zxo {α:Type}{r:Rep α}{w:World}{B:Nat}{A:Option Addr}{n c k:Nat}{l:List α}(h:(Zo r).at1 w B (.slice A n c) l)(hk:k≤l.length):(Zo r).at1 w B (.slice A k c) (l.take k):=by
 obtain ⟨A',c',hv,h1,h2,h3,h4⟩:=h
 injection hv with hv _
 injection hv with hA hn hc
 subst hA;subst hc
 have hlen:(l.take k).length=k:=by rw[List.length_take];omega
 refine ⟨A,c,by rw[hlen],by rw[hlen];omega,h2,trivial,fun hp=>?_⟩
 rw[hlen]at hp
 obtain ⟨b,o,hA,hb,hc⟩:=h4 (by omega)
 refine ⟨b,o,hA,hb,fun i x hi=>hc i x ?_⟩
 rw[List.getElem?_take]at hi
 split at hi
 ·exact hi
 ·cases hi
theorem Zv5 {w:World}{B:Nat}{A:Option Addr}{c k:Nat}{l:List Int}(h:(Zo rInt).at1 w B (.slice A l.length c) l)(hk:k≤l.length):(Zo rInt).at1 w B (.slice (if c=k then A else A.map fun x=>x.add k) (l.length-k) (c-k)) (l.drop k):=by
 cases A with
 | none=>
  have:=Go.Px.Scan.slice_nil h
  subst this
  have hk0:k=0:=by simpa using hk
  subst hk0
  simpa using h
 | some a=>
  by_cases h0:0<l.length
  ·obtain ⟨b,o,e,_⟩:=Go.Px.ints_at h h0
   injection e with e;subst e
   have:=Go.Px.Scan.slice_from (o':=o+k) h hk (by simp[rInt])
   rw[Option.map_some,Addr.add_lit]
   exact this
  ·have hl:l=[]:=List.length_eq_zero_iff.1 (by omega)
   subst hl
   have hk0:k=0:=by simpa using hk
   subst hk0
   obtain ⟨A',c',hv,h1,h2,h3,h4⟩:=h
   injection hv with hv;injection hv with _ _ hc;subst hc
   exact ⟨_,c,rfl,by simp,h2,trivial,fun h=>by simp at h⟩
end Go.Px
namespace Go.Proofs.YtckbgeedlobfaaaGreatDoor
open Go.Px Go.Px.Scan Go.RowKit
attribute [-go_sem] Builtin.append_
attribute [-go_sem] Zcl.b3 Zcl.b4 Zcl.b5 Zcl.b7
section
variable {w:World} {B:Nat} {vg:Value} {g:Gr}
theorem ZZ19 (h:Zcz.atN w B vg g)(hB:B≤w.heap.size){k d:Int}(hk:Zz k)(hd:Zz d)(hsm:∀p∈g.prods,p.2.1.length≤1000000000000) :
  Ct Tryz.prog Zcl.id #[vg,.int .i64 k,.int .i64 d] w fun v w'=>v = .tuple #[.string (BA (if Zg1 g k d then ZZ57 g (g.prods.getD k.toNat (0,[],0)) d else [])),.int .i64 (if Zg1 g k d then 0 else 1)]∧Chg noB w w':=by
 refine Zcl.ct fun R hR=>?_
 obtain ⟨A1,c1,A2,c2,A3,c3,A4,c4,rfl,h1,h2,h3,hst,h4,k1,k2,k3,k4⟩:=(Zbl h).ex
 have s0:=(St.refl noB w).alloc #[.slice A1 g.terms.length c1,.slice A2 g.nons.length c2,.slice A3 g.levels.length c3,.int .i64 g.start,.slice A4 g.prods.length c4] 27
 unfold Zcl.run
 simp -dsimp[go_sem]
 have hg1:Zcz.atN _ B _ g:=Za2 h (s0.chg.below hB fun _ _=>id)
 have hB1:=s0.chg.size
 generalize w.heap.size=q at s0 ⊢
 generalize w.alloc (.cells #[.slice A1 g.terms.length c1,.slice A2 g.nons.length c2,.slice A3 g.levels.length c3,.int .i64 g.start,.slice A4 g.prods.length c4] 27)=w1 at s0 hg1 hB1 ⊢
 refine Zf (Zyx hg1 (by have:=s0.chg.size;omega)) ?_
 rintro _ w2 ⟨b,vs,rfl,hvs,hs2⟩
 have hvs':vs=[.slice A1 g.terms.length c1,.slice A2 g.nons.length c2,.slice A3 g.levels.length c3,.int .i64 g.start,.slice A4 g.prods.length c4]:=by
  injection hvs with hvs
  have:=congrArg Array.toList hvs;simpa using this.symm
 subst hvs'
 have s2:=s0.seq hs2
 have hno:∀(x1 x2:Value) w',Chg noB w w'→Zg1 g k d=false→Zcl.b7 R x1 x2 (.pointer (some ⟨q,0,none⟩)) (.pointer (some ⟨b,0,none⟩)) (.bool true) w':=by
  intro x1 x2 w' hc hf
  unfold Zcl.b7
  simp -dsimp[go_sem]
  refine hR _ _ ⟨?_,hc⟩
  rw[hf];rfl
 have y2:=s2.box 0 rfl
 simp[Zp]at y2
 cases he:Zeh g with
 | false=>
  simp -dsimp[go_sem]
  exact hno _ _ _ s2.chg (by unfold Zg1;rw[he];rfl)
 | true=>
  have hbd:=Zit (Zhb.1 he)
  simp -dsimp[go_sem]
  refine Za (fun p=>?_) (fun p=>?_)<;>simp at p
  ·exact hno _ _ _ s2.chg (by unfold Zg1;rw[he];simp;omega)
  simp -dsimp[go_sem,y2]
  refine Za (fun p2=>?_) (fun p2=>?_)<;>simp at p2
  ·exact hno _ _ _ s2.chg (by unfold Zg1;rw[he];simp;omega)
  obtain ⟨j,rfl⟩:∃j:Nat,k=(j:Int):=⟨k.toNat,by omega⟩
  have hj:j<g.prods.length:=by omega
  have h4':=Rep.below h4 (s2.chg.below hB fun _ _=>id)
  obtain ⟨bp,op,vr,ep,hbp,x1,x2,x3,hr,z1,z3⟩:=Zev h4' hj
  subst ep
  obtain ⟨Ar,cr,rfl,hr1,hr2,_⟩:=Zay hr
  simp -dsimp[go_sem,y2,hj,x2]
  generalize hp:g.prods[j]=p at x1 x2 x3 hr z1 z3 hr1 hr2 ⊢
  have hgetD:g.prods.getD ((j:Int)).toNat (0,[],0)=p:=by simp[hj,hp]
  have hpm:p∈g.prods:=by rw[←hp];exact List.getElem_mem hj
  have hln:=hsm p hpm
  unfold Zcl.b7
  refine Za (fun p3=>?_) (fun p3=>?_)<;>simp at p3
  ·refine hR _ _ ⟨?_,s2.chg⟩
   have:Zg1 g j d=false:=by unfold Zg1;rw[he,hgetD];simp;omega
   rw[this];rfl
  have hok:Zg1 g j d=true:=by unfold Zg1;rw[he,hgetD];simp;omega
  unfold Zcl.b3
  obtain ⟨m,hm,hmd⟩:∃m:Nat,(if d<0 then (0:Int) else d)=(m:Int)∧m=d.toNat:=⟨d.toNat,by split<;>omega,rfl⟩
  have hml:m≤p.2.1.length:=by omega
  have hm0:(0:Int)≤(m:Int):=by omega
  have hm1:(m:Int)≤(cr:Int):=by omega
  have hm2:(m:Int)≤(p.2.1.length:Int):=by omega
  have s3:=(s2.alloc #[.int .i64 p.1,.slice Ar p.2.1.length cr,.int .i64 p.2.2] 50).old (Chg.refl noB _).drew
  simp -dsimp[go_sem,y2,hj,hp,x1,x2,x3,hm,hm0,hm1]
  have hc23:Chg noB w2 ((w2.alloc (.cells #[.int .i64 p.1,.slice Ar p.2.1.length cr,.int .i64 p.2.2] 50)).drew):=((Chg.refl _ _).alloc _).drew
  generalize w2.heap.size=pb at s3 ⊢
  generalize (w2.alloc (.cells #[.int .i64 p.1,.slice Ar p.2.1.length cr,.int .i64 p.2.2] 50)).drew=w3 at s3 hc23 ⊢
  have y3:=s3.box 2 rfl
  simp[Zp]at y3
  have hsyl:=Zmb hbd p.1
  have q1:¬9223372036854775807<(symT g p.1).length+3:=by omega
  have hn1:=Zdf hbd (p.2.1.take m)
  have hn2:=Zdf hbd (p.2.1.drop m)
  have htl:(p.2.1.take m).length≤p.2.1.length:=by simp;omega
  have hdl:(p.2.1.drop m).length≤p.2.1.length:=by simp
  have pgAt:∀{w':World} {L:List Ch} {l:Txt} {F':Nat→Prop} {w1':World},St noB w w1' L→Chg noB w1' w'→(pgG b [.slice A1 g.terms.length c1,.slice A2 g.nons.length c2,.slice A3 g.levels.length c3,.int .i64 g.start,.slice (some ⟨bp,op,none⟩) g.prods.length c4] l).ok w' F'→(∀i,F' i→i<w1'.heap.size∧(i<w.heap.size→noB i)) →
    Pg w' F' b [.slice A1 g.terms.length c1,.slice A2 g.nons.length c2,.slice A3 g.levels.length c3,.int .i64 g.start,.slice (some ⟨bp,op,none⟩) g.prods.length c4] B g l:=by
   intro w' L l F' w1' hs hc ho hF
   refine ⟨ho,Za2 h ((hs.chg.trans hc).below hB fun _ _=>id),fun i hi=>?_,by have:=(hs.chg.trans hc).size;omega,hbd⟩
   by_cases e:i<w.heap.size
   ·exact absurd ((hF i hi).2 e) id
   ·omega
  have hrw:(Zo rInt).at1 w B (.slice Ar p.2.1.length cr) p.2.1:=(Zo rInt).keep hr (Nat.le_refl _) fun i hi=>(s2.chg.block i (by omega) id).symm
  have rdAt:∀{w' w1':World} {F':Nat→Prop} {A:Option Addr} {n c:Nat} {l:List Int},(Zo rInt).at1 w B (.slice A n c) l→Chg noB w w1'→Chg F' w1' w'→(∀i,F' i→i<w.heap.size→noB i)→(Zo rInt).at1 w' B (.slice A n c) l:=by
   intro w' w1' F' A n c l hr hc hc' hF
   have hch:Chg F' w w':=(hc.mono fun _ _ (e:noB _)=>e.elim).trans' hc' fun _ _ e=>e
   exact Rep.below hr (hch.below hB fun i hi e=>hF i e (by omega))
  have hfin:∀(w4:World),St noB w w4 [boxC q 27 [.slice A1 g.terms.length c1,.slice A2 g.nons.length c2,.slice A3 g.levels.length c3,.int .i64 g.start,.slice (some ⟨bp,op,none⟩) g.prods.length c4],pgG b [.slice A1 g.terms.length c1,.slice A2 g.nons.length c2,.slice A3 g.levels.length c3,.int .i64 g.start,.slice (some ⟨bp,op,none⟩) g.prods.length c4] (symT g p.1++[32,45,62]++Zcm g (p.2.1.take m)++(if 0≤d then Zbk [[46]] else [])),boxC pb 50 [.int .i64 p.1,.slice Ar p.2.1.length cr,.int .i64 p.2.2]] →
    Zcl.b5 R (.int .i64 d) (.pointer (some ⟨b,0,none⟩)) (.pointer (some ⟨pb,0,none⟩)) w4:=by
   intro w4 s4
   have y4:=s4.box 2 rfl
   simp[Zp]at y4
   unfold Zcl.b5
   simp -dsimp[go_sem,y4,hm,hm0,hm1,hm2]
   refine Zde s4 1 rfl (fun F' ho hF=>Zqu (pgAt s4 (Chg.refl _ _) ho hF) (ws:=p.2.1.drop m) (fun w' hc=>⟨B,rdAt (Zv5 hrw hml) s4.chg hc fun i hi=>(hF i hi).2⟩) (fun s hs=>(hbd.right p hpm s (List.mem_of_mem_drop hs)).1) ?_) ?_
   ·simp only[List.length_append]
    have:(if 0≤d then Zbk [[46]] else []).length≤2:=by split<;>simp[Zbk]
    simp at hn1 hn2 ⊢
    unfold Zr
    omega
   intro F5 v5 w5 hd5 hs5
   have s5:=hs5 _ hd5
   simp -dsimp[go_sem]
   refine Zde s5 1 rfl (fun F' ho hF=>Zrb ho) ?_
   rintro F6 v6 w6 ⟨rfl,hd6⟩ hs6
   have s6:=hs6 _ hd6
   simp -dsimp[go_sem]
   refine hR _ _ ⟨?_,s6.chg⟩
   rw[hok,hgetD,hmd];simp[ZZ57]
  have hline:∀(w4:World) (X:Pan),St noB w w4 [boxC q 27 [.slice A1 g.terms.length c1,.slice A2 g.nons.length c2,.slice A3 g.levels.length c3,.int .i64 g.start,.slice (some ⟨bp,op,none⟩) g.prods.length c4],pgG b [.slice A1 g.terms.length c1,.slice A2 g.nons.length c2,.slice A3 g.levels.length c3,.int .i64 g.start,.slice (some ⟨bp,op,none⟩) g.prods.length c4] [],boxC pb 50 [.int .i64 p.1,.slice Ar p.2.1.length cr,.int .i64 p.2.2]]→Chg noB w2 w4 →
    CALL Tryz.prog X Za7.id #[.pointer (some ⟨b,0,none⟩),.string (BA (symT g p.1)++⟨#[32,45,62]⟩),.slice Ar m cr] w4 fun v w5=>Zcl.b4 R (.int .i64 d) (.pointer (some ⟨b,0,none⟩)) (.pointer (some ⟨pb,0,none⟩)) w5:=by
   intro w4 X s4 hc24
   refine Zde s4 1 rfl (fun F' ho hF=>Zqp (pgAt s4 (Chg.refl _ _) ho hF) _ (ws:=p.2.1.take m) (fun w' hc=>⟨B,rdAt (Zxo hrw hml) s4.chg hc fun i hi=>(hF i hi).2⟩) (fun s hs=>(hbd.right p hpm s (List.mem_of_mem_take hs)).1) ?_) ?_
   ·have:(BA (symT g p.1)++(⟨#[32,45,62]⟩:ByteArray)).size=(symT g p.1).length+3:=by rw[ByteArray.size_append,Zhf];rfl
    rw[this];simp;unfold Zr;simp at hn1;omega
   intro F5 v5 w5 hd5 hs5
   have s5:=hs5 _ hd5
   rw[Znv,Zsg]at s5
   unfold Zcl.b4
   simp -dsimp[go_sem]
   refine Za (fun p4=>?_) (fun p4=>?_)<;>simp at p4
   ·have hc5:Chg noB w5 (w5.alloc (.cells #[.string ⟨#[46]⟩] 9)):=(Chg.refl _ _).alloc _
    simp -dsimp[go_sem]
    refine Zgg s5 hc5 1 rfl (fun F' ho hF=>Zkn (pgAt s5 hc5 ho hF) (fun w' hc=>⟨_,Zod (fun i hi=>(hF i hi).1) (by simp[ByteArray.size,maxLen]) hc⟩) ?_) ?_
    ·simp[Zbk,tx];unfold Zr;simp at hn1;omega
    intro F6 v6 w6 hd6 hs6
    have s6:=hs6 _ hd6
    refine hfin _ ?_
    rw[if_pos p4]
    exact s6
   ·refine hfin _ ?_
    rw[if_neg (by omega),List.append_nil]
    exact s5
  constructor
  ·obtain ⟨F4,o4,hF4⟩:=s3.get (k:=1) rfl
   refine Zf (Zig (pgAt s3 (Chg.refl _ _) o4 hF4) (hbd.left p hpm).1) ?_
   rintro _ _ ⟨rfl,rfl⟩
   simp -dsimp[go_sem,y3,Zhf,q1,hm,hm0,hm1]
   exact hline _ _ s3 hc23
  ·obtain ⟨F4,o4,hF4⟩:=s3.get (k:=1) rfl
   refine Zf (Zig (pgAt s3 (Chg.refl _ _) o4 hF4) (hbd.left p hpm).1) ?_
   rintro _ _ ⟨rfl,rfl⟩
   simp -dsimp[go_sem,y3,Zhf,q1,hm,hm0,hm1]
   exact hline _ _ s3 hc23
noncomputable def Zlw (g:Gr)(k d:Int):Bool:=decide (0≤d) && Zg1 g k d
theorem ZZ243 (h:Zcz.atN w B vg g)(hB:B≤w.heap.size){k d:Int}(hk:Zz k)(hd:Zz d)(hsm:∀p∈g.prods,p.2.1.length≤1000000000000) :
  Ct Tryz.prog Zgz.id #[vg,.agg #[.int .i64 k,.int .i64 d]] w fun v w'=>v = .tuple #[.string (BA (if Zlw g k d then ZZ57 g (g.prods.getD k.toNat (0,[],0)) d else [])),.int .i64 (if Zlw g k d then 0 else 1)]∧Chg noB w w':=by
 refine Zgz.ct fun R hR=>?_
 obtain ⟨A1,c1,A2,c2,A3,c3,A4,c4,rfl,h1,h2,h3,hst,h4,k1,k2,k3,k4⟩:=(Zbl h).ex
 have s0:=((St.refl noB w).alloc #[.slice A1 g.terms.length c1,.slice A2 g.nons.length c2,.slice A3 g.levels.length c3,.int .i64 g.start,.slice A4 g.prods.length c4] 27).alloc #[.int .i64 k,.int .i64 d] 67
 unfold Zgz.run
 simp -dsimp[go_sem]
 have hc:=s0.chg
 refine Za (fun p=>?_) (fun p=>?_)<;>simp at p
 ·refine hR _ _ ⟨?_,hc⟩
  have:Zlw g k d=false:=by unfold Zlw;simp;omega
  rw[this];rfl
 ·simp -dsimp[go_sem]
  refine Zf (ZZ19 (Za2 h (hc.below hB fun _ _=>id)) (by have:=hc.size;omega) hk hd hsm) ?_
  rintro _ w3 ⟨rfl,hc3⟩
  simp -dsimp[go_sem]
  refine hR _ _ ⟨?_,hc.trans hc3⟩
  have:Zlw g k d=Zg1 g k d:=by unfold Zlw;rw[decide_eq_true p,Bool.true_and]
  rw[this];simp
end
end Go.Proofs.YtckbgeedlobfaaaGreatDoor
namespace Go.Proofs.YtckbgeedlobfaaaGreatDoor
open Go.Px Go.Px.Scan Go.RowKit
attribute [-go_sem] Builtin.append_
attribute [-go_sem] Zt.b11 Zt.b14 Zt.b3 Zt.b6 Zt.b9 Zt.b10 Zt.b16 Zt.b19 Zt.b5 Zt.b18 Zt.b9_5
theorem ZZ304 (a b c:ByteArray)(w:World):(Instr.buildSlice 23 3 #[(0,.string a),(1,.string b),(2,.string c)]).run Tryz.prog w = .ok (.slice (some ⟨w.heap.size,0,none⟩) 3 3) (w.alloc (.cells #[.string a,.string b,.string c] 9)):=by
 simp[go_sem,Zlt]
attribute [go_sem ↓] ZZ304
theorem ZZ97 {w1 w:World}{a:Option Addr}{n c:Nat}{l:List Int}{X:Nat→Prop}(h:St noB w1 w [rowC 3 1 a n c (l.map (.int .i64 ·))])(hl:∀x∈l,Zz x)(hX:∀i,X i→i<w1.heap.size){w':World}(hc:Chg X w w'):∃B',(Zo rInt).at1 w' B' (.slice a n c) l:=by
 obtain ⟨F,ho,hF⟩:=h.get (k:=0) rfl
 have hk:=(rowC 3 1 a n c (l.map (.int .i64 ·))).keep ho hc (fun i hi hF' hX'=>(hF i hF').2 (hX i hX')) fun _ _ e=>e
 have hn:n=l.length:=by have:=hk.1.1;simpa using this.symm
 subst hn
 exact ⟨w'.heap.size,Zdh (r:=rInt) (enc:=fun x=>[Value.int .i64 x]) (l:=l) (B:=w'.heap.size) (w:=w') (base:=0) (e:=3) (v := .slice a l.length c) (by
  rw[show l.flatMap (fun x=>[Value.int .i64 x])=l.map (.int .i64 ·) by rw[Zfu]]
  exact hk.1) (fun _ _=>rfl) (fun x hx=>⟨rfl,hl x hx⟩) (Nat.le_refl _)⟩
section
variable {w:World} {B:Nat} {g:Gr} {A1 A2 A3 A4:Option Addr} {c1 c2 c3 c4:Nat}
abbrev gcs (g:Gr)(A1:Option Addr)(c1:Nat)(A2:Option Addr)(c2:Nat)(A3:Option Addr)(c3:Nat)(A4:Option Addr)(c4:Nat):List Value:=[.slice A1 g.terms.length c1,.slice A2 g.nons.length c2,.slice A3 g.levels.length c3,.int .i64 g.start,.slice A4 g.prods.length c4]
theorem ZZ18 (h:Zcz.atN w B (.agg (gcs g A1 c1 A2 c2 A3 c3 A4 c4).toArray) g):(Zo Zl1).at1 w B (.slice A1 g.terms.length c1) g.terms∧(Zo rStr).at1 w B (.slice A2 g.nons.length c2) g.nons∧(Zo rInt).at1 w B (.slice A3 g.levels.length c3) g.levels∧Zz g.start∧(Zo rPr).at1 w B (.slice A4 g.prods.length c4) g.prods:=by
 obtain ⟨a1,d1,a2,d2,a3,d3,a4,d4,hv,h1,h2,h3,h4,h5,_⟩:=(Zbl h).ex
 injection hv with hv
 have hv:=congrArg Array.toList hv
 simp at hv
 obtain ⟨⟨rfl,rfl⟩,⟨rfl,rfl⟩,⟨rfl,rfl⟩,rfl,rfl⟩:=hv
 exact ⟨h1,h2,h3,h4,h5⟩
structure TxS (w:World)(B q b:Nat)(vs:List Value)(g:Gr)(w':World)(t:Txt):Prop where
 st:St noB w w' [boxC q 27 vs,pgG b vs t]
 rd:Zcz.atN w B (.agg vs.toArray) g
 hB:B≤w.heap.size
 bd:Zie g
theorem TxS.pg {q b:Nat}{vs:List Value}{w1 w':World}{t:Txt}(h:TxS w B q b vs g w1 t)(hc:Chg noB w1 w'){F:Nat→Prop}(ho:(pgG b vs t).ok w' F)(hF:∀i,F i→i<w1.heap.size∧(i<w.heap.size→noB i)):Pg w' F b vs B g t:=by
 have hc2:=h.st.chg.trans hc
 refine ⟨ho,Za2 h.rd (hc2.below h.hB fun _ _=>id),fun i hi=>?_,by have:=hc2.size;have:=h.hB;omega,h.bd⟩
 by_cases e:i<w.heap.size
 ·exact absurd ((hF i hi).2 e) id
 ·have:=h.hB;omega
theorem TxS.next {q b:Nat}{vs:List Value}{w1 w':World}{t t':Txt}(h:TxS w B q b vs g w1 t)(hs:St noB w w' [boxC q 27 vs,pgG b vs t']):TxS w B q b vs g w' t':=⟨hs,h.rd,h.hB,h.bd⟩
theorem Zky {X:Pan}{q b:Nat}{vs:List Value}{w1:World}{t:Txt}{K:Value→World→Prop}(h:TxS w B q b vs g w1 t)(hl:t.length+3≤Zr)(hK:∀v w',TxS w B q b vs g w' (t++Zkk)→K v w') :
  CALL Tryz.prog X Zan.id #[.pointer (some ⟨b,0,none⟩),.slice (some ⟨w1.heap.size,0,none⟩) 1 1] (w1.alloc (.cells #[.string ⟨#[59,10]⟩] 9)) K:=by
 have hc5:Chg noB w1 (w1.alloc (.cells #[.string ⟨#[59,10]⟩] 9)):=(Chg.refl _ _).alloc _
 refine Zgg h.st hc5 1 rfl (fun F' ho hF=>Zkn (h.pg hc5 ho hF) (fun w' hc=>⟨_,Zod (fun i hi=>(hF i hi).1) (by simp[ByteArray.size,maxLen]) hc⟩) (by simp[Zbk,tx];omega)) ?_
 intro F6 v6 w6 hd6 hs6
 refine hK _ _ (h.next ?_)
 have:=hs6 _ hd6
 exact this
theorem Zno {X:Pan}{q b:Nat}{vs:List Value}{w1 w2:World}{t:Txt}{K:Value→World→Prop}{s:ByteArray}{a:Option Addr}{c:Nat}{f:Int→Bool}(h:TxS w B q b vs g w1 t)(hs:St noB w1 w2 [rowC 3 1 a (Za3 g f).length c ((Za3 g f).map (.int .i64 ·))])(hl:t.length+s.size+2000≤Zr)(hK:∀v w',TxS w B q b vs g w' (t++tx s++Zcm g (Za3 g f))→K v w') :
  CALL Tryz.prog X Za7.id #[.pointer (some ⟨b,0,none⟩),.string s,.slice a (Za3 g f).length c] w2 K:=by
 have hb:=h.bd.t1
 have h2:=Zg0 g f (g.terms.length-1)
 have h3:=Zdf h.bd (Za3 g f)
 unfold Za3 at h3
 refine Zgg h.st hs.chg 1 rfl (fun F' ho hF=>Zqp (h.pg hs.chg ho hF) s (fun w' hc=>ZZ97 hs (fun x hx=>by have:=Zi6 hx;unfold Zz;omega) (fun i hi=>(hF i hi).1) hc) (fun s hs=>Zlm hs) (by unfold Za3;omega)) ?_
 intro F6 v6 w6 hd6 hs6
 exact hK _ _ (h.next (hs6 _ hd6))
end
end Go.Proofs.YtckbgeedlobfaaaGreatDoor
namespace Go.Proofs.YtckbgeedlobfaaaGreatDoor
open Go.Px Go.Px.Scan Go.RowKit
attribute [-go_sem] Builtin.append_
attribute [-go_sem] Zt.b11 Zt.b14 Zt.b3 Zt.b6 Zt.b9 Zt.b10 Zt.b16 Zt.b19 Zt.b5 Zt.b18 Zt.b9_5
section
variable {w:World} {B q b:Nat} {g:Gr} {A1 A2 A3 A4:Option Addr} {c1 c2 c3 c4:Nat}
theorem Zsd (l:Txt):(BA l).toList=l:=by rw[ByteArray.toList_eq];simp[BA]
theorem Zwl {R:Ending→World→Prop}(hR:∀v w',v = .tuple #[.string (BA (Znn g)),.int .i64 (Zld g)]∧Chg noB w w'→R (.returned v) w')(he:Zeh g=true)(hsm:∀p∈g.prods,p.2.1.length≤1000000000000)
  {w1:World} (h:TxS w B q b (gcs g A1 c1 A2 c2 A3 c3 A4 c4) g w1 (preT g)):Zt.b6 R (.pointer (some ⟨q,0,none⟩)) (.pointer (some ⟨b,0,none⟩)) w1:=by
 have y1:=h.st.box 0 rfl
 simp[Zp]at y1
 obtain ⟨_,_,_,_,h4⟩:=ZZ18 h.rd
 have hp1:=h.bd.p1
 unfold Zt.b6
 simp -dsimp[go_sem,y1]
 refine Zt.l8_intro _ _ _ _ _ _ (fun y w'=>∃(k:Nat) (t:Txt),y = .int .i64 k∧k≤g.prods.length∧Zic g k=some t∧TxS w B q b (gcs g A1 c1 A2 c2 A3 c3 A4 c4) g w' t) (fun y _=>g.prods.length-iv y) ⟨0,_,rfl,Nat.zero_le _,rfl,h⟩ ?_
 rintro _ w2 ⟨k,t,rfl,hk,ht,h2⟩ C hC
 have htl:=Zr8 h.bd k t hk ht
 unfold Zt.b9
 simp -dsimp[go_sem]
 refine Za (fun p1=>?_) (fun p1=>?_)<;>simp at p1
 ·obtain ⟨bp,op,vr,ep,hbp,x1,x2,x3,hr,z1,z3⟩:=Zev (Rep.below h4 (h2.st.chg.below h.hB fun _ _=>id)) p1
  obtain ⟨Ar,cr,rfl,hr1,hr2,_⟩:=Zay hr
  have hsn:=Zi1 g p1
  generalize hp:g.prods[k]=p at x1 x2 x3 hr z1 z3 hr1 hr2 hsn ⊢
  have hpm:p∈g.prods:=by rw[←hp];exact List.getElem_mem p1
  have hln:=hsm p hpm
  have hrw:(Zo rInt).at1 w B (.slice Ar p.2.1.length cr) p.2.1:=(Zo rInt).keep hr (Nat.le_refl _) fun i hi=>(h2.st.chg.block i (by have:=h.hB;omega) id).symm
  have wk:IntKind.i64.wrap ((k:Int)+1)=(k:Int)+1:=IntWalk.i64_in _ (by omega)
  have s3:=h2.st.alloc #[.int .i64 p.1,.slice Ar p.2.1.length cr,.int .i64 p.2.2] 50
  simp -dsimp[go_sem,ep,p1,hp,x1,x2,x3]
  generalize w2.heap.size=pb at s3 ⊢
  generalize w2.alloc (.cells #[.int .i64 p.1,.slice Ar p.2.1.length cr,.int .i64 p.2.2] 50)=w3 at s3 ⊢
  have y3:=s3.box 2 rfl
  simp[Zp]at y3
  have h3:TxS w B q b (gcs g A1 c1 A2 c2 A3 c3 A4 c4) g w3 t:=h.next (s3.take 2)
  obtain ⟨F3,o3,hF3⟩:=s3.get (k:=1) rfl
  refine Zf (Zig (h3.pg (Chg.refl _ _) o3 hF3) (h.bd.left p hpm).1) ?_
  rintro _ _ ⟨rfl,rfl⟩
  have hb10:∀(t':Txt) (w':World),Zic g (k+1)=some t'→TxS w B q b (gcs g A1 c1 A2 c2 A3 c3 A4 c4) g w' t'→Zt.b10 R C (.int .i64 k) w':=by
   intro t' w' ht' h'
   unfold Zt.b10
   simp -dsimp[go_sem,wk]
   exact hC _ _ ⟨k+1,t',by simp,by omega,ht',h'⟩ (by simp[iv];omega)
  rw[ht]at hsn
  simp only[addP,Option.bind_some]at hsn
  simp -dsimp[go_sem,Zsd]
  refine Za (fun p2=>?_) (fun p2=>?_)
  ·have p2:symT g p.1=[36,115,116,97,114,116]:=by simpa using p2
   have p2:symT g p.1=Zko:=p2
   rw[if_pos p2]at hsn
   exact hb10 t _ hsn h3
  ·have p2:¬symT g p.1=Zko:=by intro e;rw[e]at p2;cases p2
   rw[if_neg p2]at hsn
   have hsyl:=Zmb h.bd p.1
   have q1:¬9223372036854775807<(symT g p.1).length+2:=by omega
   unfold Zt.b9_5
   have s3d:=s3.old (Chg.refl noB _).drew
   simp -dsimp[go_sem,y3]
   generalize w3.drew=w4 at s3d ⊢
   have y4:=s3d.box 2 rfl
   simp[Zp]at y4
   have h4':TxS w B q b (gcs g A1 c1 A2 c2 A3 c3 A4 c4) g w4 t:=h.next (s3d.take 2)
   obtain ⟨F4,o4,hF4⟩:=s3d.get (k:=1) rfl
   refine Zf (Zig (h4'.pg (Chg.refl _ _) o4 hF4) (h.bd.left p hpm).1) ?_
   rintro _ _ ⟨rfl,rfl⟩
   have hsz:(BA (symT g p.1)++(⟨#[32,58]⟩:ByteArray)).size=(symT g p.1).length+2:=by rw[ByteArray.size_append,Zhf];rfl
   have hnl:=Zdf h.bd p.2.1
   simp -dsimp[go_sem,y4,Zhf,q1]
   have rdAt:∀{w' w1':World} {F':Nat→Prop},Chg noB w w1'→Chg F' w1' w'→(∀i,F' i→i<w.heap.size→noB i)→(Zo rInt).at1 w' B (.slice Ar p.2.1.length cr) p.2.1:=by
    intro w' w1' F' hc hc' hF
    have hch:Chg F' w w':=(hc.mono fun _ _ (e:noB _)=>e.elim).trans' hc' fun _ _ e=>e
    exact Rep.below hrw (hch.below h.hB fun i hi e=>hF i e (by have:=h.hB;omega))
   refine Zde s3d 1 rfl (fun F' ho hF=>Zqp (h4'.pg (Chg.refl _ _) ho hF) _ (ws:=p.2.1) (fun w' hc=>⟨B,rdAt s3d.chg hc fun i hi=>(hF i hi).2⟩) (fun s hs=>(h.bd.right p hpm s hs).1) (by rw[hsz];unfold Zr;omega)) ?_
   intro F5 v5 w5 hd5 hs5
   have s5:=hs5 _ hd5
   rw[Znv,Zsg]at s5
   have y5:=s5.box 2 rfl
   simp[Zp]at y5
   obtain ⟨t5,ht5⟩:∃t5,t5=t++(symT g p.1++tx ⟨#[32,58]⟩)++Zcm g p.2.1:=⟨_,rfl⟩
   rw[←ht5]at s5
   have ht5l:t5.length≤200030+19*p.2.1.length:=by rw[ht5];simp only[List.length_append,Zh1];show _+(_+2)+_≤_;omega
   have h5:TxS w B q b (gcs g A1 c1 A2 c2 A3 c3 A4 c4) g w5 t5:=h.next (s5.take 2)
   simp -dsimp[go_sem,y5]
   refine Zde s5 1 rfl (fun F' ho hF=>ZZ159 (h5.pg (Chg.refl _ _) ho hF) hpm (rdAt (F':=noB) s5.chg (Chg.refl _ _) fun _ e=>e.elim) z1 (by unfold Zr;omega)) ?_
   intro F6 v6 w6 hd6 hs6
   have s6:=hs6 _ hd6
   have hgl:=Zw3 h.bd p
   have h6:TxS w B q b (gcs g A1 c1 A2 c2 A3 c3 A4 c4) g w6 (t5++Zid g p):=h.next (s6.take 2)
   simp -dsimp[go_sem]
   refine Zky h6 (by rw[List.length_append];unfold Zr;omega) ?_
   intro v7 w7 h7
   have et:t5++Zid g p++Zkk=t++Zoz g p:=by
    rw[ht5];simp[Zoz,tx]
   rw[et]at h7
   obtain ⟨F7,o7,_⟩:=h7.st.get (k:=1) rfl
   simp -dsimp[go_sem]
   refine Zf (ZZ314 o7) ?_
   rintro _ _ ⟨rfl,rfl⟩
   simp -dsimp[go_sem]
   refine Za (fun p3=>?_) (fun p3=>?_)
   ·have p3:8192<(t++Zoz g p).length:=by
     have:(8192:Int)<((t++Zoz g p).length:Int):=by simpa using p3
     omega
    rw[if_pos p3]at hsn
    refine hR _ _ ⟨?_,h7.st.chg⟩
    unfold Znn Zld
    rw[he,Zxr hsn];rfl
   ·have p3:¬8192<(t++Zoz g p).length:=by
     have:¬(8192:Int)<((t++Zoz g p).length:Int):=by simpa using p3
     omega
    rw[if_neg p3]at hsn
    exact hb10 _ _ hsn h7
 ·have hkl:k=g.prods.length:=by omega
  subst hkl
  rw[Zon]at ht
  unfold Zt.b5
  simp -dsimp[go_sem]
  refine Zde h2.st 1 rfl (fun F' ho hF=>Zrb ho) ?_
  rintro F6 v6 w6 ⟨rfl,hd6⟩ hs6
  have s6:=hs6 _ hd6
  refine hR _ _ ⟨?_,s6.chg⟩
  unfold Znn Zld
  rw[he,ht];rfl
theorem ZZ164 {R:Ending→World→Prop}(hR:∀v w',v = .tuple #[.string (BA (Znn g)),.int .i64 (Zld g)]∧Chg noB w w'→R (.returned v) w')(he:Zeh g=true)(hsm:∀p∈g.prods,p.2.1.length≤1000000000000)
  {w1:World} (h:TxS w B q b (gcs g A1 c1 A2 c2 A3 c3 A4 c4) g w1 (Zd3 g g.levels.length)):Zt.b3 R (.pointer (some ⟨q,0,none⟩)) (.pointer (some ⟨b,0,none⟩)) w1:=by
 have y1:=h.st.box 0 rfl
 simp[Zp]at y1
 obtain ⟨_,_,_,hst,_⟩:=ZZ18 h.rd
 have hll:=Zem h.bd g.levels.length
 have hl1:=h.bd.l1
 have hnl:=Zdf h.bd [g.start]
 unfold Zt.b3
 simp -dsimp[go_sem,y1]
 have hc5:Chg noB w1 (w1.alloc (.cells #[.int .i64 g.start] 3)):=(Chg.refl _ _).alloc _
 refine Zgg h.st hc5 1 rfl (fun F' ho hF=>Zqp (h.pg hc5 ho hF) ⟨#[37,115,116,97,114,116]⟩ (ws:=[g.start]) (fun w' hc=>⟨_,Zzc (fun i hi=>(hF i hi).1) hst hc⟩) (fun s hs=>by simp at hs;subst hs;exact h.bd.start.1) (by simp[ByteArray.size]at hnl ⊢;unfold Zr;omega)) ?_
 intro F6 v6 w6 hd6 hs6
 have h6:TxS w B q b (gcs g A1 c1 A2 c2 A3 c3 A4 c4) g w6 (Zd3 g g.levels.length++Zlc++Zcm g [g.start]):=h.next (hs6 _ hd6)
 simp -dsimp[go_sem]
 refine Zky h6 (by simp[Zlc]at hnl ⊢;unfold Zr;omega) ?_
 intro v7 w7 h7
 exact Zwl hR he hsm h7
theorem Zri {R:Ending→World→Prop}(hR:∀v w',v = .tuple #[.string (BA (Znn g)),.int .i64 (Zld g)]∧Chg noB w w'→R (.returned v) w')(he:Zeh g=true)(hsm:∀p∈g.prods,p.2.1.length≤1000000000000)
  {w1:World} (h:TxS w B q b (gcs g A1 c1 A2 c2 A3 c3 A4 c4) g w1 (Zqa g)):Zt.b11 R (.pointer (some ⟨q,0,none⟩)) (.pointer (some ⟨b,0,none⟩)) w1:=by
 have y1:=h.st.box 0 rfl
 simp[Zp]at y1
 obtain ⟨_,_,h3,_,_⟩:=ZZ18 h.rd
 have hl1:=h.bd.l1
 unfold Zt.b11
 simp -dsimp[go_sem,y1]
 refine Zt.l13_intro _ _ _ _ _ _ _ (fun y w'=>∃(k:Nat),y = .int .i64 k∧k≤g.levels.length∧TxS w B q b (gcs g A1 c1 A2 c2 A3 c3 A4 c4) g w' (Zd3 g k)) (fun y _=>g.levels.length-iv y) ⟨0,rfl,Nat.zero_le _,h⟩ ?_
 rintro _ w2 ⟨k,rfl,hk,h2⟩ C hC
 have htl:=Zem h.bd k
 have hvl:=Zpi h.bd k
 unfold Zt.b14
 simp -dsimp[go_sem]
 refine Za (fun p1=>?_) (fun p1=>?_)<;>simp at p1
 ·obtain ⟨bl,ol,el,hbl,x1,z1⟩:=Go.Px.ints_at (Rep.below h3 (h2.st.chg.below h.hB fun _ _=>id)) p1
  have hlv:=h.bd.lev _ (List.getElem_mem p1)
  have wk:IntKind.i64.wrap ((k:Int)+1)=(k:Int)+1:=IntWalk.i64_in _ (by omega)
  have hget:g.levels.getD k 0=g.levels[k]:=by simp[p1]
  generalize g.levels[k]=sd at x1 z1 hlv hget ⊢
  obtain ⟨sj,hsj,hsj2⟩:∃sj:Nat,sd=(sj:Int)+1∧sj<3:=⟨(sd-1).toNat,by omega,by omega⟩
  have ws:IntKind.i64.wrap (sd-1)=(sj:Int):=by rw[hsj,show (sj:Int)+1-1=(sj:Int) by omega];exact IntWalk.i64_in _ (by omega)
  have s3:=(h2.st.alloc #[.int .i64 k] 3).old (Chg.refl noB _).drew
  have hsd:∀(w':World) (qb:Nat),w'.heap[qb]?=some (.cells #[.string ⟨#[37,108,101,102,116]⟩,.string ⟨#[37,114,105,103,104,116]⟩,.string ⟨#[37,110,111,110,97,115,115,111,99]⟩] 9 (0,0))→w'.cell? ⟨qb,sj,none⟩=some (.string (BA (Zl3 sd))):=by
   intro w' qb hq
   simp only[World.cell?,hq]
   have:sj=0∨sj=1∨sj=2:=by omega
   rcases this with rfl|rfl|rfl<;>· rw[hsj];rfl
  have hsl:(BA (Zl3 sd)).size≤9:=by rw[Zhf];unfold Zl3;split;decide;split<;>decide
  unfold Zt.b18
  have hsj3:(sj:Int)<3:=by omega
  have hli:([Value.string ⟨#[37,108,101,102,116]⟩,.string ⟨#[37,114,105,103,104,116]⟩,.string ⟨#[37,110,111,110,97,115,115,111,99]⟩]:List Value)[sj]?=some (.string (BA (Zl3 sd))):=by
   have:sj=0∨sj=1∨sj=2:=by omega
   rcases this with rfl|rfl|rfl<;>· rw[hsj];rfl
  have s4:=((h2.st.alloc #[.int .i64 k] 3).alloc #[.string ⟨#[37,108,101,102,116]⟩,.string ⟨#[37,114,105,103,104,116]⟩,.string ⟨#[37,110,111,110,97,115,115,111,99]⟩] 9).old (Chg.refl noB _).drew
  rw[show (w2.alloc (.cells #[.int .i64 k] 3)).heap.size=w2.heap.size+1 by simp]at s4
  simp -dsimp[go_sem,el,p1,x1,ws,hsj3,hli]
  have es:(w2.alloc (.cells #[.int .i64 k] 3)).drew.heap.size=w2.heap.size+1:=by simp
  have hold:Chg noB w2 ((w2.alloc (.cells #[.int .i64 k] 3)).alloc (.cells #[.string ⟨#[37,108,101,102,116]⟩,.string ⟨#[37,114,105,103,104,116]⟩,.string ⟨#[37,110,111,110,97,115,115,111,99]⟩] 9)).drew:=(((Chg.refl _ _).alloc _).alloc _).drew
  generalize w2.heap.size=iq at s3 es s4 ⊢
  generalize (w2.alloc (.cells #[.int .i64 k] 3)).drew=w3 at s3 es ⊢
  have y3:=s3.box 2 rfl
  simp[Zp]at y3
  have h3':TxS w B q b (gcs g A1 c1 A2 c2 A3 c3 A4 c4) g w3 (Zd3 g k):=h.next (s3.take 2)
  have fin:∀w',TxS w B q b (gcs g A1 c1 A2 c2 A3 c3 A4 c4) g w' (Zd3 g k++tx (BA (Zl3 sd))++Zcm g (Za3 g fun x=>x == (k:Int)+1))→Zt.b19 R C (.pointer (some ⟨b,0,none⟩)) (.int .i64 k) w':=by
   intro w' h'
   unfold Zt.b19
   have e:Zd3 g k++tx (BA (Zl3 sd))++Zcm g (Za3 g fun x=>x == (k:Int)+1)++Zkk=Zd3 g (k+1):=by
    rw[Zd3,Zo9,hget,Zsg];simp
   simp -dsimp[go_sem]
   refine Zky h' ?_ ?_
   ·have:(Zd3 g (k+1)).length≤400000:=by have:=Zem h.bd (k+1);omega
    rw[←e,List.length_append]at this
    have e3:Zkk.length=3:=rfl
    rw[e3]at this
    unfold Zr;omega
   intro v7 w7 h7
   rw[e]at h7
   unfold Zt.b16
   simp -dsimp[go_sem,wk]
   exact hC _ _ ⟨k+1,by simp,by omega,h7⟩ (by simp[iv];omega)
  constructor
  ·generalize ((w2.alloc (.cells #[.int .i64 k] 3)).alloc (.cells #[.string ⟨#[37,108,101,102,116]⟩,.string ⟨#[37,114,105,103,104,116]⟩,.string ⟨#[37,110,111,110,97,115,115,111,99]⟩] 9)).drew=w4 at s4 hold ⊢
   have y4:=s4.box 2 rfl
   simp[Zp]at y4
   obtain ⟨F4,o4,_⟩:=s4.get (k:=3) rfl
   have hc4:=hsd w4 _ o4.2
   have h4':TxS w B q b (gcs g A1 c1 A2 c2 A3 c3 A4 c4) g w4 (Zd3 g k):=h.next (s4.take 2)
   obtain ⟨F5,o5,hF5⟩:=s4.get (k:=1) rfl
   refine Zf (Zmi (h4'.pg (Chg.refl _ _) o5 hF5) (Zzj (i:=k) y4.1 (by omega))) ?_
   rintro _ w5 ⟨a5,c5,rfl,hs5⟩
   obtain ⟨F6,o6,_⟩:=(s4.old hs5.chg).get (k:=3) rfl
   have hc6:=hsd w5 _ o6.2
   simp -dsimp[go_sem,hc6]
   refine Zno h4' hs5 (by have:=Zem h.bd k;unfold Zr;omega) ?_
   intro v7 w7 h7
   exact fin _ h7
  ·obtain ⟨F5,o5,hF5⟩:=s3.get (k:=1) rfl
   refine Zf (Zmi (h3'.pg (Chg.refl _ _) o5 hF5) (Zzj (i:=k) y3.1 (by omega))) ?_
   rintro _ w5 ⟨a5,c5,rfl,hs5⟩
   have hc6:Chg noB w5 (w5.alloc (.cells #[.string ⟨#[37,108,101,102,116]⟩,.string ⟨#[37,114,105,103,104,116]⟩,.string ⟨#[37,110,111,110,97,115,115,111,99]⟩] 9)):=(Chg.refl _ _).alloc _
   have hc7:=hsd _ _ (World.alloc_heap_new w5 (.cells #[.string ⟨#[37,108,101,102,116]⟩,.string ⟨#[37,114,105,103,104,116]⟩,.string ⟨#[37,110,111,110,97,115,115,111,99]⟩] 9))
   simp -dsimp[go_sem,hsj3,hli]
   have hs6:St noB w3 (w5.alloc (.cells #[.string ⟨#[37,108,101,102,116]⟩,.string ⟨#[37,114,105,103,104,116]⟩,.string ⟨#[37,110,111,110,97,115,115,111,99]⟩] 9)) _:=hs5.old hc6
   refine Zno h3' hs6 (by have:=Zem h.bd k;unfold Zr;omega) ?_
   intro v7 w7 h7
   exact fin _ h7
 ·have hkl:k=g.levels.length:=by omega
  subst hkl
  exact ZZ164 hR he hsm h2
theorem ZZ60 {vg:Value}(h:Zcz.atN w B vg g)(hB:B≤w.heap.size)(hsm:∀p∈g.prods,p.2.1.length≤1000000000000) :
  Ct Tryz.prog Zt.id #[vg] w fun v w'=>v = .tuple #[.string (BA (Znn g)),.int .i64 (Zld g)]∧Chg noB w w':=by
 refine Zt.ct fun R hR=>?_
 obtain ⟨A1,c1,A2,c2,A3,c3,A4,c4,rfl,h1,h2,h3,hst,h4,k1,k2,k3,k4⟩:=(Zbl h).ex
 have s0:=(St.refl noB w).alloc #[.slice A1 g.terms.length c1,.slice A2 g.nons.length c2,.slice A3 g.levels.length c3,.int .i64 g.start,.slice A4 g.prods.length c4] 27
 unfold Zt.run
 simp -dsimp[go_sem]
 have hg1:Zcz.atN _ B _ g:=Za2 h (s0.chg.below hB fun _ _=>id)
 have hB1:=s0.chg.size
 generalize w.heap.size=q at s0 ⊢
 generalize w.alloc (.cells #[.slice A1 g.terms.length c1,.slice A2 g.nons.length c2,.slice A3 g.levels.length c3,.int .i64 g.start,.slice A4 g.prods.length c4] 27)=w1 at s0 hg1 hB1 ⊢
 refine Zf (Zyx hg1 (by omega)) ?_
 rintro _ w2 ⟨b,vs,rfl,hvs,hs2⟩
 have hvs':vs=gcs g A1 c1 A2 c2 A3 c3 A4 c4:=by
  injection hvs with hvs
  have:=congrArg Array.toList hvs;simpa using this.symm
 subst hvs'
 have s2:St noB w w2 [boxC q 27 (gcs g A1 c1 A2 c2 A3 c3 A4 c4),pgG b (gcs g A1 c1 A2 c2 A3 c3 A4 c4) []]:=s0.seq hs2
 have y2:=s2.box 0 rfl
 simp[Zp]at y2
 cases he:Zeh g with
 | false=>
  simp -dsimp[go_sem]
  refine hR _ _ ⟨?_,s2.chg⟩
  unfold Znn Zld
  rw[he];rfl
 | true=>
  have hbd:=Zit (Zhb.1 he)
  have h2:TxS w B q b (gcs g A1 c1 A2 c2 A3 c3 A4 c4) g w2 []:=⟨s2,h,hB,hbd⟩
  simp -dsimp[go_sem,y2]
  refine Za (fun p1=>?_) (fun p1=>?_)<;>simp at p1
  ·obtain ⟨F3,o3,hF3⟩:=s2.get (k:=1) rfl
   simp -dsimp[go_sem]
   refine Zf (Zmi (h2.pg (Chg.refl _ _) o3 hF3) (ZZ107 w2)) ?_
   rintro _ w3 ⟨a3,c3',rfl,hs3⟩
   refine Zno (s:=⟨#[37,116,111,107,101,110]⟩) h2 hs3 (by simp[ByteArray.size];unfold Zr;omega) ?_
   intro v4 w4 h4
   have hn:=Zdf hbd (Za3 g fun _=>true)
   have hn2:=Zg0 g (fun _=>true) (g.terms.length-1)
   have hb1:=hbd.t1
   unfold Za3 at hn
   simp -dsimp[go_sem]
   refine Zky h4 (by simp only[List.length_append,Zh1];unfold Za3;show _+6+_+3≤_;simp;unfold Zr;omega) ?_
   intro v5 w5 h5
   have:Zqa g=[]++tx ⟨#[37,116,111,107,101,110]⟩++Zcm g (Za3 g fun _=>true)++Zkk:=by unfold Zqa;rw[if_pos (by omega)];rfl
   rw[←this]at h5
   exact Zri hR he hsm h5
  ·have:Zqa g=[]:=by unfold Zqa;rw[if_neg (by omega)]
   rw[←this]at h2
   exact Zri hR he hsm h2
end
end Go.Proofs.YtckbgeedlobfaaaGreatDoor
namespace Go.Px.Scan
open Go.Px
def g0:Gr:=⟨[(⟨#[]⟩,0),(⟨#[97]⟩,0)],[⟨#[83]⟩],[],2,[(2,[2,1],0),(2,[],0)]⟩
theorem ZZ124:Zbh g0:=by
 refine ⟨⟨rfl,by decide,by decide,by decide,by decide,?_,?_,by decide,by decide,?_⟩,⟨by decide,by decide,?_,by decide,by decide,by decide⟩,by decide⟩
 ·intro t ht
  simp[g0]at ht
  subst ht
  refine ⟨⟨by decide,by decide,fun i hi=>?_⟩,by decide,by decide⟩
  have hi':i<1:=hi
  have:i=0:=by omega
  subst this
  decide
 ·intro i hi
  simp[g0]at hi
 ·intro s hs
  simp[g0]at hs
  subst hs
  refine ⟨by decide,by decide,by decide,fun i hi=>?_⟩
  have hi':i<1:=hi
  have:i=0:=by omega
  subst this
  decide
 ·intro p hp
  simp[g0]at hp
  rcases hp with rfl|rfl
  ·exact ⟨by decide,by decide,by decide,by decide,fun s hs=>by simp at hs;rcases hs with rfl | rfl<;>decide⟩
  ·exact ⟨by decide,by decide,by decide,by decide,fun s hs=>by simp at hs⟩
theorem Znm:Zeh g0=true:=Zhb.2 (Or.inl ZZ124)
def t0:Txt:=[37,116,111,107,101,110,32,39,97,39,32,59,10,37,115,116,97,114,116,32,83,32,59,10,83,32,58,32,83,32,39,97,39,32,59,10,83,32,58,32,59,10]
theorem Zz7:Zly g0=some t0:=by decide +kernel
theorem ZZ209:ZZ57 g0 (2,[2,1],0) 1=[83,32,45,62,32,83,32,46,32,39,97,39]:=by decide +kernel
end Go.Px.Scan
namespace Go.Proofs.YtckbgeedlobfaaaGreatDoor
open Go.Px Go.Px.Scan Go.RowKit
attribute [-go_sem] Builtin.append_
theorem ZZ319 (w:World):(Instr.build 64 #[]).run Tryz.prog w = .ok (.agg #[.string ⟨#[]⟩,.int .i64 0]) w:=by simp[go_sem]
theorem ZZ291 (s:ByteArray)(w:World):(Instr.build 64 #[(0,.string s)]).run Tryz.prog w = .ok (.agg #[.string s,.int .i64 0]) w:=by simp[go_sem]
theorem ZZ326 (a b:ByteArray)(x y:Int)(w:World):(Instr.buildSlice 22 2 #[(0,.agg #[.string a,.int .i64 x]),(1,.agg #[.string b,.int .i64 y])]).run Tryz.prog w = .ok (.slice (some ⟨w.heap.size,0,none⟩) 2 2) (w.alloc (.cells #[.string a,.int .i64 x,.string b,.int .i64 y] 64)):=by
 simp[go_sem,Value.cells]
theorem aNons (a:ByteArray)(w:World):(Instr.buildSlice 23 1 #[(0,.string a)]).run Tryz.prog w = .ok (.slice (some ⟨w.heap.size,0,none⟩) 1 1) (w.alloc (.cells #[.string a] 9)):=by
 simp[go_sem,Value.cells]
theorem aInts (a b:Int)(w:World):(Instr.buildSlice 24 2 #[(0,.int .i64 a),(1,.int .i64 b)]).run Tryz.prog w = .ok (.slice (some ⟨w.heap.size,0,none⟩) 2 2) (w.alloc (.cells #[.int .i64 a,.int .i64 b] 3)):=by
 simp[go_sem,Value.cells]
theorem ZZ293 (x:Int)(A:Option Addr)(n c:Nat)(w:World):(Instr.build 50 #[(0,.int .i64 x),(1,.slice A n c)]).run Tryz.prog w = .ok (.agg #[.int .i64 x,.slice A n c,.int .i64 0]) w:=by simp[go_sem]
theorem ZZ331 (x:Int)(w:World):(Instr.build 50 #[(0,.int .i64 x)]).run Tryz.prog w = .ok (.agg #[.int .i64 x,.slice none 0 0,.int .i64 0]) w:=by simp[go_sem]
theorem ZZ294 (x y z u:Int)(A1 A2:Option Addr)(n1 c1 n2 c2:Nat)(w:World):(Instr.buildSlice 25 2 #[(0,.agg #[.int .i64 x,.slice A1 n1 c1,.int .i64 y]),(1,.agg #[.int .i64 z,.slice A2 n2 c2,.int .i64 u])]).run Tryz.prog w = .ok (.slice (some ⟨w.heap.size,0,none⟩) 2 2) (w.alloc (.cells #[.int .i64 x,.slice A1 n1 c1,.int .i64 y,.int .i64 z,.slice A2 n2 c2,.int .i64 u] 50)):=by
 simp[go_sem,Value.cells]
theorem aGram (A1 A2 A4:Option Addr)(n1 c1 n2 c2 n4 c4:Nat)(s:Int)(w:World):(Instr.build 27 #[(0,.slice A1 n1 c1),(1,.slice A2 n2 c2),(3,.int .i64 s),(4,.slice A4 n4 c4)]).run Tryz.prog w = .ok (.agg #[.slice A1 n1 c1,.slice A2 n2 c2,.slice none 0 0,.int .i64 s,.slice A4 n4 c4]) w:=by simp[go_sem]
theorem aItem (x:Int)(w:World):(Instr.build 67 #[(1,.int .i64 x)]).run Tryz.prog w = .ok (.agg #[.int .i64 0,.int .i64 x]) w:=by simp[go_sem]
attribute [go_sem ↓] ZZ294 ZZ319 ZZ291 ZZ326 aNons aInts ZZ293 ZZ331 aGram aItem
theorem ZZ165 {w:World}{q1 q2 q3 q4 B:Nat}(h1:w.heap[q1]?=some (.cells #[.string ⟨#[]⟩,.int .i64 0,.string ⟨#[97]⟩,.int .i64 0] 64 (0,0)))(h2:w.heap[q2]?=some (.cells #[.string ⟨#[83]⟩] 9 (0,0)))(h3:w.heap[q3]?=some (.cells #[.int .i64 2,.int .i64 1] 3 (0,0)))
  (h4:w.heap[q4]?=some (.cells #[.int .i64 2,.slice (some ⟨q3,0,none⟩) 2 2,.int .i64 0,.int .i64 2,.slice none 0 0,.int .i64 0] 50 (0,0))) (hB:w.heap.size≤B) :
  Zcz.atN w B (.agg #[.slice (some ⟨q1,0,none⟩) 2 2,.slice (some ⟨q2,0,none⟩) 1 1,.slice none 0 0,.int .i64 2,.slice (some ⟨q4,0,none⟩) 2 2]) g0:=by
 have up:∀{α:Type} {r:Rep α} {q:Nat} {v:Value} {l:List α} {o:Obj},w.heap[q]?=some o→(Zo r).at1 w (q+1) v l→(Zo r).at1 w B v l:=fun hq h=>Rep.up h (by have:=(Array.getElem?_eq_some_iff.1 hq).1;omega)
 refine Zu8 (up h1 (Zm4 (l:=g0.terms) (enc:=ZZ50) h1 rfl (fun x hx=>?_) (by decide))) (up h2 (Zm4 (l:=g0.nons) (enc:=cStr) h2 rfl (fun x hx=>?_) (by decide))) ⟨none,0,rfl,by decide,by decide,trivial,fun h=>by cases h⟩ rfl (by unfold Zz;decide) ?_
 ·simp[g0]at hx
  rcases hx with rfl|rfl<;>exact ⟨[_],[_],rfl,⟨rfl,by decide⟩,⟨rfl,by unfold Zz;decide⟩⟩
 ·simp[g0]at hx
  subst hx
  exact ⟨rfl,by decide⟩
 ·have hq4:=(Array.getElem?_eq_some_iff.1 h4).1
  have hr:(Zo rInt).at1 w B (.slice (some ⟨q3,0,none⟩) 2 2) [2,1]:=up h3 (Zm4 (l:=[2,1]) (enc:=cInt) h3 rfl (fun x hx=>by simp at hx;rcases hx with rfl | rfl<;>exact ⟨rfl,by unfold Zz;decide⟩) (by decide))
  have hr0:(Zo rInt).at1 w B (.slice none 0 0) []:=⟨none,0,rfl,by decide,by decide,trivial,fun h=>by cases h⟩
  refine ⟨_,2,rfl,by decide,by decide,trivial,fun _=>⟨q4,0,rfl,by omega,fun i x hi=>?_⟩⟩
  have hi2:=(List.getElem?_eq_some_iff.1 hi).1
  have hi3:i<2:=hi2
  have:i=0∨i=1:=by omega
  rcases this with rfl|rfl
  ·injection hi with hi;subst hi
   refine ⟨[.int .i64 2,.slice (some ⟨q3,0,none⟩) 2 2,.int .i64 0],⟨[_],[_,_],rfl,⟨rfl,by unfold Zz;decide⟩,[_],[_],rfl,hr,rfl,by unfold Zz;decide⟩,fun j u hj=>?_⟩
   have hj2:=(List.getElem?_eq_some_iff.1 hj).1
   simp at hj2
   simp only[World.cell?,h4]
   have:j=0∨j=1∨j=2:=by omega
   rcases this with rfl|rfl|rfl<;>exact hj
  ·injection hi with hi;subst hi
   refine ⟨[.int .i64 2,.slice none 0 0,.int .i64 0],⟨[_],[_,_],rfl,⟨rfl,by unfold Zz;decide⟩,[_],[_],rfl,hr0,rfl,by unfold Zz;decide⟩,fun j u hj=>?_⟩
   have hj2:=(List.getElem?_eq_some_iff.1 hj).1
   simp at hj2
   simp only[World.cell?,h4]
   have:j=0∨j=1∨j=2:=by omega
   rcases this with rfl|rfl|rfl<;>exact hj
theorem ZZ76 (w:World):Ct Tryz.prog Zdu.id #[] w fun v w'=>v = .bool true∧Chg noB w w':=by
 refine Zdu.ct fun R hR=>?_
 unfold Zdu.run
 simp -dsimp[go_sem]
 have s1:=(St.refl noB w).alloc #[.string ⟨#[]⟩,.int .i64 0,.string ⟨#[97]⟩,.int .i64 0] 64
 have e1:(w.alloc (.cells #[.string ⟨#[]⟩,.int .i64 0,.string ⟨#[97]⟩,.int .i64 0] 64)).heap.size=w.heap.size+1:=by simp
 generalize w.alloc (.cells #[.string ⟨#[]⟩,.int .i64 0,.string ⟨#[97]⟩,.int .i64 0] 64)=w1 at s1 e1 ⊢
 have s2:=s1.alloc #[.string ⟨#[83]⟩] 9
 rw[e1]at s2
 have e2:(w1.alloc (.cells #[.string ⟨#[83]⟩] 9)).heap.size=w.heap.size+1+1:=by rw[←e1];simp
 generalize w1.alloc (.cells #[.string ⟨#[83]⟩] 9)=w2 at s2 e2 ⊢
 have s3:=s2.alloc #[.int .i64 2,.int .i64 1] 3
 rw[e2]at s3
 have e3:(w2.alloc (.cells #[.int .i64 2,.int .i64 1] 3)).heap.size=w.heap.size+1+1+1:=by rw[←e2];simp
 generalize w2.alloc (.cells #[.int .i64 2,.int .i64 1] 3)=w3 at s3 e3 ⊢
 have s4:=s3.alloc #[.int .i64 2,.slice (some ⟨w.heap.size+1+1,0,none⟩) 2 2,.int .i64 0,.int .i64 2,.slice none 0 0,.int .i64 0] 50
 rw[e3]at s4
 have e4:(w3.alloc (.cells #[.int .i64 2,.slice (some ⟨w.heap.size+1+1,0,none⟩) 2 2,.int .i64 0,.int .i64 2,.slice none 0 0,.int .i64 0] 50)).heap.size=w.heap.size+1+1+1+1:=by rw[←e3];simp
 generalize w3.alloc (.cells #[.int .i64 2,.slice (some ⟨w.heap.size+1+1,0,none⟩) 2 2,.int .i64 0,.int .i64 2,.slice none 0 0,.int .i64 0] 50)=w4 at s4 e4 ⊢
 have s5:=s4.alloc #[.slice (some ⟨w.heap.size,0,none⟩) 2 2,.slice (some ⟨w.heap.size+1,0,none⟩) 1 1,.slice none 0 0,.int .i64 2,.slice (some ⟨w.heap.size+1+1+1,0,none⟩) 2 2] 27
 rw[e4]at s5
 generalize w4.alloc (.cells #[.slice (some ⟨w.heap.size,0,none⟩) 2 2,.slice (some ⟨w.heap.size+1,0,none⟩) 1 1,.slice none 0 0,.int .i64 2,.slice (some ⟨w.heap.size+1+1+1,0,none⟩) 2 2] 27)=w5 at s5 ⊢
 have rd:∀w',Chg noB w5 w'→Zcz.atN w' w'.heap.size (.agg #[.slice (some ⟨w.heap.size,0,none⟩) 2 2,.slice (some ⟨w.heap.size+1,0,none⟩) 1 1,.slice none 0 0,.int .i64 2,.slice (some ⟨w.heap.size+1+1+1,0,none⟩) 2 2]) g0:=by
  intro w' hc
  have s6:=s5.old hc
  obtain ⟨_,o1,_⟩:=s6.get (k:=0) rfl
  obtain ⟨_,o2,_⟩:=s6.get (k:=1) rfl
  obtain ⟨_,o3,_⟩:=s6.get (k:=2) rfl
  obtain ⟨_,o4,_⟩:=s6.get (k:=3) rfl
  exact ZZ165 o1.2 o2.2 o3.2 o4.2 (Nat.le_refl _)
 have hsm:∀p∈g0.prods,p.2.1.length≤1000000000000:=fun p hp=>by
  simp[g0]at hp
  rcases hp with rfl|rfl<;>simp
 refine Zf (ZZ60 (rd _ (Chg.refl _ _)) (Nat.le_refl _) hsm) ?_
 rintro _ w6 ⟨rfl,hc6⟩
 have s6:=s5.old hc6
 have y6:=s6.box 4 rfl
 simp[Zp]at y6
 simp -dsimp[go_sem,y6]
 refine Zf (ZZ243 (k:=0) (d:=1) (rd _ hc6) (Nat.le_refl _) (by unfold Zz;decide) (by unfold Zz;decide) hsm) ?_
 rintro _ w7 ⟨rfl,hc7⟩
 have ht:Znn g0=t0:=by unfold Znn;rw[Znm,Zz7];rfl
 have he:Zld g0=0:=by unfold Zld;rw[Znm,Zz7];rfl
 have hk:Zlw g0 0 1=true:=by unfold Zlw Zg1;rw[Znm];decide
 have hi:ZZ57 g0 (g0.prods.getD (0:Int).toNat (0,[],0)) 1=[83,32,45,62,32,83,32,46,32,39,97,39]:=ZZ209
 have ba:∀l:Txt,(BA l).toList=l:=Zsd
 rw[ht,he,hk,if_pos rfl,if_pos rfl,hi]
 simp -dsimp[go_sem,ba,t0]
 exact hR _ _ ⟨rfl,(s6.old hc7).chg⟩
end Go.Proofs.YtckbgeedlobfaaaGreatDoor
namespace Go.Proofs.YtckbgeedlobfaaaGreatDoor
open Go.Px Go.Px.Scan Go.RowKit
theorem Zni {s:ByteArray}(hs:s.size≤maxLen)(w:World):Ct Tryz.prog Zbn.id #[.string s] w fun v w'=>v = .bool (tmB s)∧w=w':=by
 refine Zbn.ct fun R hR=>?_
 have no:¬Zec s→∀v,v=Value.bool false→R (.returned v) w:=fun h v hv=>hR _ _ ⟨by rw[hv,ZZ183 h],rfl⟩
 unfold Zbn.run Zbn.b1 Zbn.b4
 refine Zbn.l6_intro _ _ _ _ (fun x w1=>∃k:Nat,x = .int .i64 k∧k≤s.size∧(∀i,i<k→Zb3 (bt s i)=true)∧w=w1) (fun x _=>s.size-iv x) ⟨0,rfl,by omega,fun i h=>by omega,rfl⟩ ?_
 rintro _ _ ⟨k,rfl,hk,hall,rfl⟩ C hC
 unfold Zbn.b7
 simp[go_sem]
 refine Za (fun h=>?_) (fun h=>?_)<;>simp at h
 ·have step:∀b,b = !(Zb3 (bt s k))→Zbn.b12 R C (.int .i64 k) (.bool b) w:=by
   intro b hb
   unfold Zbn.b12
   cases b with
   | true=>
    simp[go_sem]
    exact no (fun hn=>by have:=hn.2.2 k h;rw[this]at hb;cases hb) _ rfl
   | false=>
    simp[go_sem]
    unfold Zbn.b9
    simp[go_sem,Zau h hs]
    refine hC _ _ ⟨k+1,by simp,by omega,fun i hik=>?_,rfl⟩ (by simp[iv];omega)
    by_cases he:i=k
    ·rw[he];simpa using hb
    ·exact hall i (by omega)
  unfold Zbn.b11
  simp[go_sem,Zdc,h]
  refine Za (fun h1=>?_) (fun h1=>?_)<;>simp at h1
  ·exact step _ (by simp[Zb3];omega)
  simp[go_sem,Zdc,h]
  refine Za (fun h2=>?_) (fun h2=>?_)<;>simp at h2
  ·exact step _ (by simp[Zb3];omega)
  simp[go_sem,Zdc,h]
  exact step _ (by rw[Bool.eq_iff_iff];simp[Zb3];omega)
 ·unfold Zbn.b3
  have fin:∀b,b=tmB s→R (.returned (.bool b)) w:=fun b hb=>hR _ _ ⟨by rw[hb],rfl⟩
  simp[go_sem]
  refine Za (fun h1=>?_) (fun h1=>?_)<;>simp at h1
  ·simp[go_sem]
   refine fin _ ?_
   rw[Bool.eq_iff_iff,Zhu]
   simp
   constructor
   ·intro h2;exact ⟨by omega,by omega,fun i hi=>hall i (by omega)⟩
   ·intro h2;have:=h2.2.1;omega
  ·exact no (fun hn=>by have:=hn.1;omega) _ rfl
theorem Znj {s:ByteArray}(hs:s.size≤maxLen)(w:World):Ct Tryz.prog Zax.id #[.string s] w fun v w'=>v = .bool (nmB s)∧w=w':=by
 refine Zax.ct fun R hR=>?_
 have no:¬Zfi s→R (.returned (.bool false)) w:=fun h=>hR _ _ ⟨by rw[ZZ169 h],rfl⟩
 unfold Zax.run Zax.b1 Zax.b4
 refine Zax.l6_intro _ _ _ _ (fun x w1=>∃k:Nat,x = .int .i64 k∧k≤s.size∧(∀i,i<k→Zbq (bt s i)=true)∧(0<k→(Zcd (bt s 0) || decide (bt s 0=95))=true)∧w=w1) (fun x _=>s.size-iv x) ⟨0,rfl,by omega,fun i h=>by omega,fun h=>by omega,rfl⟩ ?_
 rintro _ _ ⟨k,rfl,hk,hall,hfst,rfl⟩ C hC
 unfold Zax.b7
 simp[go_sem]
 refine Za (fun h=>?_) (fun h=>?_)<;>simp at h
 ·have h12:∀b,b=(Zcd (bt s k) || decide (bt s k=95))→Zax.b12 R C (.string s) (.int .i64 k) (.bool b) w:=by
   intro b hb
   have h13:∀d,d=(decide (48≤bt s k∧bt s k≤57) && decide (0<k))→Zax.b13 R C (.int .i64 k) (.bool b) (.bool d) w:=by
    intro d hd
    have bad:(b || d)=false→Zax.b14 R C (.int .i64 k) (.bool true) w:=by
     intro hbd
     unfold Zax.b14
     simp[go_sem]
     refine no fun hn=>?_
     have h1:=hn.2.2.2 k h
     have h2:=hn.2.2.1
     rw[hb,hd]at hbd
     by_cases h0:k=0
     ·rw[h0,h2]at hbd
      cases hbd
     ·simp[Zbq]at h1 hbd
      rcases h1 with h1|h1|h1
      ·rw[h1]at hbd;simp at hbd
      ·exact hbd.1.2 h1
      ·have:=hbd.2 h1.1 h1.2;omega
    have good:(b || d)=true→Zax.b14 R C (.int .i64 k) (.bool false) w:=by
     intro hbd
     unfold Zax.b14
     simp[go_sem]
     unfold Zax.b9
     simp[go_sem,Zau h hs]
     rw[hb,hd]at hbd
     refine hC _ _ ⟨k+1,by simp,by omega,fun i hi=>?_,fun _=>?_,rfl⟩ (by simp[iv];omega)
     ·by_cases he:i=k
      ·rw[he]
       simp[Zbq]at hbd ⊢
       rcases hbd with hbd|hbd
       ·rcases hbd with hbd|hbd
        ·exact Or.inl hbd
        ·exact Or.inr (Or.inl hbd)
       ·exact Or.inr (Or.inr hbd.1)
      ·exact hall i (by omega)
     ·by_cases he:k=0
      ·rw[he]at hbd
       simp at hbd ⊢
       exact hbd
      ·exact hfst (by omega)
    unfold Zax.b13
    cases b with
    | true=>simp[go_sem];exact good rfl
    | false=>
     simp[go_sem]
     cases d with
     | true=>exact good rfl
     | false=>exact bad rfl
   unfold Zax.b12
   simp[go_sem,Zdc,h]
   refine Za (fun h1=>?_) (fun h1=>?_)
   ·simp[go_sem,Zdc,h]
    refine Za (fun h2=>?_) (fun h2=>?_)
    ·simp[go_sem]
     refine h13 _ ?_
     rw[Bool.eq_iff_iff]
     simp at h1 h2 ⊢
     omega
    ·refine h13 false ?_
     simp at h1 h2 ⊢
     omega
   ·refine h13 false ?_
    simp at h1 ⊢
    omega
  unfold Zax.b11
  simp[go_sem,Zdc,h]
  have e1:∀c:Nat,Zcd c=decide (65≤c∧c≤90∨97≤c∧c≤122):=fun c=>rfl
  refine Za (fun h1=>?_) (fun h1=>?_)
  all_goals simp[go_sem,Zdc,h]
  ·refine Za (fun h2=>?_) (fun h2=>?_)
   ·exact h12 true (by simp at h1 h2;simp[e1];omega)
   ·simp[go_sem,Zdc,h]
    refine Za (fun h3=>?_) (fun h3=>?_)
    all_goals simp[go_sem,Zdc,h]
    ·refine Za (fun h4=>?_) (fun h4=>?_)
     ·exact h12 true (by simp at h3 h4;simp[e1];omega)
     ·simp[go_sem,Zdc,h]
      exact h12 _ (by rw[Bool.eq_iff_iff];simp at h1 h2 h3 h4;simp[e1];omega)
    ·exact h12 _ (by rw[Bool.eq_iff_iff];simp at h1 h2 h3;simp[e1];omega)
  ·refine Za (fun h3=>?_) (fun h3=>?_)
   all_goals simp[go_sem,Zdc,h]
   ·refine Za (fun h4=>?_) (fun h4=>?_)
    ·exact h12 true (by simp at h3 h4;simp[e1];omega)
    ·simp[go_sem,Zdc,h]
     exact h12 _ (by rw[Bool.eq_iff_iff];simp at h1 h3 h4;simp[e1];omega)
   ·exact h12 _ (by rw[Bool.eq_iff_iff];simp at h1 h3;simp[e1];omega)
 ·unfold Zax.b3
  have fin:∀b,b=nmB s→R (.returned (.bool b)) w:=fun b hb=>hR _ _ ⟨by rw[hb],rfl⟩
  simp[go_sem]
  refine Za (fun h1=>?_) (fun h1=>?_)<;>simp at h1
  ·simp[go_sem]
   refine fin _ ?_
   rw[Bool.eq_iff_iff,Zho]
   simp
   constructor
   ·intro h2;exact ⟨by omega,by omega,hfst (by omega),fun i hi=>hall i (by omega)⟩
   ·intro h2;have:=h2.2.1;omega
  ·exact no fun hn=>by have:=hn.1;omega
end Go.Proofs.YtckbgeedlobfaaaGreatDoor
namespace Go.Proofs.YtckbgeedlobfaaaGreatDoor
open Go.Px Go.Px.Scan Go.RowKit
attribute [-go_sem] Builtin.append_
structure GRd (w:World)(B q:Nat)(g:Gr)(A1:Option Addr)(c1:Nat)(A2:Option Addr)(c2:Nat)(A3:Option Addr)(c3:Nat)(A4:Option Addr)(c4:Nat):Prop where
 k:(w.cell? ⟨q,0,none⟩=some (.slice A1 g.terms.length c1)∧w.cell? ⟨q,1,none⟩=some (.slice A2 g.nons.length c2)∧w.cell? ⟨q,2,none⟩=some (.slice A3 g.levels.length c3)∧w.cell? ⟨q,3,none⟩=some (.int .i64 g.start)∧w.cell? ⟨q,4,none⟩=some (.slice A4 g.prods.length c4))
 r1:(Zo Zl1).at1 w B (.slice A1 g.terms.length c1) g.terms
 r2:(Zo rStr).at1 w B (.slice A2 g.nons.length c2) g.nons
 r3:(Zo rInt).at1 w B (.slice A3 g.levels.length c3) g.levels
 r4:(Zo rPr).at1 w B (.slice A4 g.prods.length c4) g.prods
 sz:B≤w.heap.size
theorem Ziv {w:World}{B:Nat}{v:Value}{g:Gr}(h:Zcz.atN w B v g)(hB:B≤w.heap.size):∃A1 c1 A2 c2 A3 c3 A4 c4,v = .agg #[.slice A1 g.terms.length c1,.slice A2 g.nons.length c2,.slice A3 g.levels.length c3,.int .i64 g.start,.slice A4 g.prods.length c4] ∧
  (g.terms.length≤maxLen∧g.nons.length≤maxLen∧g.levels.length≤maxLen∧g.prods.length≤maxLen)∧Zz g.start∧Chg noB w (w.alloc (.cells #[.slice A1 g.terms.length c1,.slice A2 g.nons.length c2,.slice A3 g.levels.length c3,.int .i64 g.start,.slice A4 g.prods.length c4] 27)) ∧
  ∀w',Chg noB (w.alloc (.cells #[.slice A1 g.terms.length c1,.slice A2 g.nons.length c2,.slice A3 g.levels.length c3,.int .i64 g.start,.slice A4 g.prods.length c4] 27)) w'→GRd w' B w.heap.size g A1 c1 A2 c2 A3 c3 A4 c4:=by
 obtain ⟨A1,c1,A2,c2,A3,c3,A4,c4,rfl,h1,h2,h3,h4,h5,⟨l1,m1⟩,⟨l2,m2⟩,⟨l3,m3⟩,⟨l4,m4⟩⟩:=(Zbl h).ex
 have h0:=(St.refl noB w).alloc #[.slice A1 g.terms.length c1,.slice A2 g.nons.length c2,.slice A3 g.levels.length c3,.int .i64 g.start,.slice A4 g.prods.length c4] 27
 refine ⟨A1,c1,A2,c2,A3,c3,A4,c4,rfl,⟨by omega,by omega,by omega,by omega⟩,h4,h0.chg,fun w' hc=>?_⟩
 have h1':=h0.old hc
 have k0:=h1'.box 0 rfl
 simp[Zp]at k0
 have hbl:=h1'.chg.below hB fun _ _=>id
 exact ⟨k0.1,Rep.below h1 hbl,Rep.below h2 hbl,Rep.below h3 hbl,Rep.below h5 hbl,by have:=h1'.chg.size;omega⟩
theorem Zlh {w:World}{B:Nat}{v:Value}{g:Gr}(h:Zcz.atN w B v g)(hB:B≤w.heap.size)(hs:g.terms.length+g.nons.length≤1000):Ct Tryz.prog Zdg.id #[v] w fun r w'=>r = .int .i64 ((g.terms.length:Int)+g.nons.length)∧Chg noB w w':=by
 refine Zdg.ct fun R hR=>?_
 obtain ⟨A1,c1,A2,c2,A3,c3,A4,c4,rfl,_,_,hc0,hg⟩:=Ziv h hB
 unfold Zdg.run
 have ws:IntKind.i64.wrap ((g.terms.length:Int)+g.nons.length)=(g.terms.length:Int)+g.nons.length:=IntWalk.i64_in _ (by omega)
 simp -dsimp[go_sem,ws]
 exact hR _ _ ⟨rfl,hc0⟩
theorem Znk {a b:ByteArray}:a.toList=b.toList↔a=b:=by
 constructor
 ·intro h;rw[ByteArray.toList_eq,ByteArray.toList_eq]at h;exact Zh6 h
 ·rintro rfl;rfl
def Zv1 (g:Gr):Prop:=g.terms.head?=some (⟨#[]⟩,0)∧(∀t∈g.terms.tail,Zr3 g t)∧(g.terms.tail.map (·.1)).Nodup
open Classical in
noncomputable def ZZ62 (g:Gr):Bool:=decide (Zv1 g)
theorem Zi9 {g:Gr}:ZZ62 g=true↔Zv1 g:=@decide_eq_true_iff _ (_)
theorem Zua {w:World}{B:Nat}{v:Value}{g:Gr}(h:Zcz.atN w B v g)(hB:B≤w.heap.size):Ct Tryz.prog Zc6.id #[v] w fun r w'=>r = .bool (ZZ62 g)∧Chg noB w w':=by
 refine Zc6.ct fun R hR=>?_
 obtain ⟨A1,c1,A2,c2,A3,c3,A4,c4,rfl,⟨m1,m2,m3,m4⟩,_,hc0,hg⟩:=Ziv h hB
 have no:∀w',Chg noB w w'→¬Zv1 g→R (.returned (.bool false)) w':=fun w' hc hn=>hR _ _ ⟨by rw[Zfp Zi9 hn],hc⟩
 unfold Zc6.run
 simp -dsimp[go_sem]
 generalize w.alloc (.cells #[.slice A1 g.terms.length c1,.slice A2 g.nons.length c2,.slice A3 g.levels.length c3,.int .i64 g.start,.slice A4 g.prods.length c4] 27)=w1 at hc0 hg ⊢
 generalize w.heap.size=q at hg ⊢
 have z1:=hg w1 (Chg.refl _ _)
 refine Za (fun q1=>?_) (fun q1=>?_)<;>simp at q1
 ·simp -dsimp[go_sem]
  exact no _ hc0 fun hs=>by have:=hs.1;rw[q1]at this;cases this
 have q1':0<g.terms.length:=List.length_pos_iff.2 q1
 obtain ⟨b1,o1,rfl,hb1,d1,d2,_,_⟩:=Zdw z1.r1 q1'
 simp at d1 d2
 have hh:g.terms.head?=some g.terms[0]:=by rw[List.head?_eq_getElem?,List.getElem?_eq_getElem q1']
 simp -dsimp[go_sem,z1.k,q1',d1,d2]
 refine Za (fun q2=>?_) (fun q2=>?_)<;>simp at q2
 ·simp -dsimp[go_sem]
  refine no _ hc0 fun hs=>q2 ?_
  have:=hs.1;rw[hh]at this;injection this with this;rw[this,ByteArray.toList_eq]
 simp -dsimp[go_sem,z1.k,q1',d1,d2]
 refine Za (fun q3=>?_) (fun q3=>?_)<;>simp at q3
 ·refine no _ hc0 fun hs=>q3 ?_
  have:=hs.1;rw[hh]at this;injection this with this;rw[this]
 have ht0:g.terms.head?=some (⟨#[]⟩,0):=by
  rw[hh];congr 1
  exact Prod.ext (Zh6 (by rw[←ByteArray.toList_eq];exact q2)) q3
 obtain ⟨t0,tl,hE⟩:∃t tl,g.terms=t::tl:=by
  cases e:g.terms with
  | nil=>exact absurd e q1
  | cons t r=>exact ⟨t,r,rfl⟩
 have hlen:g.terms.length=tl.length+1:=by rw[hE];rfl
 have htl:g.terms.tail=tl:=by rw[hE];rfl
 have hel:∀i (hi:i<tl.length),g.terms[i+1]'(by omega)=tl[i]:=fun i hi=>by simp[hE]
 simp -dsimp[go_sem]
 refine Zc6.l7_intro _ _ _ _ (fun y w'=>∃j k:Nat,y = .int .i64 j∧j=k+1∧k≤tl.length∧Chg noB w1 w'∧(∀t∈tl.take k,Zr3 g t)∧((tl.take k).map (·.1)).Nodup) (fun y _=>tl.length+1-iv y) ⟨1,0,rfl,rfl,by omega,Chg.refl _ _,by simp,by simp⟩ ?_
 rintro _ w2 ⟨j,k,rfl,hj,hk,hcw,hall,hnd⟩ C hC
 have z2:=hg w2 hcw
 simp -dsimp[go_sem,z2.k]
 refine Za (fun p1=>?_) (fun p1=>?_)<;>simp at p1
 ·have hk1:k<tl.length:=by omega
  obtain ⟨b2,o2,e2,hb2,f1,f2,f3,f4⟩:=Zdw z2.r1 p1
  injection e2 with e2;injection e2 with e2 e3;subst e2 e3
  have hej:g.terms[j]=tl[k]:=by subst hj;exact hel k hk1
  rw[hej]at f1 f2 f3 f4
  have bad:¬Zr3 g tl[k]→¬Zv1 g:=fun hn hs=>hn (hs.2.1 _ (by rw[htl];exact List.getElem_mem hk1))
  simp -dsimp[go_sem,z2.k,p1,f1]
  refine Zf (Zni f3 w2) ?_
  rintro _ _ ⟨rfl,rfl⟩
  have hcd:=hcw.drew
  have zd:=hg _ hcd
  obtain ⟨b3,o3,e3,hb3,f1',f2',_,_⟩:=Zdw zd.r1 p1
  injection e3 with e3;injection e3 with e3 e4;subst e3 e4
  rw[hej]at f1' f2'
  cases hT:tmB tl[k].1 with
  | false=>
   simp -dsimp[go_sem]
   exact no _ (hc0.trans hcd) (bad fun hs=>by rw[Zhu.2 hs.name]at hT;cases hT)
  | true=>
   simp -dsimp[go_sem,zd.k,p1,f1',f2']
   refine Za (fun p2=>?_) (fun p2=>?_)<;>simp at p2
   ·simp -dsimp[go_sem]
    exact no _ (hc0.trans hcd) (bad fun hs=>by have:=hs.lo;omega)
   simp -dsimp[go_sem,zd.k,p1,f1',f2']
   refine Za (fun p3=>?_) (fun p3=>?_)<;>simp at p3
   ·exact no _ (hc0.trans hcd) (bad fun hs=>by have:=hs.hi;omega)
   simp -dsimp[go_sem]
   refine Zc6.l16_intro _ _ _ _ _ _ (fun y w'=>∃i n:Nat,y = .int .i64 i∧i=n+1∧n≤k∧Chg noB w1 w'∧∀t∈tl.take n,t.1≠tl[k].1) (fun y _=>k+1-iv y) ⟨1,0,rfl,rfl,by omega,hcd,by simp⟩ ?_
   rintro _ w3 ⟨i,n,rfl,hi,hn,hc3,hne⟩ C' hC'
   simp -dsimp[go_sem]
   refine Za (fun p4=>?_) (fun p4=>?_)<;>simp at p4
   ·have hn1:n<tl.length:=by omega
    have hil:i<g.terms.length:=by omega
    have z3:=hg _ hc3.drew
    obtain ⟨b4,o4,e4,hb4,x1,_⟩:=Zdw z3.r1 p1
    injection e4 with e4;injection e4 with e4 e5;subst e4 e5
    obtain ⟨b5,o5,e5,hb5,y1,_⟩:=Zdw z3.r1 hil
    injection e5 with e5;injection e5 with e5 e6;subst e5 e6
    have hei:g.terms[i]=tl[n]:=by subst hi;exact hel n hn1
    rw[hej]at x1
    rw[hei]at y1
    have wi:IntKind.i64.wrap ((i:Int)+1)=(i:Int)+1:=IntWalk.i64_in _ (by unfold maxLen at m1;omega)
    simp -dsimp[go_sem,z3.k,p1,hil,x1,y1]
    refine Za (fun p5=>?_) (fun p5=>?_)<;>simp at p5
    ·refine no _ (hc0.trans hc3.drew) fun hs=>?_
     have:=List.pairwise_iff_getElem.1 hs.2.2 n k (by simp[htl];omega) (by simp[htl];omega) (by omega)
     simp[htl]at this
     exact this (Znk.1 p5)
    ·simp -dsimp[go_sem,wi]
     refine hC' _ _ ⟨i+1,n+1,by simp,by omega,by omega,hc3.drew,fun t ht=>?_⟩ (by simp[iv];omega)
     rw[List.take_succ_eq_append_getElem hn1]at ht
     rcases List.mem_append.1 ht with ht|ht
     ·exact hne t ht
     ·rw[List.mem_singleton.1 ht]
      exact fun e=>p5 (by rw[e])
   ·have hnk:n=k:=by omega
    subst hnk
    have wj:IntKind.i64.wrap ((j:Int)+1)=(j:Int)+1:=IntWalk.i64_in _ (by unfold maxLen at m1;omega)
    simp -dsimp[go_sem,wj]
    have htk:tl.take (n+1)=tl.take n++[tl[n]]:=List.take_succ_eq_append_getElem hk1
    refine hC _ _ ⟨j+1,n+1,by simp,by omega,by omega,hc3,fun t ht=>?_,?_⟩ (by simp[iv];omega)
    ·rw[htk]at ht
     rcases List.mem_append.1 ht with ht|ht
     ·exact hall t ht
     ·rw[List.mem_singleton.1 ht];exact ⟨Zhu.1 hT,by omega,by omega⟩
    ·rw[htk,List.map_append]
     refine List.nodup_append.2 ⟨hnd,by simp,fun a ha b hb=>?_⟩
     obtain ⟨t,ht,rfl⟩:=List.mem_map.1 ha
     simp at hb
     subst hb
     exact hne t ht
 ·have hka:k=tl.length:=by omega
  subst hka
  rw[List.take_length]at hall hnd
  simp -dsimp[go_sem]
  refine hR _ _ ⟨?_,hc0.trans hcw⟩
  rw[Zi9.2 ⟨ht0,by rw[htl];exact hall,by rw[htl];exact hnd⟩]
end Go.Proofs.YtckbgeedlobfaaaGreatDoor
namespace Go.Proofs.YtckbgeedlobfaaaGreatDoor
open Go.Px Go.Px.Scan Go.RowKit
attribute [-go_sem] Builtin.append_
def Zml (g:Gr):Prop:=∀i (h:i<g.levels.length),1≤g.levels[i]∧g.levels[i]≤3∧∃t∈g.terms,t.2=(i:Int)+1
open Classical in
noncomputable def Zux (g:Gr):Bool:=decide (Zml g)
theorem Zjy {g:Gr}:Zux g=true↔Zml g:=@decide_eq_true_iff _ (_)
theorem Zsr {w:World}{B:Nat}{v:Value}{g:Gr}(h:Zcz.atN w B v g)(hB:B≤w.heap.size):Ct Tryz.prog Zcv.id #[v] w fun r w'=>r = .bool (Zux g)∧Chg noB w w':=by
 refine Zcv.ct fun R hR=>?_
 obtain ⟨A1,c1,A2,c2,A3,c3,A4,c4,rfl,⟨m1,m2,m3,m4⟩,_,hc0,hg⟩:=Ziv h hB
 have no:∀w',Chg noB w w'→¬Zml g→R (.returned (.bool false)) w':=fun w' hc hn=>hR _ _ ⟨by rw[Zfp Zjy hn],hc⟩
 unfold Zcv.run
 simp -dsimp[go_sem]
 generalize w.alloc (.cells #[.slice A1 g.terms.length c1,.slice A2 g.nons.length c2,.slice A3 g.levels.length c3,.int .i64 g.start,.slice A4 g.prods.length c4] 27)=w1 at hc0 hg ⊢
 generalize w.heap.size=q at hg ⊢
 refine Zcv.l6_intro _ _ _ _ (fun y w'=>∃k:Nat,y = .int .i64 k∧k≤g.levels.length∧Chg noB w1 w'∧∀i (h:i<g.levels.length),i<k→1≤g.levels[i]∧g.levels[i]≤3∧∃t∈g.terms,t.2=(i:Int)+1) (fun y _=>g.levels.length-iv y) ⟨0,rfl,by omega,Chg.refl _ _,fun i h h0=>by omega⟩ ?_
 rintro _ w2 ⟨k,rfl,hk,hcw,hall⟩ C hC
 have z2:=hg w2 hcw
 simp -dsimp[go_sem,z2.k]
 refine Za (fun p1=>?_) (fun p1=>?_)<;>simp at p1
 ·have wk:IntKind.i64.wrap ((k:Int)+1)=(k:Int)+1:=IntWalk.i64_in _ (by unfold maxLen at m3;omega)
  simp -dsimp[go_sem]
  refine Zcv.l17_intro _ _ _ _ _ _ _ (fun x y w'=>∃(j:Nat) (b:Bool),y = .int .i64 j∧x = .bool b∧j≤g.terms.length∧Chg noB w1 w'∧(b=true↔∃t∈g.terms.take j,t.2=(k:Int)+1)) (fun _ y _=>g.terms.length-iv y) ⟨0,false,rfl,rfl,by omega,hcw,by simp⟩ ?_
  rintro _ _ w3 ⟨j,b,rfl,rfl,hj,hc3,hb⟩ C' hC'
  have z3:=hg w3 hc3
  simp -dsimp[go_sem,z3.k]
  refine Za (fun p2=>?_) (fun p2=>?_)<;>simp at p2
  ·have wj:IntKind.i64.wrap ((j:Int)+1)=(j:Int)+1:=IntWalk.i64_in _ (by unfold maxLen at m1;omega)
   have htk:g.terms.take (j+1)=g.terms.take j++[g.terms[j]]:=List.take_succ_eq_append_getElem p2
   obtain ⟨b4,o4,rfl,hb4,x1,x2,_⟩:=Zdw z3.r1 p2
   have mem:(∃t∈g.terms.take (j+1),t.2=(k:Int)+1)↔(∃t∈g.terms.take j,t.2=(k:Int)+1)∨g.terms[j].2=(k:Int)+1:=by
    rw[htk]
    constructor
    ·rintro ⟨t,ht,e⟩
     rcases List.mem_append.1 ht with ht|ht
     ·exact Or.inl ⟨t,ht,e⟩
     ·rw[List.mem_singleton.1 ht]at e;exact Or.inr e
    ·rintro (⟨t,ht,e⟩|e)
     ·exact ⟨t,List.mem_append_left _ ht,e⟩
     ·exact ⟨_,List.mem_append_right _ (List.mem_singleton.2 rfl),e⟩
   cases b with
   | true=>
    simp -dsimp[go_sem,wj]
    refine hC' _ _ _ ⟨j+1,true,by simp,rfl,by omega,hc3,?_⟩ (by simp[iv];omega)
    rw[mem];exact ⟨fun _=>Or.inl (hb.1 rfl),fun _=>rfl⟩
   | false=>
    simp -dsimp[go_sem,z3.k,p2,x1,x2,wj,wk]
    refine hC' _ _ _ ⟨j+1,_,by simp,rfl,by omega,hc3,?_⟩ (by simp[iv];omega)
    rw[mem,beq_iff_eq]
    constructor
    ·exact Or.inr
    ·rintro (h1|h1)
     ·exact absurd (hb.2 h1) (by simp)
     ·exact h1
  ·have hja:j=g.terms.length:=by omega
   subst hja
   rw[List.take_length]at hb
   have bad:¬(1≤g.levels[k]∧g.levels[k]≤3∧∃t∈g.terms,t.2=(k:Int)+1)→¬Zml g:=fun hn hs=>hn (hs k p1)
   cases b with
   | false=>
    simp -dsimp[go_sem]
    exact no _ (hc0.trans hc3) (bad fun hs=>by have:=hb.2 hs.2.2;cases this)
   | true=>
    obtain ⟨b5,o5,rfl,hb5,y1,_⟩:=Go.Px.ints_at z3.r3 p1
    simp -dsimp[go_sem,z3.k,p1,y1]
    refine Za (fun p3=>?_) (fun p3=>?_)<;>simp at p3
    ·simp -dsimp[go_sem]
     exact no _ (hc0.trans hc3) (bad fun hs=>by omega)
    simp -dsimp[go_sem,z3.k,p1,y1]
    refine Za (fun p4=>?_) (fun p4=>?_)<;>simp at p4
    ·exact no _ (hc0.trans hc3) (bad fun hs=>by omega)
    simp -dsimp[go_sem,wk]
    refine hC _ _ ⟨k+1,by simp,by omega,hc3,fun i hi hik=>?_⟩ (by simp[iv];omega)
    by_cases e:i=k
    ·subst e;exact ⟨by omega,by omega,hb.1 rfl⟩
    ·exact hall i hi (by omega)
 ·simp -dsimp[go_sem]
  refine hR _ _ ⟨?_,hc0.trans hcw⟩
  rw[Zjy.2 fun i hi=>hall i hi (by omega)]
def NonsP (g:Gr)(a:Nat):Prop:=(g.nons.drop a).Nodup∧∀s∈g.nons.drop a,Zfi s
open Classical in
noncomputable def nonsB (g:Gr)(a:Nat):Bool:=decide (NonsP g a)
theorem Zol {g:Gr}{a:Nat}:nonsB g a=true↔NonsP g a:=@decide_eq_true_iff _ (_)
theorem Zwv {w:World}{B:Nat}{v:Value}{g:Gr}(h:Zcz.atN w B v g)(hB:B≤w.heap.size)(a:Nat)(ha:a≤1):Ct Tryz.prog Zdk.id #[v,.int .i64 a] w fun r w'=>r = .bool (nonsB g a)∧Chg noB w w':=by
 refine Zdk.ct fun R hR=>?_
 obtain ⟨A1,c1,A2,c2,A3,c3,A4,c4,rfl,⟨m1,m2,m3,m4⟩,_,hc0,hg⟩:=Ziv h hB
 have no:∀w',Chg noB w w'→¬NonsP g a→R (.returned (.bool false)) w':=fun w' hc hn=>hR _ _ ⟨by rw[Zfp Zol hn],hc⟩
 unfold Zdk.run
 simp -dsimp[go_sem]
 generalize w.alloc (.cells #[.slice A1 g.terms.length c1,.slice A2 g.nons.length c2,.slice A3 g.levels.length c3,.int .i64 g.start,.slice A4 g.prods.length c4] 27)=w1 at hc0 hg ⊢
 generalize w.heap.size=q at hg ⊢
 generalize hE:g.nons.drop a=nl
 have hnl:nl.length=g.nons.length-a:=by rw[←hE];simp
 have hel:∀i (hi:i<nl.length),g.nons[a+i]'(by omega)=nl[i]:=fun i hi=>by simp[←hE]
 refine Zdk.l6_intro _ _ _ _ _ (fun y w'=>∃j k:Nat,y = .int .i64 j∧j=a+k∧(k≤nl.length)∧Chg noB w1 w'∧(nl.take k).Nodup∧∀s∈nl.take k,Zfi s) (fun y _=>g.nons.length+a-iv y) ⟨a,0,rfl,rfl,by omega,Chg.refl _ _,by simp,by simp⟩ ?_
 rintro _ w2 ⟨j,k,rfl,hj,hk,hcw,hnd,hall⟩ C hC
 have z2:=hg w2 hcw
 simp -dsimp[go_sem,z2.k]
 refine Za (fun p1=>?_) (fun p1=>?_)<;>simp at p1
 ·have hk1:k<nl.length:=by omega
  obtain ⟨b4,o4,rfl,hb4,x1,x2⟩:=Go.Px.strs_at z2.r2 p1
  have hej:g.nons[j]=nl[k]:=by subst hj;exact hel k hk1
  rw[hej]at x1 x2
  have wj:IntKind.i64.wrap ((j:Int)+1)=(j:Int)+1:=IntWalk.i64_in _ (by unfold maxLen at m2;omega)
  simp -dsimp[go_sem,z2.k,p1,x1]
  refine Zf (Znj x2 w2) ?_
  rintro _ _ ⟨rfl,rfl⟩
  cases hT:nmB nl[k]with
  | false=>
   simp -dsimp[go_sem]
   exact no _ (hc0.trans hcw) fun hs=>by rw[Zho.2 (hs.2 _ (by rw[hE];exact List.getElem_mem hk1))]at hT;cases hT
  | true=>
   simp -dsimp[go_sem]
   refine Zdk.l13_intro _ _ _ _ _ _ (fun y w'=>∃i n:Nat,y = .int .i64 i∧i=a+n∧n≤k∧Chg noB w1 w'∧∀s∈nl.take n,s≠nl[k]) (fun y _=>a+k-iv y) ⟨a,0,rfl,rfl,by omega,hcw,by simp⟩ ?_
   rintro _ w3 ⟨i,n,rfl,hi,hn,hc3,hne⟩ C' hC'
   simp -dsimp[go_sem]
   refine Za (fun p4=>?_) (fun p4=>?_)<;>simp at p4
   ·have hn1:n<nl.length:=by omega
    have hil:i<g.nons.length:=by omega
    have z3:=hg _ hc3.drew
    obtain ⟨b5,o5,e4,hb5,y1,_⟩:=Go.Px.strs_at z3.r2 p1
    injection e4 with e4;injection e4 with e4 e5;subst e4 e5
    obtain ⟨b6,o6,e4,hb6,y2,_⟩:=Go.Px.strs_at z3.r2 hil
    injection e4 with e4;injection e4 with e4 e5;subst e4 e5
    have hei:g.nons[i]=nl[n]:=by subst hi;exact hel n hn1
    rw[hej]at y1
    rw[hei]at y2
    have wi:IntKind.i64.wrap ((i:Int)+1)=(i:Int)+1:=IntWalk.i64_in _ (by unfold maxLen at m2;omega)
    simp -dsimp[go_sem,z3.k,p1,hil,y1,y2]
    refine Za (fun p5=>?_) (fun p5=>?_)<;>simp at p5
    ·refine no _ (hc0.trans hc3.drew) fun hs=>?_
     have h9:=hs.1
     rw[hE]at h9
     exact List.pairwise_iff_getElem.1 h9 n k hn1 hk1 (by omega) (Znk.1 p5)
    ·simp -dsimp[go_sem,wi]
     refine hC' _ _ ⟨i+1,n+1,by simp,by omega,by omega,hc3.drew,fun t ht=>?_⟩ (by simp[iv];omega)
     rw[List.take_succ_eq_append_getElem hn1]at ht
     rcases List.mem_append.1 ht with ht|ht
     ·exact hne t ht
     ·rw[List.mem_singleton.1 ht]
      exact fun e=>p5 (by rw[e])
   ·have hnk:n=k:=by omega
    subst hnk
    simp -dsimp[go_sem,wj]
    have htk:nl.take (n+1)=nl.take n++[nl[n]]:=List.take_succ_eq_append_getElem hk1
    refine hC _ _ ⟨j+1,n+1,by simp,by omega,by omega,hc3,?_,fun t ht=>?_⟩ (by simp[iv];omega)
    ·rw[htk]
     refine List.nodup_append.2 ⟨hnd,by simp,fun x hx y hy=>?_⟩
     rw[List.mem_singleton.1 hy]
     exact hne x hx
    ·rw[htk]at ht
     rcases List.mem_append.1 ht with ht|ht
     ·exact hall t ht
     ·rw[List.mem_singleton.1 ht];exact Zho.1 hT
 ·have hka:k=nl.length:=by omega
  subst hka
  rw[List.take_length]at hall hnd
  simp -dsimp[go_sem]
  refine hR _ _ ⟨?_,hc0.trans hcw⟩
  rw[Zol.2 (by unfold NonsP;rw[hE];exact ⟨hnd,hall⟩)]
end Go.Proofs.YtckbgeedlobfaaaGreatDoor
namespace Go.Proofs.YtckbgeedlobfaaaGreatDoor
open Go.Px Go.Px.Scan Go.RowKit
attribute [-go_sem] Builtin.append_
def Zwj (g:Gr)(a:Nat):Prop:=∀p∈g.prods.drop a,Zh4 g a p
open Classical in
noncomputable def pfitB (g:Gr)(a:Nat):Bool:=decide (Zwj g a)
theorem Zoq {g:Gr}{a:Nat}:pfitB g a=true↔Zwj g a:=@decide_eq_true_iff _ (_)
theorem Zus {w:World}{B:Nat}{v:Value}{g:Gr}(h:Zcz.atN w B v g)(hB:B≤w.heap.size)(a:Nat)(ha:a≤1)(hs:g.terms.length+g.nons.length≤1000) :
  Ct Tryz.prog Zc5.id #[v,.int .i64 a,.int .i64 ((g.terms.length:Int)+a)] w fun r w'=>r = .bool (pfitB g a)∧Chg noB w w':=by
 refine Zc5.ct fun R hR=>?_
 obtain ⟨A1,c1,A2,c2,A3,c3,A4,c4,rfl,⟨m1,m2,m3,m4⟩,_,hc0,hg⟩:=Ziv h hB
 have no:∀w',Chg noB w w'→¬Zwj g a→R (.returned (.bool false)) w':=fun w' hc hn=>hR _ _ ⟨by rw[Zfp Zoq hn],hc⟩
 unfold Zc5.run
 simp -dsimp[go_sem]
 generalize hw1:w.alloc (.cells #[.slice A1 g.terms.length c1,.slice A2 g.nons.length c2,.slice A3 g.levels.length c3,.int .i64 g.start,.slice A4 g.prods.length c4] 27)=w1 at hc0 hg ⊢
 have hz:∀w',Chg noB w1 w'→Zcz.atN w' B (.agg #[.slice A1 g.terms.length c1,.slice A2 g.nons.length c2,.slice A3 g.levels.length c3,.int .i64 g.start,.slice A4 g.prods.length c4]) g∧B≤w'.heap.size:=fun w' hc=>
  ⟨Za2 h ((hc0.trans hc).below hB fun _ _=>id),(hg w' hc).sz⟩
 generalize w.heap.size=q at hg ⊢
 generalize hE:g.prods.drop a=nl
 have hnl:nl.length=g.prods.length-a:=by rw[←hE];simp
 have hel:∀i (hi:i<nl.length),g.prods[a+i]'(by omega)=nl[i]:=fun i hi=>by simp[←hE]
 refine Zc5.l6_intro _ _ _ _ _ (fun y w'=>∃j k:Nat,y = .int .i64 j∧j=a+k∧k≤nl.length∧Chg noB w1 w'∧∀p∈nl.take k,Zh4 g a p) (fun y _=>g.prods.length+a-iv y) ⟨a,0,rfl,rfl,by omega,Chg.refl _ _,by simp⟩ ?_
 rintro _ w2 ⟨j,k,rfl,hj,hk,hcw,hall⟩ C hC
 have z2:=hg w2 hcw
 simp -dsimp[go_sem,z2.k]
 refine Za (fun p1=>?_) (fun p1=>?_)<;>simp at p1
 ·have hk1:k<nl.length:=by omega
  have wj:IntKind.i64.wrap ((j:Int)+1)=(j:Int)+1:=IntWalk.i64_in _ (by unfold maxLen at m4;omega)
  obtain ⟨b2,o2,vr,rfl,hb2,d1,d2,d3,dr,i1,i2⟩:=Zev z2.r4 p1
  obtain ⟨Ar,cr,rfl,lr,mr,_⟩:=Zay dr
  have hej:g.prods[j]=nl[k]:=by subst hj;exact hel k hk1
  have bad:¬Zh4 g a g.prods[j]→¬Zwj g a:=fun hn hs=>hn (hs _ (by rw[hE,hej];exact List.getElem_mem hk1))
  generalize hp:g.prods[j]=p at d1 d2 d3 dr i1 i2 lr bad
  have s3:=(St.refl noB w2).alloc #[.int .i64 p.1,.slice Ar p.2.1.length cr,.int .i64 p.2.2] 50
  have z3:=hg _ (hcw.trans s3.chg)
  simp -dsimp[go_sem,z2.k,p1,d1,d2,d3,z3.k]
  generalize w2.heap.size=pb at s3 ⊢
  generalize w2.alloc (.cells #[.int .i64 p.1,.slice Ar p.2.1.length cr,.int .i64 p.2.2] 50)=w3 at s3 z3 ⊢
  have y3:=s3.box 0 rfl
  simp[Zp]at y3
  have s3d:=s3.old ((Chg.refl noB w3).drew)
  have z3d:=hg _ (hcw.trans s3d.chg)
  have y3d:=s3d.box 0 rfl
  simp[Zp]at y3d
  refine Za (fun p2=>?_) (fun p2=>?_)<;>simp at p2
  ·simp -dsimp[go_sem]
   exact no _ (hc0.trans (hcw.trans s3d.chg)) (bad fun hs=>by have:=hs.l0;omega)
  simp -dsimp[go_sem,y3d,z3d.k]
  refine Zf (Zlh (hz _ (hcw.trans s3d.chg)).1 (hz _ (hcw.trans s3d.chg)).2 hs) ?_
  rintro _ w4 ⟨rfl,hc4⟩
  have s4:=s3d.old hc4
  have h4:=hcw.trans s4.chg
  have z4:=hg _ h4
  have y4:=s4.box 0 rfl
  simp[Zp]at y4
  simp -dsimp[go_sem,y4,z4.k]
  refine Za (fun p3=>?_) (fun p3=>?_)<;>simp at p3
  ·simp -dsimp[go_sem]
   exact no _ (hc0.trans h4) (bad fun hs=>by have:=hs.l1;omega)
  simp -dsimp[go_sem,y4,z4.k]
  refine Za (fun p4=>?_) (fun p4=>?_)<;>simp at p4
  ·simp -dsimp[go_sem]
   exact no _ (hc0.trans h4) (bad fun hs=>by have:=hs.v0;omega)
  simp -dsimp[go_sem,y4,z4.k]
  refine Za (fun p5=>?_) (fun p5=>?_)<;>simp at p5
  ·exact no _ (hc0.trans h4) (bad fun hs=>by have:=hs.v1;omega)
  have hB2:=z2.sz
  simp -dsimp[go_sem]
  refine Zc5.l15_intro _ _ _ _ _ _ _ _ (fun y w'=>∃n:Nat,y = .int .i64 n∧n≤p.2.1.length∧St noB w2 w' [boxC pb 50 [.int .i64 p.1,.slice Ar p.2.1.length cr,.int .i64 p.2.2]] ∧
   ∀s∈p.2.1.take n,1≤s∧s<(g.terms.length+g.nons.length:Int)∧((g.terms.length:Int)≤s→(g.terms.length+a:Int)≤s)) (fun y _=>p.2.1.length-iv y) ⟨0,rfl,by omega,s4,by simp⟩ ?_
  rintro _ w5 ⟨n,rfl,hn,s5,hr⟩ C' hC'
  have h5:=hcw.trans s5.chg
  have z5:=hg _ h5
  have y5:=s5.box 0 rfl
  simp[Zp]at y5
  simp -dsimp[go_sem,y5]
  refine Za (fun q1=>?_) (fun q1=>?_)<;>simp at q1
  ·obtain ⟨b6,o6,rfl,hb6,e1,e2⟩:=Go.Px.ints_at (Rep.below dr (s5.chg.below hB2 fun _ _=>id)) q1
   have wn:=Zau q1 (Nat.le_trans lr mr)
   have bad2:¬(1≤p.2.1[n]∧p.2.1[n]<(g.terms.length+g.nons.length:Int)∧((g.terms.length:Int)≤p.2.1[n]→(g.terms.length+a:Int)≤p.2.1[n]))→¬Zwj g a:=fun hn=>bad fun hs=>hn (hs.right _ (List.getElem_mem q1))
   simp -dsimp[go_sem,y5,q1,e1]
   refine Za (fun q2=>?_) (fun q2=>?_)<;>simp at q2
   ·simp -dsimp[go_sem]
    exact no _ (hc0.trans h5) (bad2 fun hs=>by omega)
   simp -dsimp[go_sem,z5.k]
   refine Zf (Zlh (hz _ h5).1 (hz _ h5).2 hs) ?_
   rintro _ w6 ⟨rfl,hc6⟩
   have s6:=s5.old hc6
   have h6:=hcw.trans s6.chg
   have z6:=hg _ h6
   simp -dsimp[go_sem]
   refine Za (fun q3=>?_) (fun q3=>?_)<;>simp at q3
   ·simp -dsimp[go_sem]
    exact no _ (hc0.trans h6) (bad2 fun hs=>by omega)
   have good:(1≤p.2.1[n]∧p.2.1[n]<(g.terms.length+g.nons.length:Int)∧((g.terms.length:Int)≤p.2.1[n]→(g.terms.length+a:Int)≤p.2.1[n]))→C' (.int .i64 ((n:Int)+1)) w6:=fun hg=>by
    refine hC' _ _ ⟨n+1,by simp,by omega,s6,fun s hs=>?_⟩ (by simp[iv];omega)
    rw[List.take_succ_eq_append_getElem q1]at hs
    rcases List.mem_append.1 hs with hs|hs
    ·exact hr s hs
    ·rw[List.mem_singleton.1 hs];exact hg
   simp -dsimp[go_sem,z6.k]
   refine Za (fun q4=>?_) (fun q4=>?_)<;>simp at q4
   ·simp -dsimp[go_sem]
    refine Za (fun q5=>?_) (fun q5=>?_)<;>simp at q5
    ·exact no _ (hc0.trans h6) (bad2 fun hs=>by omega)
    ·simp -dsimp[go_sem,wn]
     exact good (by omega)
   ·simp -dsimp[go_sem,wn]
    exact good (by omega)
  ·have hna:n=p.2.1.length:=by omega
   subst hna
   rw[List.take_length]at hr
   simp -dsimp[go_sem,wj]
   refine hC _ _ ⟨j+1,k+1,by simp,by omega,by omega,h5,fun x hx=>?_⟩ (by simp[iv];omega)
   rw[List.take_succ_eq_append_getElem hk1]at hx
   rcases List.mem_append.1 hx with hx|hx
   ·exact hall x hx
   ·rw[List.mem_singleton.1 hx,←hej,hp]
    exact ⟨by omega,by omega,by omega,by omega,hr⟩
 ·have hka:k=nl.length:=by omega
  subst hka
  rw[List.take_length]at hall
  simp -dsimp[go_sem]
  refine hR _ _ ⟨?_,hc0.trans hcw⟩
  rw[Zoq.2 (by unfold Zwj;rw[hE];exact hall)]
theorem Zu2 {w:World}{B:Nat}{v:Value}{g:Gr}(h:Zcz.atN w B v g)(hB:B≤w.heap.size)(a:Nat)(ha:a≤1)(hp:g.prods.length≤1000) :
  Ct Tryz.prog Zdt.id #[v,.int .i64 a] w fun r w'=>(Zo rInt).at1 w' w'.heap.size r (Zj (g.prods.drop a))∧Chg noB w w':=by
 refine Zdt.ct fun R hR=>?_
 obtain ⟨A1,c1,A2,c2,A3,c3,A4,c4,rfl,⟨m1,m2,m3,m4⟩,_,hc0,hg⟩:=Ziv h hB
 unfold Zdt.run
 simp -dsimp[go_sem]
 generalize hw1:w.alloc (.cells #[.slice A1 g.terms.length c1,.slice A2 g.nons.length c2,.slice A3 g.levels.length c3,.int .i64 g.start,.slice A4 g.prods.length c4] 27)=w1 at hc0 hg ⊢
 generalize w.heap.size=q at hg ⊢
 generalize hE:g.prods.drop a=nl
 rw[hE]at hR
 have hnl:nl.length=g.prods.length-a:=by rw[←hE];simp
 have hel:∀i (hi:i<nl.length),g.prods[a+i]'(by omega)=nl[i]:=fun i hi=>by simp[←hE]
 have n0:=(St.refl noB w1).nilRow 3 1
 refine Zdt.l6_intro _ _ _ _ _ (fun x y w'=>∃(j k:Nat) (A:Option Addr) (n c:Nat),y = .int .i64 j∧x = .slice A n c∧j=a+k∧k≤nl.length∧n=(Zj (nl.take k)).length ∧
  St noB w1 w' [rowC 3 1 A n c ((Zj (nl.take k)).map (Value.int .i64 ·))]∧n≤k∧∀x∈Zj (nl.take k),Zz x) (fun _ y _=>g.prods.length+a-iv y) ⟨a,0,none,0,0,rfl,rfl,rfl,by omega,rfl,by simpa[Zj]using n0,by omega,by simp[Zj]⟩ ?_
 rintro _ _ w2 ⟨j,k,A,n,c,rfl,rfl,hj,hk,hn,hst,hnk,hin⟩ C hC
 have z2:=hg w2 hst.chg
 simp -dsimp[go_sem,z2.k]
 refine Za (fun p1=>?_) (fun p1=>?_)<;>simp at p1
 ·have hk1:k<nl.length:=by omega
  have wj:IntKind.i64.wrap ((j:Int)+1)=(j:Int)+1:=IntWalk.i64_in _ (by omega)
  have hej:g.prods[j]=nl[k]:=by subst hj;exact hel k hk1
  have htk:nl.take (k+1)=nl.take k++[nl[k]]:=List.take_succ_eq_append_getElem hk1
  have hlt:Zj (nl.take (k+1))=addL (Zj (nl.take k)) nl[k].1:=by rw[htk,Zir]
  have pr:∀w',Chg noB w2 w'→∃b o,A4=some ⟨b,o,none⟩∧w'.cell? ⟨b,o+j*3,none⟩=some (.int .i64 nl[k].1)∧Zz nl[k].1:=fun w' hc=>by
   obtain ⟨b,o,vr,e,_,d1,_,_,_,i1,_⟩:=Zev (hg w' (hst.chg.trans hc)).r4 p1
   rw[hej]at d1 i1
   exact ⟨b,o,e,d1,i1⟩
  have hLe:∃L,L=Zj (nl.take k):=⟨_,rfl⟩
  refine hLe.elim fun L hL=>?_
  rw[←hL]at hn hst hin hlt
  subst hn
  simp -dsimp[go_sem]
  refine Zdt.l16_intro _ _ _ _ _ _ _ _ (fun x y w'=>∃(i:Nat) (b:Bool),y = .int .i64 i∧x = .bool b∧i≤L.length∧St noB w1 w' [rowC 3 1 A L.length c (L.map (Value.int .i64 ·))]∧Chg noB w2 w'∧(b=true↔nl[k].1∈L.take i)) (fun _ y _=>L.length-iv y) ⟨0,false,rfl,rfl,by omega,hst,Chg.refl _ _,by simp⟩ ?_
  rintro _ _ w3 ⟨i,b,rfl,rfl,hi,s3,hc3,hb⟩ C' hC'
  simp -dsimp[go_sem]
  refine Za (fun p2=>?_) (fun p2=>?_)<;>simp at p2
  ·have wi:IntKind.i64.wrap ((i:Int)+1)=(i:Int)+1:=IntWalk.i64_in _ (by omega)
   have hti:L.take (i+1)=L.take i++[L[i]]:=List.take_succ_eq_append_getElem p2
   have s3d:=s3.old ((Chg.refl noB w3).drew)
   obtain ⟨g3,e3,x1,_⟩:=s3d.rowAt 0 rfl (j:=i) (by simpa using p2)
   subst e3
   simp only[List.getElem_map]at x1
   cases b with
   | true=>
    simp -dsimp[go_sem,wi]
    refine hC' _ _ _ ⟨i+1,true,by simp,rfl,by omega,s3d,hc3.drew,?_⟩ (by simp[iv];omega)
    rw[hti,List.mem_append];exact ⟨fun _=>Or.inl (hb.1 rfl),fun _=>rfl⟩
   | false=>
    obtain ⟨b4,o4,rfl,x2,_⟩:=pr _ hc3.drew
    have zd:=hg _ s3d.chg
    simp -dsimp[go_sem,zd.k,p1,p2,x1,x2,wi]
    refine hC' _ _ _ ⟨i+1,_,by simp,rfl,by omega,s3d,hc3.drew,?_⟩ (by simp[iv];omega)
    rw[hti,List.mem_append,List.mem_singleton,beq_iff_eq]
    constructor
    ·intro e;exact Or.inr e.symm
    ·rintro (h1|h1)
     ·exact absurd (hb.2 h1) (by simp)
     ·exact h1.symm
  ·have hia:i=L.length:=by omega
   subst hia
   rw[List.take_length]at hb
   cases b with
   | true=>
    have ha':addL L nl[k].1=L:=if_pos (hb.1 rfl)
    rw[ha']at hlt
    simp -dsimp[go_sem,wj]
    refine hC _ _ _ ⟨j+1,k+1,A,L.length,c,by simp,rfl,by omega,by omega,by rw[hlt],by rw[hlt];exact s3,by omega,by rw[hlt];exact hin⟩ (by simp[iv];omega)
   | false=>
    have hno:nl[k].1∉L:=fun h=>by have:=hb.2 h;cases this
    have ha':addL L nl[k].1=L++[nl[k].1]:=if_neg hno
    rw[ha']at hlt
    obtain ⟨b4,o4,rfl,x2,i2⟩:=pr _ hc3
    have z3:=hg _ s3.chg
    simp -dsimp[go_sem,z3.k,p1,x2]
    refine s3.append1 0 rfl Zqw iInt rfl (by omega) (news:=[.int .i64 nl[k].1]) rfl (by simp[Value.oneCell']) (by unfold maxLen;omega) (by unfold Zr;omega) ?_
    intro g' cap w6 h6
    simp -dsimp[go_sem,wj]
    have em:L.map (Value.int .i64 ·)++[.int .i64 nl[k].1]=(Zj (nl.take (k+1))).map (Value.int .i64 ·):=by rw[hlt,List.map_append];rfl
    rw[em]at h6
    refine hC _ _ _ ⟨j+1,k+1,_,_,_,by simp,rfl,by omega,by omega,by rw[hlt,List.length_append];rfl,h6,by omega,?_⟩ (by simp[iv];omega)
    rw[hlt]
    intro x hx
    rcases List.mem_append.1 hx with hx|hx
    ·exact hin x hx
    ·rw[List.mem_singleton.1 hx];exact i2
 ·have hka:k=nl.length:=by omega
  subst hka
  rw[List.take_length]at hst hn hin
  simp -dsimp[go_sem]
  exact hR _ _ ⟨Zl8 hst 0 rfl hin,hc0.trans hst.chg⟩
end Go.Proofs.YtckbgeedlobfaaaGreatDoor
