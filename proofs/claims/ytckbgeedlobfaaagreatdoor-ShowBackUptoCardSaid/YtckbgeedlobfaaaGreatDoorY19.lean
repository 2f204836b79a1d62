/-
  Texts of this claim: Gq2, Lb1, Sh1, ShP, Sh2, Sh3a, Gs6c, Sh4, Sh5, Sh6, Sh7a, Sh3.
-/
import Derived.Test.YtckbgeedlobfaaaGreatDoorY18
import Derived.Test.YtckbgeedlobfaaaGreatDoorY07
import Derived.Test.YtckbgeedlobfaaaGreatDoorY14
import Derived.Test.YtckbgeedlobfaaaGreatDoorY09
import Derived.Test.YtckbgeedlobfaaaGreatDoorY03
import Derived.Test.YtckbgeedlobfaaaGreatDoorY12
import Derived.Test.YtckbgeedlobfaaaGreatDoorY10
import Derived.Lib.Builder
import Derived.Lib.UnsafeStr
import Derived.Test.YtckbgeedlobfaaaGreatDoorY13
set_option maxHeartbeats 1000000
set_option linter.unusedSimpArgs false
set_option linter.unusedVariables false
set_option maxRecDepth 100000
namespace Go.Proofs.YtckbgeedlobfaaaGreatDoor
open Go.Px Go.Px.Scan Go.RowKit
attribute [-go_sem] Builtin.append_
attribute [-go_sem] Zcp.b7 Zcp.b16 Zcp.b20
theorem Zwi {w:World}{B:Nat}{va vb:Value}{a b:Gr}(ha:Zcz.atN w B va a)(hb:Zcz.atN w B vb b)(hB:B≤w.heap.size) :
  Ct Tryz.prog Zcp.id #[va,vb] w fun v w'=>v = .bool (sameB a b)∧Chg noB w w':=by
 obtain ⟨A1,c1,A2,c2,A3,c3,A4,c4,rfl,h1,h2,h3,h4,h5,⟨l1,m1⟩,⟨l2,m2⟩,⟨l3,m3⟩,⟨l4,m4⟩⟩:=(Zbl ha).ex
 obtain ⟨B1,d1,B2,d2,B3,d3,B4,d4,rfl,g1,g2,g3,g4,g5,_⟩:=(Zbl hb).ex
 refine Zcp.ct fun R hR=>?_
 have no:∀w',Chg noB w w'→a≠b→R (.returned (.bool false)) w':=fun w' hc hn=>hR _ _ ⟨by rw[Zfp Zmu hn],hc⟩
 unfold Zcp.run
 have s1:=(St.refl noB w).alloc #[.slice A1 a.terms.length c1,.slice A2 a.nons.length c2,.slice A3 a.levels.length c3,.int .i64 a.start,.slice A4 a.prods.length c4] 27
 have s2:=s1.alloc #[.slice B1 b.terms.length d1,.slice B2 b.nons.length d2,.slice B3 b.levels.length d3,.int .i64 b.start,.slice B4 b.prods.length d4] 27
 have hs1:(w.alloc (.cells #[.slice A1 a.terms.length c1,.slice A2 a.nons.length c2,.slice A3 a.levels.length c3,.int .i64 a.start,.slice A4 a.prods.length c4] 27)).heap.size=w.heap.size+1:=by simp
 rw[hs1]at s2
 have k1:=s2.box 0 rfl
 have k2:=s2.box 1 rfl
 simp[Zp]at k1 k2
 simp -dsimp[go_sem,k1,k2]
 generalize w.heap.size=n at s2 ⊢
 generalize (w.alloc (.cells #[.slice A1 a.terms.length c1,.slice A2 a.nons.length c2,.slice A3 a.levels.length c3,.int .i64 a.start,.slice A4 a.prods.length c4] 27)).alloc (.cells #[.slice B1 b.terms.length d1,.slice B2 b.nons.length d2,.slice B3 b.levels.length d3,.int .i64 b.start,.slice B4 b.prods.length d4] 27)=w2 at s2 ⊢
 have hbl:=s2.chg.below hB fun _ _=>id
 refine Zf (Zg3 (Rep.below h3 hbl) (Rep.below g3 hbl) (by have:=s2.chg.size;omega)) ?_
 rintro _ w3 ⟨rfl,hc3⟩
 have s3:=s2.old (Below.chg hc3)
 have k1:=s3.box 0 rfl
 have k2:=s3.box 1 rfl
 simp[Zp]at k1 k2
 by_cases q4:a.levels=b.levels
 case neg=>
  have:(a.levels == b.levels)=false:=by simpa using q4
  simp -dsimp[go_sem,this]
  exact no _ s3.chg fun e=>q4 (by rw[e])
 simp -dsimp[go_sem,q4,k1,k2]
 refine Za (fun q1=>?_) (fun q1=>?_)<;>simp at q1
 ·simp -dsimp[go_sem]
  exact no _ s3.chg fun e=>q1 (by rw[e])
 simp -dsimp[go_sem,k1,k2]
 refine Za (fun q2=>?_) (fun q2=>?_)<;>simp at q2
 ·simp -dsimp[go_sem]
  exact no _ s3.chg fun e=>q2 (by rw[e])
 simp -dsimp[go_sem,k1,k2]
 refine Za (fun q3=>?_) (fun q3=>?_)<;>simp at q3
 ·simp -dsimp[go_sem]
  exact no _ s3.chg fun e=>q3 (by rw[e])
 simp -dsimp[go_sem,k1,k2]
 refine Za (fun q5=>?_) (fun q5=>?_)<;>simp at q5
 ·exact no _ s3.chg fun e=>q5 (by rw[e])
 have q2:a.terms.length=b.terms.length:=by omega
 have q3:a.nons.length=b.nons.length:=by omega
 have q5:a.prods.length=b.prods.length:=by omega
 have hB3:B≤w3.heap.size:=by have:=s3.chg.size;omega
 unfold Zcp.b20
 refine Zcp.l22_intro _ _ _ _ _ (fun x w1=>∃k:Nat,x = .int .i64 k∧k≤a.terms.length∧a.terms.take k=b.terms.take k∧Chg noB w3 w1) (fun x _=>a.terms.length-iv x) ⟨0,rfl,by omega,rfl,Chg.refl _ _⟩ ?_
 rintro _ w4 ⟨k,rfl,hk,hall,hcw⟩ C hC
 have s4:=s3.old hcw
 have s4d:=s3.old hcw.drew
 have k3:=s4.box 0 rfl
 have k4:=s4d.box 0 rfl
 have k5:=s4d.box 1 rfl
 simp[Zp]at k3 k4 k5
 simp -dsimp[go_sem,k3]
 refine Za (fun p1=>?_) (fun p1=>?_)<;>simp at p1
 ·have hkb:k<b.terms.length:=by omega
  obtain ⟨b1,o1,rfl,hb1,hc1,hd1,_⟩:=Zdw (Rep.below h1 (s4d.chg.below hB fun _ _=>id)) p1
  obtain ⟨b2,o2,rfl,hb2,hc2,hd2,_⟩:=Zdw (Rep.below g1 (s4d.chg.below hB fun _ _=>id)) hkb
  have wk:=Zau p1 (Nat.le_trans l1 m1)
  simp at hc1 hc2 hd1 hd2
  simp -dsimp[go_sem,p1,hkb,hc1,hc2,hd1,hd2,k3,k4,k5]
  by_cases p3:a.terms[k].1.toList=b.terms[k].1.toList
  case neg=>
   simp -dsimp[go_sem,p3]
   exact no _ s4d.chg fun e=>p3 (by subst e;rfl)
  by_cases p4:a.terms[k].2=b.terms[k].2
  case neg=>
   simp -dsimp[go_sem,p3,p4]
   exact no _ s4d.chg fun e=>p4 (by subst e;rfl)
  simp -dsimp[go_sem,p3,p4,wk]
  exact hC _ _ ⟨k+1,by simp,by omega,Zil hall p1 hkb (Prod.ext (toList_inj.1 p3) p4),hcw.drew⟩ (by simp[iv];omega)
 have eqT:a.terms=b.terms:=by
  have hka:k=a.terms.length:=by omega
  rw[hka,List.take_length,q2,List.take_length]at hall
  exact hall
 clear hC C hall hk p1
 unfold Zcp.b16
 refine Zcp.l18_intro _ _ _ _ _ (fun x w1=>∃k:Nat,x = .int .i64 k∧k≤a.nons.length∧a.nons.take k=b.nons.take k∧Chg noB w3 w1) (fun x _=>a.nons.length-iv x) ⟨0,rfl,by omega,rfl,hcw⟩ ?_
 clear s4 s4d k3 k4 k5 hcw k
 rintro _ w4 ⟨k,rfl,hk,hall,hcw⟩ C hC
 have s4:=s3.old hcw
 have s4d:=s3.old hcw.drew
 have k3:=s4.box 0 rfl
 have k4:=s4d.box 0 rfl
 have k5:=s4d.box 1 rfl
 simp[Zp]at k3 k4 k5
 simp -dsimp[go_sem,k3]
 refine Za (fun p1=>?_) (fun p1=>?_)<;>simp at p1
 ·have hkb:k<b.nons.length:=by omega
  obtain ⟨b1,o1,rfl,hb1,hc1,_⟩:=Go.Px.strs_at (Rep.below h2 (s4d.chg.below hB fun _ _=>id)) p1
  obtain ⟨b2,o2,rfl,hb2,hc2,_⟩:=Go.Px.strs_at (Rep.below g2 (s4d.chg.below hB fun _ _=>id)) hkb
  have wk:=Zau p1 (Nat.le_trans l2 m2)
  simp at hc1 hc2
  simp -dsimp[go_sem,p1,hkb,hc1,hc2,k3,k4,k5]
  refine Za (fun p3=>?_) (fun p3=>?_)<;>simp at p3
  ·exact no _ s4d.chg fun e=>p3 (by subst e;rfl)
  ·simp -dsimp[go_sem,wk]
   exact hC _ _ ⟨k+1,by simp,by omega,Zil hall p1 hkb (toList_inj.1 p3),hcw.drew⟩ (by simp[iv];omega)
 have eqN:a.nons=b.nons:=by
  have hka:k=a.nons.length:=by omega
  rw[hka,List.take_length,q3,List.take_length]at hall
  exact hall
 clear hC C hall hk p1
 unfold Zcp.b7
 refine Zcp.l9_intro _ _ _ _ _ (fun x w1=>∃k:Nat,x = .int .i64 k∧k≤a.prods.length∧a.prods.take k=b.prods.take k∧Chg noB w3 w1) (fun x _=>a.prods.length-iv x) ⟨0,rfl,by omega,rfl,hcw⟩ ?_
 clear s4 s4d k3 k4 k5 hcw k
 rintro _ w4 ⟨k,rfl,hk,hall,hcw⟩ C hC
 have s4:=s3.old hcw
 have k3:=s4.box 0 rfl
 simp[Zp]at k3
 simp -dsimp[go_sem,k3]
 refine Za (fun p1=>?_) (fun p1=>?_)<;>simp at p1
 ·have hkb:k<b.prods.length:=by omega
  obtain ⟨b1,o1,v1,rfl,hb1,x1,x2,x3,xr,_⟩:=Zev (Rep.below h5 (s4.chg.below hB fun _ _=>id)) p1
  obtain ⟨b2,o2,v2,rfl,hb2,y1,y2,y3,yr,_⟩:=Zev (Rep.below g5 (s4.chg.below hB fun _ _=>id)) hkb
  obtain ⟨A5,c5,rfl,_⟩:=Zay xr
  obtain ⟨A6,c6,rfl,_⟩:=Zay yr
  have wk:=Zau p1 (Nat.le_trans l4 m4)
  have t1:=s4.alloc #[.int .i64 a.prods[k].1,.slice A5 a.prods[k].2.1.length c5,.int .i64 a.prods[k].2.2] 50
  have t2:=t1.alloc #[.int .i64 b.prods[k].1,.slice A6 b.prods[k].2.1.length c6,.int .i64 b.prods[k].2.2] 50
  have ht1:(w4.alloc (.cells #[.int .i64 a.prods[k].1,.slice A5 a.prods[k].2.1.length c5,.int .i64 a.prods[k].2.2] 50)).heap.size=w4.heap.size+1:=by simp
  rw[ht1]at t2
  have hc1:Chg noB w4 (w4.alloc (.cells #[.int .i64 a.prods[k].1,.slice A5 a.prods[k].2.1.length c5,.int .i64 a.prods[k].2.2] 50)):=(Chg.refl _ _).alloc _
  have z0:=(t1.box 1 rfl)
  have z1:=hc1.at y1 id
  have z2:=hc1.at y2 id
  have z3:=hc1.at y3 id
  have k1:=t2.box 2 rfl
  have k2:=t2.box 3 rfl
  simp[Zp]at k1 k2 z0
  simp -dsimp[go_sem,p1,hkb,x1,x2,x3,z0,z1,z2,z3,k1,k2,k3]
  have hc2:=hc1.alloc (.cells #[.int .i64 b.prods[k].1,.slice A6 b.prods[k].2.1.length c6,.int .i64 b.prods[k].2.2] 50)
  generalize (w4.alloc (.cells #[.int .i64 a.prods[k].1,.slice A5 a.prods[k].2.1.length c5,.int .i64 a.prods[k].2.2] 50)).alloc (.cells #[.int .i64 b.prods[k].1,.slice A6 b.prods[k].2.1.length c6,.int .i64 b.prods[k].2.2] 50)=w5 at hc2 t2 ⊢
  have hB4:B≤w4.heap.size:=by have:=hcw.size;omega
  generalize w4.heap.size=n4 at t2 ⊢
  refine Zf (Zg3 (Rep.below xr (hc2.below hB4 fun _ _=>id)) (Rep.below yr (hc2.below hB4 fun _ _=>id)) (by have:=hc2.size;omega)) ?_
  rintro _ w6 ⟨rfl,hc6⟩
  have s6:=t2.old (Below.chg hc6)
  have k1:=s6.box 2 rfl
  have k2:=s6.box 3 rfl
  simp[Zp]at k1 k2
  by_cases p2:a.prods[k].2.1=b.prods[k].2.1
  case neg=>
   have:(a.prods[k].2.1 == b.prods[k].2.1)=false:=by simpa using p2
   simp -dsimp[go_sem,this]
   exact no _ s6.chg fun e=>p2 (by subst e;rfl)
  simp -dsimp[go_sem,p2,k1,k2]
  refine Za (fun p3=>?_) (fun p3=>?_)<;>simp at p3
  ·simp -dsimp[go_sem]
   exact no _ s6.chg fun e=>p3 (by subst e;rfl)
  simp -dsimp[go_sem,k1,k2]
  refine Za (fun p4=>?_) (fun p4=>?_)<;>simp at p4
  ·exact no _ s6.chg fun e=>p4 (by subst e;rfl)
  simp -dsimp[go_sem,wk]
  exact hC _ _ ⟨k+1,by simp,by omega,Zil hall p1 hkb (Prod.ext p3 (Prod.ext p2 p4)),(hcw.trans hc2).trans (Below.chg hc6)⟩ (by simp[iv];omega)
 ·have hka:k=a.prods.length:=by omega
  rw[hka,List.take_length,q5,List.take_length]at hall
  simp -dsimp[go_sem]
  refine hR _ _ ⟨?_,s4.chg⟩
  rw[Zmu.2 (Gr.ext' eqT eqN q4 q1 hall)]
end Go.Proofs.YtckbgeedlobfaaaGreatDoor
namespace Go.Proofs.YtckbgeedlobfaaaGreatDoor
open Go.Px Go.Px.Scan Go.Px.Spec Go.RowKit
attribute [-go_sem] Builtin.append_
theorem ZZ210 {s:ByteArray}{w:World}{B:Nat}(hs:s.size≤maxLen)(hO:Ord w B)(hB:B≤w.heap.size):Ct Tryz.prog Zkt.id #[.string s] w (RfAns s w) :=
 (ZZ262 hs hO hB).mono fun v w' h=>by
  obtain ⟨vg,h1,h2⟩:=h
  rw[ZZ33]at h1 h2
  exact ⟨vg,h1,h2⟩
section
variable {X:Pan} {G:Nat→Prop} {W w:World} {L:List Ch}
def mB (c a:Int):List Value:=[.int .i64 c,.int .i64 a,.slice none 0 0]
theorem take2 {A1 A2 A3 A4:Option Addr}{n1 n2 n3 n4 c1 c2 c3 c4:Nat}{x c a:Int}{K:Value→Value→World→Prop}(s:St G W w L)
  (hK:∀q1 q2 w',Chg noB w w'→St G W w' (L++[boxC q1 27 [.slice A1 n1 c1,.slice A2 n2 c2,.slice A3 n3 c3,.int .i64 x,.slice A4 n4 c4],boxC q2 36 (mB c a)])→K (.pointer (some ⟨q1,0,none⟩)) (.pointer (some ⟨q2,0,none⟩)) w') :
  RUN Tryz.prog X (Instr.extract (.tuple #[.agg #[.slice A1 n1 c1,.slice A2 n2 c2,.slice A3 n3 c3,.int .i64 x,.slice A4 n4 c4],Zjw c a]) 0) w fun v3 w4=>
  RUN Tryz.prog X (Instr.extract (.tuple #[.agg #[.slice A1 n1 c1,.slice A2 n2 c2,.slice A3 n3 c3,.int .i64 x,.slice A4 n4 c4],Zjw c a]) 1) w4 fun v5 w6=>
  RUN Tryz.prog X (Instr.alloc 27 true (.tuple #[])) w6 fun v7 w8=>
  RUN Tryz.prog X (Instr.alloc 36 true (.tuple #[])) w8 fun v9 w10=>
  RUNU Tryz.prog X (Instr.storeAt 27 v7 v3) w10 fun w11=>
  RUNU Tryz.prog X (Instr.storeAt 36 v9 v5) w11 fun w12=>K v7 v9 w12:=by
 have s1:=(s.alloc zG.toArray 27).alloc zM.toArray 36
 have al1:(Instr.alloc 27 true (.tuple #[])).run Tryz.prog w = .ok (.pointer (some ⟨w.heap.size,0,none⟩)) (w.alloc (.cells zG.toArray 27)):=by simp -dsimp[go_sem,zG]
 have al2:∀w1:World,(Instr.alloc 36 true (.tuple #[])).run Tryz.prog w1 = .ok (.pointer (some ⟨w1.heap.size,0,none⟩)) (w1.alloc (.cells zM.toArray 36)):=fun w1=>by simp -dsimp[go_sem,zM]
 have hc0:Chg noB w ((w.alloc (.cells zG.toArray 27)).alloc (.cells zM.toArray 36)):=((Chg.refl noB w).alloc _).alloc _
 have t1:=(((St.refl noB w).alloc zG.toArray 27).alloc zM.toArray 36)
 rw[Zd0,xt0,Zb9,Zd0,xt1,Zb9,Zd0,al1,Zb9,Zd0,al2,Zb9]
 have e1:((w.alloc (.cells zG.toArray 27)).heap.size)=w.heap.size+1:=by simp
 rw[e1]at s1 t1 ⊢
 generalize (w.alloc (.cells zG.toArray 27)).alloc (.cells zM.toArray 36)=w1 at s1 t1 ⊢
 obtain ⟨w2,r2,s2⟩:=Zps (A1:=A1) (A2:=A2) (A3:=A3) (A4:=A4) (n1:=n1) (n2:=n2) (n3:=n3) (n4:=n4) (c1:=c1) (c2:=c2) (c3:=c3) (c4:=c4) (x:=x) (g:=zG) (q2:=w.heap.size) s1 (k:=L.length) (by simp) rfl
 obtain ⟨w2',r2',t2⟩:=Zps (A1:=A1) (A2:=A2) (A3:=A3) (A4:=A4) (n1:=n1) (n2:=n2) (n3:=n3) (n4:=n4) (c1:=c1) (c2:=c2) (c3:=c3) (c4:=c4) (x:=x) t1 (k:=0) rfl rfl
 obtain rfl:w2'=w2:=by rw[r2]at r2';injection r2' with _ h;exact h.symm
 obtain ⟨w3,r3,s3⟩:=Zpl (c:=c) (a:=a) (g:=zM) (q3:=w.heap.size+1) s2 (k:=L.length+1) (by simp) rfl
 obtain ⟨w3',r3',t3⟩:=Zpl (c:=c) (a:=a) t2 (k:=1) rfl rfl
 obtain rfl:w3'=w3:=by rw[r3]at r3';injection r3' with _ h;exact h.symm
 rw[Zf2,r2,Zfo,Zf2,r3,Zfo]
 refine hK _ _ _ t3.chg ?_
 have:((L++[boxC w.heap.size 27 zG.toArray.toList]++[boxC (w.heap.size+1) 36 zM.toArray.toList]).set L.length (boxC w.heap.size 27 [.slice A1 n1 c1,.slice A2 n2 c2,.slice A3 n3 c3,.int .i64 x,.slice A4 n4 c4])).set (L.length+1) (boxC (w.heap.size+1) 36 [.int .i64 c,.int .i64 a,.slice none 0 0])=L++[boxC w.heap.size 27 [.slice A1 n1 c1,.slice A2 n2 c2,.slice A3 n3 c3,.int .i64 x,.slice A4 n4 c4],boxC (w.heap.size+1) 36 (mB c a)]:=by
  rw[List.append_assoc,List.set_append_right _ _ (by omega),Nat.sub_self,List.set_append_right _ _ (by omega),show L.length+1-L.length=1 by omega];rfl
 rw[←this];exact s3
end
end Go.Proofs.YtckbgeedlobfaaaGreatDoor
namespace Go.Px
open Go.RowKit
def pgC (e t:TypeId)(b:Nat)(vs:List Value)(l:Txt):Ch:=Ch.ex fun x:Value×Option Addr×Nat=>
 Ch.fact (x.1 = .pointer none∨x.1 = .pointer (some ⟨b,0,none⟩)) (Ch.all [boxC b t (x.1 :: .slice x.2.1 l.length x.2.2::vs),txtC e x.2.1 l.length x.2.2 l])
end Go.Px
namespace Go.Proofs.YtckbgeedlobfaaaGreatDoor
open Go.Px Go.Px.Scan Go.RowKit
attribute [-go_sem] Builtin.append_
theorem ZZ300:Tryz.prog.underlying 55=some (.slice 5):=Tryz.underlying55
theorem iByte:(Tryz.prog.info? 5).map (fun i=>(i.zero,i.size,i.bytes))=some (some (.int .u8 0),1,1):=by kernel_rfl
def BT (t:TypeId)(vs:List Value):Prop:=(t=57∧vs.length=0)∨(t=59∧vs.length=5)
theorem ZZ242:liesAt Tryz.prog Tryz.prog.depth 57 (2 / Tryz.prog.cellsOf 57) 0 57 1=true:=by kernel_rfl
theorem ZZ258:liesAt Tryz.prog Tryz.prog.depth 59 (7 / Tryz.prog.cellsOf 59) 0 57 1=true:=by kernel_rfl
theorem ZZ276:∃j,Tryz.prog.info? 57=some j∧j.size=2:=by
 have h:(Tryz.prog.info? 57).map (·.size)=some 2:=by kernel_rfl
 cases hq:Tryz.prog.info? 57 with
 | none=>rw[hq]at h;cases h
 | some j=>rw[hq]at h;exact ⟨j,rfl,by simpa using h⟩
theorem Zwf {P:Program}{X:Pan}{f:FuncId}{args:Array Value}{w w':World}{v:Value}{K:Value→World→Prop}(h:(callFunc f args).run P w = .ok (.value v) w')(hk:K v w'):CALL P X f args w K:=by
 unfold CALL RUNN
 rw[h]
 exact hk
theorem Ztm (x:Value)(w:World):(callFunc Zfh.id #[x]).run Tryz.prog w = .ok (.value x) w:=by
 rfl
section
variable {w:World} {F:Nat→Prop} {t:TypeId} {b:Nat} {vs:List Value} {l:Txt}
theorem Zrp (h:(pgC 5 t b vs l).ok w F)(ht:BT t vs):Ct Tryz.prog Zbe.id #[.pointer (some ⟨b,0,none⟩)] w fun v w'=>Zhh F w (pgC 5 t b vs l) w':=by
 refine Zbe.ct fun R hR=>?_
 obtain ⟨⟨av,A,c⟩,hav,hp⟩:=h
 have s0:=St.enter hp
 have y0:=s0.box 0 rfl
 simp[Zp]at y0
 obtain ⟨F0,ho,_⟩:=s0.get (k:=0) rfl
 have hsh:w.shape? b=some (t,2+vs.length):=by
  have:=ho.2
  simp[World.shape?,this]
  omega
 have fin:∀w',St F w w' [boxC b t (.pointer (some ⟨b,0,none⟩) :: .slice A l.length c::vs),txtC 5 A l.length c l]→Zhh F w (pgC 5 t b vs l) w':=fun w' hs=>
  Zhh.of_st hs fun F' hok=>⟨(.pointer (some ⟨b,0,none⟩),A,c),Or.inr rfl,hok⟩
 obtain ⟨j,hj,hj2⟩:=ZZ276
 have e1:(convert 54 148 (.pointer (some ⟨b,0,none⟩))).run Tryz.prog w = .ok (.pointer (some ⟨b,0,none⟩)) w:=Lib.run_to_unsafe w ⟨b,0,none⟩ Tryz.underlying54 Tryz.underlying148 hj (by omega) hsh (by show 0<2+vs.length;omega)
 have e2:(convert 148 54 (.pointer (some ⟨b,0,none⟩))).run Tryz.prog w = .ok (.pointer (some ⟨b,0,none⟩)) w:=by
  refine Lib.run_from_unsafe w ⟨b,0,none⟩ Tryz.underlying148 Tryz.underlying54 hj hsh ?_
  rcases ht with ⟨rfl,hv⟩|⟨rfl,hv⟩<;>rw[hv]
  ·exact ZZ242
  ·exact ZZ258
 unfold Zbe.run
 rcases hav with rfl|rfl
 ·simp -dsimp[go_sem,y0,e1]
  refine Zwf (Ztm _ _) ?_
  have h1:=s0.set 0 rfl 0 (.pointer (some ⟨b,0,none⟩))
  simp -dsimp[go_sem,y0,e2]
  exact hR _ _ (fin _ h1)
 ·have e3:=Lib.run_neq_ptr_same w ⟨b,0,none⟩ Tryz.underlying54 hj
  simp -dsimp[go_sem,y0,e3]
  exact hR _ _ (fin _ s0)
theorem Zgn (h:(pgC 5 t b vs l).ok w F)(ht:BT t vs)(s:ByteArray)(hb:l.length+s.size≤Zr):Ct Tryz.prog Zam.id #[.pointer (some ⟨b,0,none⟩),.string s] w fun v w'=>Zhh F w (pgC 5 t b vs (l++tx s)) w':=by
 refine Zam.ct fun R hR=>?_
 have s0:=St.one h
 unfold Zam.run
 simp -dsimp[go_sem]
 refine Zde s0 0 rfl (fun F' ho _=>Zrp ho ht) ?_
 intro F1 v1 w1 hd hst
 have s1:=hst _ hd
 obtain ⟨F2,⟨⟨av,A,c⟩,hav,hp⟩,hF2,hs2⟩:=s1.opn (k:=0) rfl
 have q0:=St.enter hp
 have y0:=q0.box 0 rfl
 simp[Zp]at y0
 simp -dsimp[go_sem,y0]
 refine q0.txtStr 1 rfl ZZ300 Tryz.underlying9 iByte s hb ?_
 intro a' cap w2 q2
 have y2:=q2.box 0 rfl
 simp[Zp]at y2
 have q3:=q2.set 0 rfl 1 (.slice a' (l.length+s.size) cap)
 simp -dsimp[go_sem,y2]
 have hd2:Zhh F2 w1 (pgC 5 t b vs (l++tx s)) _:=Zhh.of_st q3 fun F' hok=>⟨(av,a',cap),hav,by
  rw[show (l++tx s).length=l.length+s.size by rw[List.length_append,Zh1]]
  exact hok⟩
 have s3:=hs2 _ _ hd2.1 hd2.2
 exact hR _ _ s3.oneDone
end
end Go.Proofs.YtckbgeedlobfaaaGreatDoor
namespace Go.Px.Scan
open Go.Px
def Zur (g:Gr):Prop:=Zbh g∨Zqj g
open Classical in
noncomputable def Zeh (g:Gr):Bool:=Zrv g || Zqv g
theorem Zhb {g:Gr}:Zeh g=true↔Zur g:=by
 unfold Zeh Zur
 rw[Bool.or_eq_true,Zfz,Zjs]
def nameOf (g:Gr)(s:Int):ByteArray:=(g.terms.getD s.toNat (⟨#[]⟩,0)).1
def Zb0 (g:Gr)(s:Int):ByteArray:=g.nons.getD (s-g.terms.length).toNat ⟨#[]⟩
def Zci (g:Gr)(s:Int):Int:=(g.terms.getD s.toNat (⟨#[]⟩,0)).2
def tEnd:Txt:=[36,101,110,100]
def Zko:Txt:=[36,115,116,97,114,116]
def symT (g:Gr)(s:Int):Txt :=
 if s=0 then tEnd
 else if s<g.terms.length then [39]++tx (nameOf g s)++[39]
 else if Zb0 g s=⟨#[]⟩ then Zko else tx (Zb0 g s)
def Zf5 (g:Gr)(s:Int):Prop:=0≤s∧s<(g.terms.length:Int)+g.nons.length
instance (g:Gr) (s:Int):Decidable (Zf5 g s):=inferInstanceAs (Decidable (_∧_))
def Zbk (l:List Txt):Txt:=l.flatMap fun s=>32::s
def Zcm (g:Gr)(l:List Int):Txt:=Zbk (l.map (symT g))
theorem Zfv (a b:List Txt):Zbk (a++b)=Zbk a++Zbk b:=by simp[Zbk]
theorem Zm5 {l:List Txt}{k:Nat}(h:k<l.length):(Zbk (l.take k)).length+1+l[k].length≤(Zbk l).length:=by
 have:Zbk l=Zbk (l.take k)++(32::l[k])++Zbk (l.drop (k+1)):=by
  have e:l=l.take k++([l[k]]++l.drop (k+1)):=by simp
  conv=>lhs;rw[e]
  rw[Zfv,Zfv,List.append_assoc]
  simp[Zbk]
 rw[this]
 simp
 omega
theorem Zqc (g:Gr)(a b:List Int):Zcm g (a++b)=Zcm g a++Zcm g b:=by simp[Zcm,Zbk]
theorem Zt6 (g:Gr)(x:Int)(l:List Int):Zcm g (x::l)=32::symT g x++Zcm g l:=by simp[Zcm,Zbk]
structure Zie (g:Gr):Prop where
 t0:0<g.terms.length
 n0:0<g.nons.length
 t1:g.terms.length≤65
 n1:g.nons.length≤65
 p1:g.prods.length≤97
 l1:g.levels.length≤64
 tnam:∀t∈g.terms,t.1.size≤16
 nnam:∀s∈g.nons,s.size≤16
 lev:∀x∈g.levels,1≤x∧x≤3
 tlev:∀t∈g.terms,0≤t.2∧t.2≤g.levels.length
 start:Zf5 g g.start∧(g.terms.length:Int)≤g.start
 left:∀p∈g.prods,Zf5 g p.1∧(g.terms.length:Int)≤p.1
 right:∀p∈g.prods,∀s∈p.2.1,Zf5 g s∧1≤s
 plev:∀p∈g.prods,0≤p.2.2∧p.2.2≤g.levels.length
 has:∀i:Nat,i<g.levels.length→∃t∈g.terms.tail,t.2=(i:Int)+1
theorem Zsb {g:Gr}(h:∀i:Nat,i<g.levels.length→∃t∈g.terms.tail,t.2=(i:Int)+1)(ht:g.terms.length≤65):g.levels.length≤64:=by
 have h1:=Zhx (l:=(List.range g.levels.length).map fun i:Nat=>(i:Int)+1) (m:=g.terms.tail.map (·.2)) (by
  rw[List.Nodup,List.pairwise_map]
  exact List.nodup_range.imp fun h e=>h (by omega)) (by
  intro x hx
  obtain ⟨i,hi,rfl⟩:=List.mem_map.1 hx
  obtain ⟨t,ht,e⟩:=h i (by simpa using hi)
  exact List.mem_map.2 ⟨t,ht,e⟩)
 simp at h1
 omega
theorem Zpt {g:Gr}{a:Nat}(h:Zll g a)(hn:∀s∈g.nons.take a,s.size≤16):(∀t∈g.terms,t.1.size≤16)∧(∀s∈g.nons,s.size≤16)∧(∀t∈g.terms,0≤t.2∧t.2≤g.levels.length):=by
 have hd:g.terms=(⟨#[]⟩,0)::g.terms.tail:=by
  have:=h.t0
  cases ht:g.terms with
  | nil=>rw[ht]at this;cases this
  | cons x r=>rw[ht]at this;injection this with this;rw[this];rfl
 refine ⟨fun t ht=>?_,fun s hs=>?_,fun t ht=>?_⟩
 ·rw[hd]at ht
  rcases List.mem_cons.1 ht with rfl|ht
  ·exact Nat.zero_le _
  ·exact (h.terms t ht).name.2.1
 ·rw[←List.take_append_drop a g.nons]at hs
  rcases List.mem_append.1 hs with hs|hs
  ·exact hn s hs
  ·exact (h.nnam s hs).2.1
 ·rw[hd]at ht
  rcases List.mem_cons.1 ht with rfl|ht
  ·simp
  ·exact ⟨(h.terms t ht).lo,(h.terms t ht).hi⟩
theorem Zit {g:Gr}(h:Zur g):Zie g:=by
 rcases h with h|h
 ·obtain ⟨b1,b2,b3⟩:=Zpt h.syms (by simp)
  have ht0:0<g.terms.length:=by have:=h.syms.t0;cases ht:g.terms with
   | nil=>rw[ht]at this;cases this
   | cons x r=>simp
  have each:∀p∈g.prods,Zh4 g 0 p:=fun p hp=>h.prods.each p (by simpa using hp)
  refine ⟨ht0,h.syms.n0,h.syms.t1,by have:=h.syms.n1;omega,by have:=h.prods.c1;omega,Zsb (fun i hi=>(h.syms.levels i hi).2.2) h.syms.t1,b1,b2,fun x hx=>?_,b3,?_,fun p hp=>?_,fun p hp s hs=>?_,fun p hp=>⟨(each p hp).v0,(each p hp).v1⟩,fun i hi=>(h.syms.levels i hi).2.2⟩
  ·obtain ⟨i,hi,rfl⟩:=List.mem_iff_getElem.1 hx
   exact ⟨(h.syms.levels i hi).1,(h.syms.levels i hi).2.1⟩
  ·have:=h.prods.s0;have:=h.prods.s1
   exact ⟨⟨by omega,by omega⟩,by omega⟩
  ·have:=(each p hp).l0;have:=(each p hp).l1
   exact ⟨⟨by omega,by omega⟩,by omega⟩
  ·have:=(each p hp).right s hs
   exact ⟨⟨by omega,by omega⟩,by omega⟩
 ·have hn0:g.nons.take 1=[⟨#[]⟩]:=by
   have:=h.first
   cases hn:g.nons with
   | nil=>rw[hn]at this;cases this
   | cons x r=>rw[hn]at this;injection this with this;simp[this]
  obtain ⟨b1,b2,b3⟩:=Zpt h.syms (by rw[hn0];intro s hs;simp at hs;subst hs;decide)
  have ht0:0<g.terms.length:=by have:=h.syms.t0;cases ht:g.terms with
   | nil=>rw[ht]at this;cases this
   | cons x r=>simp
  have hs0:=h.prods.s0
  have hs1:=h.prods.s1
  have hn1:=h.syms.n0
  have each:∀p∈g.prods,p=((g.terms.length:Int),[g.start],0)∨Zh4 g 1 p:=fun p hp=>by
   have:=h.added
   cases hps:g.prods with
   | nil=>rw[hps]at hp;cases hp
   | cons x r=>
    rw[hps]at this hp
    injection this with this
    rcases List.mem_cons.1 hp with rfl|hp
    ·exact Or.inl this
    ·exact Or.inr (h.prods.each p (by rw[hps];simpa using hp))
  refine ⟨ht0,by omega,h.syms.t1,by have:=h.syms.n1;omega,by have:=h.prods.c1;omega,Zsb (fun i hi=>(h.syms.levels i hi).2.2) h.syms.t1,b1,b2,fun x hx=>?_,b3,?_,fun p hp=>?_,fun p hp s hs=>?_,fun p hp=>?_,fun i hi=>(h.syms.levels i hi).2.2⟩
  ·obtain ⟨i,hi,rfl⟩:=List.mem_iff_getElem.1 hx
   exact ⟨(h.syms.levels i hi).1,(h.syms.levels i hi).2.1⟩
  ·exact ⟨⟨by omega,by omega⟩,by omega⟩
  ·rcases each p hp with rfl|hp
   ·exact ⟨⟨by simp,by simp;omega⟩,by simp⟩
   ·have:=hp.l0;have:=hp.l1
    exact ⟨⟨by omega,by omega⟩,by omega⟩
  ·rcases each p hp with rfl|hp
   ·simp at hs;subst hs;exact ⟨⟨by omega,by omega⟩,by omega⟩
   ·have:=hp.right s hs
    exact ⟨⟨by omega,by omega⟩,by omega⟩
  ·rcases each p hp with rfl|hp
   ·simp
   ·exact ⟨hp.v0,hp.v1⟩
theorem Zmb {g:Gr}(h:Zie g)(s:Int):(symT g s).length≤18:=by
 unfold symT
 split
 ·simp[tEnd]
 ·split
  ·have:(nameOf g s).size≤16:=by
    unfold nameOf
    rw[List.getD_eq_getElem?_getD]
    cases e:g.terms[s.toNat]? with
    | none=>exact Nat.zero_le _
    | some t=>exact h.tnam t (List.mem_of_getElem? e)
   simp[Zh1];omega
  ·split
   ·simp[Zko]
   ·have:(Zb0 g s).size≤16:=by
     unfold Zb0
     rw[List.getD_eq_getElem?_getD]
     cases e:g.nons[(s-g.terms.length).toNat]? with
     | none=>exact Nat.zero_le _
     | some t=>exact h.nnam t (List.mem_of_getElem? e)
    rw[Zh1];omega
theorem Zdf {g:Gr}(h:Zie g):∀l:List Int,(Zcm g l).length≤19*l.length
 | []=>by simp[Zcm,Zbk]
 | x::l=>by
  rw[Zt6,List.length_append,List.length_cons,List.length_cons]
  have:=Zmb h x
  have:=Zdf h l
  omega
end Go.Px.Scan
namespace Go.Px.Scan
open Go.Px
def Zd8 (g:Gr)(f:Int→Bool)(k:Nat):List Int:=((List.range k).filter fun i:Nat=>f (Zci g ((i:Int)+1))).map fun i:Nat=>(i:Int)+1
def Za3 (g:Gr)(f:Int→Bool):List Int:=Zd8 g f (g.terms.length-1)
theorem Zuu (g:Gr)(f:Int→Bool)(k:Nat):Zd8 g f (k+1)=Zd8 g f k++(if f (Zci g ((k:Int)+1)) then [(k:Int)+1] else []):=by
 unfold Zd8
 rw[List.range_succ,List.filter_append,List.map_append]
 congr 1
 cases h:f (Zci g ((k:Int)+1))<;>simp[h]
theorem Zg0 (g:Gr)(f:Int→Bool)(k:Nat):(Zd8 g f k).length≤k:=by
 unfold Zd8
 rw[List.length_map]
 exact Nat.le_trans (List.length_filter_le _ _) (by simp)
theorem Zi6 {g:Gr}{f:Int→Bool}{k:Nat}{x:Int}(h:x∈Zd8 g f k):1≤x∧x≤k:=by
 unfold Zd8 at h
 obtain ⟨i,hi,rfl⟩:=List.mem_map.1 h
 have:=(List.mem_filter.1 hi).1
 rw[List.mem_range]at this
 omega
theorem Zlm {g:Gr}{f:Int→Bool}{x:Int}(h:x∈Za3 g f):Zf5 g x:=by
 have:=Zi6 h
 exact ⟨by omega,by omega⟩
theorem Zhm {g:Gr}{k:Nat}(h:k<g.terms.length):Zci g (k:Int)=g.terms[k].2:=by
 unfold Zci
 simp[h]
def Zkj (g:Gr)(r:List Int):Int:=r.foldl (fun (a s:Int)=>if s<g.terms.length then Zci g s else a) 0
theorem Zv7 (g:Gr)(r:List Int)(s:Int):Zkj g (r++[s])=if s<g.terms.length then Zci g s else Zkj g r:=by simp[Zkj]
def tNone:Txt:=[37,110,111,110,101]
def tPrec:Txt:=[37,112,114,101,99]
def Zid (g:Gr)(p:Int×List Int×Int):Txt :=
 if p.2.2=Zkj g p.2.1 then []
 else if p.2.2=0 then Zbk [tNone]
 else Zbk [tPrec]++Zcm g [(Za3 g (fun x=>x == p.2.2)).headD 0]
end Go.Px.Scan
namespace Go.Px.Scan
open Go.Px
def rowT (g:Gr)(l:List Int):Txt:=(Zcm g l).drop 1
def ZZ57 (g:Gr)(p:Int×List Int×Int)(dot:Int):Txt :=
 symT g p.1++[32,45,62]++Zcm g (p.2.1.take dot.toNat)++(if 0≤dot then Zbk [[46]] else [])++Zcm g (p.2.1.drop dot.toNat)
noncomputable def Zg1 (g:Gr)(k dot:Int):Bool:=Zeh g && decide (0≤k) && decide (k<g.prods.length) && decide (dot≤(g.prods.getD k.toNat (0,[],0)).2.1.length)
end Go.Px.Scan
namespace Go.Px.Scan
open Go.Px
end Go.Px.Scan
namespace Go.Px.Scan
open Go.Px
end Go.Px.Scan
namespace Go.Px.Scan
open Go.Px
def Zkk:Txt:=[32,59,10]
def Zxx:Txt:=[37,116,111,107,101,110]
def Zlc:Txt:=[37,115,116,97,114,116]
def Zl3 (x:Int):Txt:=if x=1 then [37,108,101,102,116] else if x=2 then [37,114,105,103,104,116] else [37,110,111,110,97,115,115,111,99]
def Zqa (g:Gr):Txt:=if 1<g.terms.length then Zxx++Zcm g (Za3 g fun _=>true)++Zkk else []
def Zo9 (g:Gr)(i:Nat):Txt:=Zl3 (g.levels.getD i 0)++Zcm g (Za3 g fun x=>x == (i:Int)+1)++Zkk
def Zd3 (g:Gr):Nat→Txt
 | 0=>Zqa g
 | k+1=>Zd3 g k++Zo9 g k
def preT (g:Gr):Txt:=Zd3 g g.levels.length++Zlc++Zcm g [g.start]++Zkk
def Zoz (g:Gr)(p:Int×List Int×Int):Txt:=symT g p.1++[32,58]++Zcm g p.2.1++Zid g p++Zkk
def addP (g:Gr)(t:Option Txt)(p:Int×List Int×Int):Option Txt :=
 t.bind fun t=>if symT g p.1=Zko then some t else if 8192<(t++Zoz g p).length then none else some (t++Zoz g p)
def Zly (g:Gr):Option Txt:=g.prods.foldl (addP g) (some (preT g))
def Zic (g:Gr)(k:Nat):Option Txt:=(g.prods.take k).foldl (addP g) (some (preT g))
theorem Zi1 (g:Gr){k:Nat}(h:k<g.prods.length):Zic g (k+1)=addP g (Zic g k) g.prods[k]:=by
 unfold Zic
 rw[List.take_succ_eq_append_getElem h,List.foldl_append]
 rfl
theorem Zon (g:Gr):Zic g g.prods.length=Zly g:=by unfold Zic Zly;rw[List.take_length]
theorem Zx3 (g:Gr)(l:List (Int×List Int×Int)):l.foldl (addP g) none=none:=by
 induction l with
 | nil=>rfl
 | cons p l ih=>exact ih
theorem Zxr {g:Gr}{k:Nat}(h:Zic g k=none):Zly g=none:=by
 have:Zly g=(g.prods.drop k).foldl (addP g) (Zic g k):=by
  unfold Zly Zic
  rw[←List.foldl_append,List.take_append_drop]
 rw[this,h,Zx3]
theorem Zpi {g:Gr}(h:Zie g)(i:Nat):(Zo9 g i).length≤2000:=by
 have h1:=Zdf h (Za3 g fun x=>x == (i:Int)+1)
 have h2:=Zg0 g (fun x=>x == (i:Int)+1) (g.terms.length-1)
 have h3:=h.t1
 unfold Zo9
 have h4:(Zl3 (g.levels.getD i 0)).length≤9:=by unfold Zl3;split;decide;split<;>decide
 unfold Za3 at h1
 simp only[List.length_append]
 unfold Za3 Zkk
 simp only[List.length_cons,List.length_nil]
 omega
theorem Zem {g:Gr}(h:Zie g):∀k,(Zd3 g k).length≤2000+2000*k
 | 0=>by
  have h1:=Zdf h (Za3 g fun _=>true)
  have h2:=Zg0 g (fun _=>true) (g.terms.length-1)
  have h3:=h.t1
  unfold Zd3 Zqa
  split
  ·unfold Za3 at h1 ⊢
   simp only[List.length_append]
   unfold Zxx Zkk
   simp only[List.length_cons,List.length_nil]
   omega
  ·simp
 | k+1=>by
  have:=Zem h k
  have:=Zpi h k
  rw[Zd3,List.length_append]
  omega
theorem ZZ134 {g:Gr}(h:Zie g):(preT g).length≤200000:=by
 have h1:=Zem h g.levels.length
 have h2:=h.l1
 have h3:=Zdf h [g.start]
 unfold preT
 simp only[List.length_append]
 unfold Zlc Zkk
 simp only[List.length_cons,List.length_nil]at h3 ⊢
 omega
theorem Zw3 {g:Gr}(h:Zie g)(p:Int×List Int×Int):(Zid g p).length≤100:=by
 have h3:=Zdf h [(Za3 g (fun x=>x == p.2.2)).headD 0]
 unfold Zid
 split
 ·simp
 ·split
  ·simp[Zbk,tNone]
  ·simp only[List.length_append]
   simp[Zbk,tPrec]at h3 ⊢
   omega
theorem Zr8 {g:Gr}(h:Zie g):∀(k:Nat) (t:Txt),k≤g.prods.length→Zic g k=some t→t.length≤200000
 | 0,t,_,e=>by
  have:preT g=t:=by simpa[Zic]using e
  rw[←this];exact ZZ134 h
 | k+1,t,hk,e=>by
  rw[Zi1 g (by omega)]at e
  cases hn:Zic g k with
  | none=>rw[hn]at e;cases e
  | some t0=>
   rw[hn]at e
   simp only[addP,Option.bind_some]at e
   split at e
   ·injection e with e;rw[←e];exact Zr8 h k t0 (by omega) hn
   ·split at e
    ·cases e
    ·injection e with e;rw[←e];omega
end Go.Px.Scan
namespace Go.Px.Scan
open Go.Px
noncomputable def Znn (g:Gr):Txt:=if Zeh g then (Zly g).getD [] else []
noncomputable def Zld (g:Gr):Int:=if Zeh g then (if (Zly g).isSome then 0 else 11) else 1
end Go.Px.Scan
namespace Go.Px.Scan
open Go.Px
end Go.Px.Scan
namespace Go.Proofs.YtckbgeedlobfaaaGreatDoor
open Go.Px Go.Px.Scan Go.RowKit
attribute [-go_sem] Builtin.append_
structure Pg (w:World)(F:Nat→Prop)(b:Nat)(vs:List Value)(B:Nat)(g:Gr)(l:Txt):Prop where
 pg:(pgC 5 59 b vs l).ok w F
 rd:Zcz.atN w B (.agg vs.toArray) g
 fr:∀i,F i→B≤i
 hB:B≤w.heap.size
 bd:Zie g
abbrev pgG (b:Nat)(vs:List Value)(l:Txt):Ch:=pgC 5 59 b vs l
theorem Pg.vlen {w:World}{F:Nat→Prop}{b B:Nat}{vs:List Value}{g:Gr}{l:Txt}(h:Pg w F b vs B g l):vs.length=5:=by
 obtain ⟨A1,c1,A2,c2,A3,c3,A4,c4,hv,_⟩:=Zbl h.rd
 injection hv with hv
 rw[←List.size_toArray,hv];rfl
theorem Pg.bt {w:World}{F:Nat→Prop}{b B:Nat}{vs:List Value}{g:Gr}{l:Txt}(h:Pg w F b vs B g l):BT 59 vs:=Or.inr ⟨rfl,h.vlen⟩
theorem Pg.next {w w':World}{F F':Nat→Prop}{b B:Nat}{vs:List Value}{g:Gr}{l l':Txt}(h:Pg w F b vs B g l)(hc:Chg F w w')(hp:(pgG b vs l').ok w' F')(hF:∀i,F' i→F i∨w.heap.size≤i):Pg w' F' b vs B g l' where
 pg:=hp
 rd:=Za2 h.rd (hc.below h.hB fun i hi hF=>by have:=h.fr i hF;omega)
 fr i hi:=by rcases hF i hi with e | e;exact h.fr i e;have:=h.hB;omega
 hB:=Nat.le_trans h.hB hc.size
 bd:=h.bd
theorem Pg.done {w w':World}{F:Nat→Prop}{b B:Nat}{vs:List Value}{g:Gr}{l l':Txt}(h:Pg w F b vs B g l)(hd:Zhh F w (pgG b vs l') w'):Pg w' (fun i=>F i∨(w.heap.size≤i∧i<w'.heap.size)) b vs B g l':=h.next hd.1 hd.2 fun i hi=>by rcases hi with e | e;exact Or.inl e;exact Or.inr e.1
theorem Zv3 {s:ByteArray}:s.toList.isEmpty=true↔s=⟨#[]⟩:=by
 rw[ByteArray.toList_eq]
 constructor
 ·intro h
  have:tx s=tx ⟨#[]⟩:=by simpa[tx]using h
  exact Zve this
 ·rintro rfl;rfl
section
variable {w:World} {F:Nat→Prop} {b B:Nat} {vs:List Value} {g:Gr} {l:Txt}
theorem Zig (h:Pg w F b vs B g l){s:Int}(hs:Zf5 g s):Ct Tryz.prog Zca.id #[.pointer (some ⟨b,0,none⟩),.int .i64 s] w fun v w'=>v = .string (BA (symT g s))∧w=w':=by
 refine Zca.ct fun R hR=>?_
 obtain ⟨A1,c1,A2,c2,A3,c3,A4,c4,hv,h1,h2,h3,hst,h4,k1,k2,k3,k4⟩:=(Zbl h.rd).ex
 have hvs:vs=[.slice A1 g.terms.length c1,.slice A2 g.nons.length c2,.slice A3 g.levels.length c3,.int .i64 g.start,.slice A4 g.prods.length c4]:=by
  injection hv with hv
  have:=congrArg Array.toList hv;simpa using this
 obtain ⟨⟨av,A,c⟩,hav,hp⟩:=h.pg
 rw[hvs]at hp
 have s0:=St.enter hp
 have y0:=s0.box 0 rfl
 simp[Zp]at y0
 obtain ⟨hs1,hs2⟩:=hs
 have b1:=h.bd.t1
 have b2:=h.bd.n1
 unfold Zca.run
 simp -dsimp[go_sem,y0]
 refine Za (fun p=>?_) (fun p=>?_)<;>simp at p
 ·subst p
  exact hR _ _ ⟨rfl,rfl⟩
 ·obtain ⟨j,rfl⟩:∃j:Nat,s=(j:Int):=⟨s.toNat,by omega⟩
  simp -dsimp[go_sem]
  refine Za (fun p2=>?_) (fun p2=>?_)<;>simp at p2
  ·obtain ⟨b',o,e1,_,x1,_,z1,_⟩:=Zdw h1 p2
   have hsz:=h.bd.tnam _ (List.getElem_mem p2)
   subst e1
   have hsy:symT g (j:Int)=[39]++tx g.terms[j].1++[39]:=by
    unfold symT nameOf
    rw[if_neg (by omega),if_pos (by omega)]
    simp[p2]
   have q1:¬9223372036854775807<1+g.terms[j].1.size:=by omega
   have q2:¬9223372036854775807<1+g.terms[j].1.size+1:=by omega
   simp -dsimp[go_sem,y0,p2,x1,q1,q2]
   refine hR _ _ ⟨?_,rfl⟩
   rw[hsy,←Zsz,←Zsz,Zyi]
   rfl
  ·obtain ⟨k,rfl⟩:∃k:Nat,j=g.terms.length+k:=⟨j-g.terms.length,by omega⟩
   have hk:k<g.nons.length:=by omega
   obtain ⟨b',o,e1,_,x1,z1⟩:=Go.Px.strs_at h2 hk
   subst e1
   have wk:IntKind.i64.wrap (((g.terms.length+k:Nat):Int)-(g.terms.length:Int))=(k:Int):=by
    rw[show ((g.terms.length+k:Nat):Int)-(g.terms.length:Int)=(k:Int) by omega];exact IntWalk.i64_in _ (by omega)
   have hn:Zb0 g ((g.terms.length+k:Nat):Int)=g.nons[k]:=by
    unfold Zb0
    rw[show (((g.terms.length+k:Nat):Int)-(g.terms.length:Int)).toNat=k by omega]
    simp[hk]
   have hsy:symT g ((g.terms.length+k:Nat):Int)=if g.nons[k]=⟨#[]⟩ then Zko else tx g.nons[k]:=by
    unfold symT
    rw[if_neg (by omega),if_neg (by omega),hn]
   push_cast at wk
   simp -dsimp[go_sem,y0,wk,hk,x1]
   refine Za (fun p3=>?_) (fun p3=>?_)
   ·have p3:=Zv3.1 p3
    refine hR _ _ ⟨?_,rfl⟩
    rw[hsy,if_pos p3];rfl
   ·simp -dsimp[go_sem,y0,wk,hk,x1]
    refine hR _ _ ⟨?_,rfl⟩
    rw[hsy,if_neg (fun e=>by rw[Zv3.2 e]at p3;cases p3),Zyi]
attribute [-go_sem] Zan.b4 Zbm.b4
theorem Zkn (h:Pg w F b vs B g l){u:Value}{ws:List ByteArray}(hu:∀w',Chg F w w'→∃B',(Zo rStr).at1 w' B' u ws)(hb:l.length+(Zbk (ws.map tx)).length≤Zr) :
  Ct Tryz.prog Zan.id #[.pointer (some ⟨b,0,none⟩),u] w fun v w'=>Zhh F w (pgG b vs (l++Zbk (ws.map tx))) w':=by
 refine Zan.ct fun R hR=>?_
 obtain ⟨A,c,rfl,hl,hm,_⟩:=Zay (hu w (Chg.refl _ _)).choose_spec
 unfold Zan.run
 simp -dsimp[go_sem]
 refine Zan.l3_intro _ _ _ _ _ _ (fun y w'=>∃k:Nat,y = .int .i64 k∧k≤ws.length∧St F w w' [pgG b vs (l++Zbk ((ws.take k).map tx))]) (fun y _=>ws.length-iv y) ⟨0,rfl,Nat.zero_le _,by simpa[Zbk]using St.one h.pg⟩ ?_
 rintro _ w1 ⟨k,rfl,hk,hst⟩ C hC
 unfold Zan.b4
 simp -dsimp[go_sem]
 refine Za (fun p=>?_) (fun p=>?_)<;>simp at p
 ·obtain ⟨b',o,e1,_,x1,z1⟩:=Go.Px.strs_at (hu w1 hst.chg).choose_spec p
  subst e1
  have htk:ws.take (k+1)=ws.take k++[ws[k]]:=List.take_succ_eq_append_getElem p
  have hle:=Zm5 (l:=ws.map tx) (k:=k) (by simpa using p)
  simp only[List.getElem_map,Zh1,←List.map_take]at hle
  have wk:=Zau p (by omega)
  simp -dsimp[go_sem,p,x1]
  refine Zde hst 0 rfl (fun F' ho hF=>Zgn ho h.bt ⟨#[32]⟩ (by rw[List.length_append];show _+1≤_;omega)) ?_
  intro F1 v1 w2 hd hs2
  have s2:=hs2 _ hd
  simp -dsimp[go_sem]
  refine Zde s2 0 rfl (fun F' ho hF=>Zgn ho h.bt ws[k] (by rw[List.length_append,List.length_append,Zh1];show _+1+_≤_;omega)) ?_
  intro F2 v2 w3 hd2 hs3
  have s3:=hs3 _ hd2
  simp -dsimp[go_sem,wk]
  refine hC _ _ ⟨k+1,by simp,by omega,?_⟩ (by simp[iv];omega)
  have e:l++Zbk ((ws.take k).map tx)++tx ⟨#[32]⟩++tx ws[k]=l++Zbk ((ws.take (k+1)).map tx):=by
   rw[htk,List.map_append,Zfv]
   simp[Zbk,tx]
  rw[e]at s3
  exact s3
 ·have:k=ws.length:=by omega
  subst this
  rw[List.take_length]at hst
  exact hR _ _ hst.oneDone
theorem Zqu (h:Pg w F b vs B g l){u:Value}{ws:List Int}(hu:∀w',Chg F w w'→∃B',(Zo rInt).at1 w' B' u ws)(hs:∀s∈ws,Zf5 g s)(hb:l.length+(Zcm g ws).length≤Zr) :
  Ct Tryz.prog Zbm.id #[.pointer (some ⟨b,0,none⟩),u] w fun v w'=>Zhh F w (pgG b vs (l++Zcm g ws)) w':=by
 refine Zbm.ct fun R hR=>?_
 obtain ⟨A,c,rfl,hl,hm,_⟩:=Zay (hu w (Chg.refl _ _)).choose_spec
 unfold Zbm.run
 simp -dsimp[go_sem]
 refine Zbm.l3_intro _ _ _ _ _ _ (fun y w'=>∃k:Nat,y = .int .i64 k∧k≤ws.length∧St F w w' [pgG b vs (l++Zcm g (ws.take k))]) (fun y _=>ws.length-iv y) ⟨0,rfl,Nat.zero_le _,by simpa[Zcm,Zbk]using St.one h.pg⟩ ?_
 rintro _ w1 ⟨k,rfl,hk,hst⟩ C hC
 unfold Zbm.b4
 simp -dsimp[go_sem]
 refine Za (fun p=>?_) (fun p=>?_)<;>simp at p
 ·obtain ⟨b',o,e1,_,x1,z1⟩:=Go.Px.ints_at (hu w1 hst.chg).choose_spec p
  subst e1
  have htk:ws.take (k+1)=ws.take k++[ws[k]]:=List.take_succ_eq_append_getElem p
  have hle:=Zm5 (l:=ws.map (symT g)) (k:=k) (by simpa using p)
  simp only[List.getElem_map,←List.map_take]at hle
  have hb':l.length+(Zbk (ws.map (symT g))).length≤Zr:=hb
  have wk:=Zau p (by omega)
  simp -dsimp[go_sem,p,x1]
  refine Zde hst 0 rfl (fun F' ho hF=>Zig (h.next hst.chg ho fun i hi=>?_) (hs _ (List.getElem_mem p))) ?_
  ·by_cases e:i<w.heap.size
   ·exact Or.inl ((hF i hi).2 e)
   ·exact Or.inr (by omega)
  rintro F1 _ _ ⟨rfl,rfl⟩ _
  have hc1:Chg noB w1 (w1.alloc (.cells #[.string (BA (symT g ws[k]))] 9)):=(Chg.refl _ _).alloc _
  have hsz:(BA (symT g ws[k])).size≤maxLen:=by rw[Zhf];have:=Zmb h.bd ws[k];unfold maxLen;omega
  simp -dsimp[go_sem]
  refine Zgg hst hc1 0 rfl (fun F' ho hF=>Zkn ((h.next (hst.chg.trans' hc1 fun _ _ h=>h.elim) ho fun i hi=>?_)) (fun w' hc=>⟨_,Zod (fun i hi=>(hF i hi).1) hsz hc⟩) ?_) ?_
  ·by_cases e:i<w.heap.size
   ·exact Or.inl ((hF i hi).2 e)
   ·exact Or.inr (by omega)
  ·simp only[List.map_cons,List.map_nil,Zsg,Zbk,List.flatMap_cons,List.flatMap_nil,List.append_nil,List.length_append,List.length_cons]
   unfold Zcm
   omega
  intro F3 v3 w3 hd hs3
  have s3:=hs3 _ hd
  simp -dsimp[go_sem,wk]
  refine hC _ _ ⟨k+1,by simp,by omega,?_⟩ (by simp[iv];omega)
  have e:l++Zcm g (ws.take k)++Zbk ([BA (symT g ws[k])].map tx)=l++Zcm g (ws.take (k+1)):=by
   rw[htk,Zqc,List.append_assoc]
   simp[Zcm,Zbk,Zsg]
  rw[e]at s3
  exact s3
 ·have:k=ws.length:=by omega
  subst this
  rw[List.take_length]at hst
  exact hR _ _ hst.oneDone
end
end Go.Proofs.YtckbgeedlobfaaaGreatDoor
namespace Go.Proofs.YtckbgeedlobfaaaGreatDoor
open Go.Px Go.Px.Scan Go.RowKit
section
variable {w:World} {F:Nat→Prop} {b B:Nat} {vs:List Value} {g:Gr} {l:Txt}
theorem Pg.of_st {w':World}{l':Txt}(h:Pg w F b vs B g l){F':Nat→Prop}(hc:Chg F w w')(ho:(pgG b vs l').ok w' F')(hF:∀i,F' i→i<w'.heap.size∧(i<w.heap.size→F i)):Pg w' F' b vs B g l' :=
 h.next hc ho fun i hi=>by
  by_cases e:i<w.heap.size
  ·exact Or.inl ((hF i hi).2 e)
  ·exact Or.inr (by omega)
end
theorem ZZ133 {w:World}{F:Nat→Prop}{t:TypeId}{b:Nat}{vs:List Value}{l:Txt}(h:(pgC 5 t b vs l).ok w F):Zp w b 2 vs:=by
 obtain ⟨⟨av,A,c⟩,hav,hp⟩:=h
 exact ((St.enter hp).box 0 rfl).1.2.2
section
variable {w:World} {F:Nat→Prop} {b B:Nat} {vs:List Value} {g:Gr} {l:Txt}
theorem Pg.cells (h:Pg w F b vs B g l):∃A1 c1 A2 c2 A3 c3 A4 c4,vs=[.slice A1 g.terms.length c1,.slice A2 g.nons.length c2,.slice A3 g.levels.length c3,.int .i64 g.start,.slice A4 g.prods.length c4] ∧
  (Zo Zl1).at1 w B (.slice A1 g.terms.length c1) g.terms∧(Zo rStr).at1 w B (.slice A2 g.nons.length c2) g.nons∧(Zo rInt).at1 w B (.slice A3 g.levels.length c3) g.levels∧Zz g.start∧(Zo rPr).at1 w B (.slice A4 g.prods.length c4) g.prods:=by
 obtain ⟨A1,c1,A2,c2,A3,c3,A4,c4,hv,h1,h2,h3,hst,h4,k1,k2,k3,k4⟩:=(Zbl h.rd).ex
 refine ⟨A1,c1,A2,c2,A3,c3,A4,c4,?_,h1,h2,h3,hst,h4⟩
 injection hv with hv
 have:=congrArg Array.toList hv;simpa using this
end
end Go.Proofs.YtckbgeedlobfaaaGreatDoor
namespace Go.Proofs.YtckbgeedlobfaaaGreatDoor
open Go.Px Go.Px.Scan Go.RowKit
attribute [-go_sem] Builtin.append_
theorem Zmv {w:World}{B:Nat}{v:Value}{g:Gr}(h:Zcz.atN w B v g)(hB:B≤w.heap.size):Ct Tryz.prog Zd5.id #[v] w fun r w'=>r = .bool (Zqv g)∧Chg noB w w':=by
 refine Zd5.ct fun R hR=>?_
 obtain ⟨A1,c1,A2,c2,A3,c3,A4,c4,rfl,h1,h2,h3,h4,h5,⟨l1,m1⟩,⟨l2,m2⟩,⟨l3,m3⟩,⟨l4,m4⟩⟩:=(Zbl h).ex
 have no:∀w',Chg noB w w'→¬Zqj g→R (.returned (.bool false)) w':=fun w' hc hn=>hR _ _ ⟨by rw[Zfp Zjs hn],hc⟩
 unfold Zd5.run
 simp -dsimp[go_sem]
 have h0:=(St.refl noB w).alloc #[.slice A1 g.terms.length c1,.slice A2 g.nons.length c2,.slice A3 g.levels.length c3,.int .i64 g.start,.slice A4 g.prods.length c4] 27
 have hb1:=h0.chg.below hB fun _ _=>id
 have hB1:B≤(w.alloc (.cells #[.slice A1 g.terms.length c1,.slice A2 g.nons.length c2,.slice A3 g.levels.length c3,.int .i64 g.start,.slice A4 g.prods.length c4] 27)).heap.size:=by have:=h0.chg.size;omega
 generalize w.heap.size=q at h0 ⊢
 generalize w.alloc (.cells #[.slice A1 g.terms.length c1,.slice A2 g.nons.length c2,.slice A3 g.levels.length c3,.int .i64 g.start,.slice A4 g.prods.length c4] 27)=w1 at h0 hb1 hB1 ⊢
 have k0:=h0.box 0 rfl
 simp[Zp]at k0
 refine Za (fun q1=>?_) (fun q1=>?_)<;>simp at q1
 ·simp -dsimp[go_sem]
  exact no _ h0.chg fun hv=>by have:=hv.first;rw[q1]at this;cases this
 have q1':0<g.nons.length:=List.length_pos_iff.2 q1
 obtain ⟨b2,o2,rfl,hb2,d1,d2⟩:=Go.Px.strs_at (Rep.below h2 hb1) q1'
 simp at d1
 simp -dsimp[go_sem,k0,q1',d1]
 have hf:g.nons.head?=some g.nons[0]:=by rw[List.head?_eq_getElem?,List.getElem?_eq_getElem q1']
 refine Za (fun p1=>?_) (fun p1=>?_)<;>simp at p1
 ·simp -dsimp[go_sem]
  refine no _ h0.chg fun hv=>p1 ?_
  have h9:=hv.first
  rw[hf]at h9
  injection h9 with h9
  rw[h9,ByteArray.toList_eq]
 have hfirst:g.nons.head?=some ⟨#[]⟩:=by
  rw[hf]
  congr 1
  exact Zh6 (by rw[←ByteArray.toList_eq];exact p1)
 simp -dsimp[go_sem,k0]
 refine Zf (Zo8 (Za2 h hb1) hB1 (a:=1) (by omega)) ?_
 rintro _ w2 ⟨rfl,hc2⟩
 have hst2:=h0.old hc2
 have k2:=hst2.box 0 rfl
 simp[Zp]at k2
 cases hs:symB g 1 with
 | false=>
  simp -dsimp[go_sem]
  refine no _ hst2.chg fun hv=>?_
  rw[Zi2.2 hv.syms]at hs;cases hs
 | true=>
  have hsP:=Zi2.1 hs
  simp -dsimp[go_sem,k2]
  have hb2:=hst2.chg.below (B:=B) (by omega) fun _ _=>id
  have hB2:B≤w2.heap.size:=by have:=hc2.size;omega
  refine Zf (Zjh (Za2 h hb2) hB2 (a:=1) (by omega) hsP) ?_
  rintro _ w3 ⟨⟨vl,rfl,hl⟩,hc3⟩
  have hst3:=hst2.old hc3
  have k3:=hst3.box 0 rfl
  simp[Zp]at k3
  cases hp:Zzo g 1 with
  | false=>
   simp -dsimp[go_sem,k3]
   refine no _ hst3.chg.drew fun hv=>?_
   rw[Zf6.2 hv.prods]at hp;cases hp
  | true=>
   have hpP:=Zf6.1 hp
   have hc0:0<g.prods.length:=by have:=hpP.c0;omega
   have hstd:=hst3.old ((Chg.refl noB w3).drew)
   have kd:=hstd.box 0 rfl
   simp[Zp]at kd
   have hB3:B≤w3.drew.heap.size:=by have:=hc3.size;simp;omega
   obtain ⟨b5,o5,vr,rfl,hb5,f1,f2,f3,fr,i1,i2⟩:=Zev (Rep.below h5 (hstd.chg.below hB fun _ _=>id)) hc0
   obtain ⟨Ar,cr,rfl,lr,mr,_⟩:=Zay fr
   simp at f1 f2 f3
   have hph:g.prods.head?=some g.prods[0]:=by rw[List.head?_eq_getElem?,List.getElem?_eq_getElem hc0]
   have fin:∀b:Bool,(b=true↔g.prods[0]=((g.terms.length:Int),[g.start],0))→R (.returned (.bool b)) w3.drew:=fun b hb=>by
    refine hR _ _ ⟨?_,hstd.chg⟩
    congr 1
    refine Zn2 ?_
    rw[Zjs,hb]
    constructor
    ·intro e;exact ⟨hfirst,hsP,hpP,by rw[hph,e]⟩
    ·intro hv
     have:=hv.added
     rw[hph]at this
     injection this
   simp -dsimp[go_sem,k3,kd,hc0,f1,f2,f3]
   refine Za (fun q2=>?_) (fun q2=>?_)<;>simp at q2
   ·simp -dsimp[go_sem,k3,kd,hc0,f1,f2,f3]
    refine Za (fun q3=>?_) (fun q3=>?_)<;>simp at q3
    ·have q3':0<g.prods[0].2.1.length:=by omega
     obtain ⟨b6,o6,rfl,hb6,e1,e2⟩:=Go.Px.ints_at fr q3'
     simp at e1
     simp -dsimp[go_sem,k3,kd,hc0,f1,f2,f3,q3',e1]
     have hl1:g.prods[0].2.1=[g.prods[0].2.1[0]]:=by
      apply List.ext_getElem?
      intro i
      cases i with
      | zero=>simp[List.getElem?_eq_getElem q3']
      | succ i=>simp;omega
     refine Za (fun q4=>?_) (fun q4=>?_)<;>simp at q4
     ·simp -dsimp[go_sem,k3,kd,hc0,f1,f2,f3,q3']
      refine fin _ ?_
      rw[beq_iff_eq]
      constructor
      ·intro e
       refine Prod.ext q2 (Prod.ext ?_ e)
       show g.prods[0].2.1=[g.start]
       rw[hl1,q4]
      ·intro e;rw[e]
     ·refine fin false ⟨fun h=>(by cases h),fun e=>?_⟩
      refine absurd ?_ q4
      have e2:g.prods[0].2.1=[g.start]:=by rw[e]
      simp only[e2,List.getElem_cons_zero]
    ·refine fin false ⟨fun h=>(by cases h),fun e=>?_⟩
     rw[e]at q3;simp at q3
   ·refine fin false ⟨fun h=>(by cases h),fun e=>?_⟩
    rw[e]at q2;exact absurd rfl q2
end Go.Proofs.YtckbgeedlobfaaaGreatDoor
namespace Go.Proofs.YtckbgeedlobfaaaGreatDoor
open Go.Px Go.Px.Scan Go.RowKit
attribute [-go_sem] Builtin.append_
theorem Zyp {w:World}{F:Nat→Prop}{t:TypeId}{b:Nat}{vs:List Value}(h:(boxC b t (.pointer none :: .slice none 0 0::vs)).ok w F):(pgC 5 t b vs []).ok w F:=by
 have s0:=(St.one h).nilTxt 5
 obtain ⟨T,hT,hk⟩:=s0.all
 exact ⟨(.pointer none,none,0),Or.inl rfl,T,fun i hi=>⟨(hT i hi).1 (hT i hi).2,(hT i hi).2⟩,hk⟩
theorem bPage (A1 A2 A3 A4:Option Addr)(n1 c1 n2 c2 n3 c3 n4 c4:Nat)(s:Int)(w:World):(Instr.build 59 #[(1,.agg #[.slice A1 n1 c1,.slice A2 n2 c2,.slice A3 n3 c3,.int .i64 s,.slice A4 n4 c4])]).run Tryz.prog w = .ok (.agg #[.pointer none,.slice none 0 0,.slice A1 n1 c1,.slice A2 n2 c2,.slice A3 n3 c3,.int .i64 s,.slice A4 n4 c4]) w:=by simp[go_sem]
attribute [go_sem ↓] bPage
theorem Zyx {w:World}{B:Nat}{vg:Value}{g:Gr}(h:Zcz.atN w B vg g)(hB:B≤w.heap.size):Ct Tryz.prog Zga.id #[vg] w fun v w'=>∃b vs,v = .tuple #[.pointer (some ⟨b,0,none⟩),.bool (Zeh g)]∧vg = .agg vs.toArray∧St noB w w' [pgG b vs []]:=by
 refine Zga.ct fun R hR=>?_
 obtain ⟨A1,c1,A2,c2,A3,c3,A4,c4,rfl,h1,h2,h3,hst,h4,k1,k2,k3,k4⟩:=(Zbl h).ex
 have s0:=(St.refl noB w).alloc #[.slice A1 g.terms.length c1,.slice A2 g.nons.length c2,.slice A3 g.levels.length c3,.int .i64 g.start,.slice A4 g.prods.length c4] 27
 unfold Zga.run
 simp -dsimp[go_sem]
 generalize hq:w.heap.size=q at s0 ⊢
 generalize hw1:w.alloc (.cells #[.slice A1 g.terms.length c1,.slice A2 g.nons.length c2,.slice A3 g.levels.length c3,.int .i64 g.start,.slice A4 g.prods.length c4] 27)=w1 at s0 ⊢
 have y0:=s0.box 0 rfl
 simp[Zp]at y0
 have hg1:Zcz.atN w1 B _ g:=Za2 h (s0.chg.below hB fun _ _=>id)
 have hB1:B≤w1.heap.size:=by have:=s0.chg.size;omega
 have fin:∀(b:Nat) (x:Bool) (w':World),x=Zeh g→St noB w w' ([boxC q 27 [.slice A1 g.terms.length c1,.slice A2 g.nons.length c2,.slice A3 g.levels.length c3,.int .i64 g.start,.slice A4 g.prods.length c4],boxC b 59 [.pointer none,.slice none 0 0,.slice A1 g.terms.length c1,.slice A2 g.nons.length c2,.slice A3 g.levels.length c3,.int .i64 g.start,.slice A4 g.prods.length c4]]) →
   R (.returned (.tuple #[.pointer (some ⟨b,0,none⟩),.bool x])) w':=by
  intro b x w' hx hs
  refine hR _ _ ⟨b,[.slice A1 g.terms.length c1,.slice A2 g.nons.length c2,.slice A3 g.levels.length c3,.int .i64 g.start,.slice A4 g.prods.length c4],by rw[hx],rfl,?_⟩
  have h1:St noB w w' [boxC b 59 (.pointer none :: .slice none 0 0::[.slice A1 g.terms.length c1,.slice A2 g.nons.length c2,.slice A3 g.levels.length c3,.int .i64 g.start,.slice A4 g.prods.length c4])]:=hs.pick [1] (by decide) rfl
  exact h1.turn (k:=0) rfl fun F ho=>Zyp ho
 have he:Zeh g=(Zrv g || Zqv g):=rfl
 have hq1:w1.heap.size=q+1:=by rw[←hw1,←hq];simp
 obtain ⟨gv,hgv⟩:∃gv:Value,gv = .agg #[.slice A1 g.terms.length c1,.slice A2 g.nons.length c2,.slice A3 g.levels.length c3,.int .i64 g.start,.slice A4 g.prods.length c4]:=⟨_,rfl⟩
 constructor
 ·have s1:=(s0.old (Chg.refl noB _).drew).alloc #[.pointer none,.slice none 0 0,.slice A1 g.terms.length c1,.slice A2 g.nons.length c2,.slice A3 g.levels.length c3,.int .i64 g.start,.slice A4 g.prods.length c4] 59
  have s1':=s1
  have hg2:Zcz.atN _ B _ g:=Za2 h (s1'.chg.below hB fun _ _=>id)
  have hB2:=s1'.chg.size
  rw[show w1.drew.heap.size=q+1 from hq1]at s1'
  have ew:w1.drew.alloc (.cells #[.pointer none,.slice none 0 0,.slice A1 g.terms.length c1,.slice A2 g.nons.length c2,.slice A3 g.levels.length c3,.int .i64 g.start,.slice A4 g.prods.length c4] 59)=(w1.alloc (.cells #[.pointer none,.slice none 0 0,.slice A1 g.terms.length c1,.slice A2 g.nons.length c2,.slice A3 g.levels.length c3,.int .i64 g.start,.slice A4 g.prods.length c4] 59)).drew:=by simp[go_sem]
  rw[ew]at s1' hg2 hB2
  generalize (w1.alloc (.cells #[.pointer none,.slice none 0 0,.slice A1 g.terms.length c1,.slice A2 g.nons.length c2,.slice A3 g.levels.length c3,.int .i64 g.start,.slice A4 g.prods.length c4] 59)).drew=w2 at s1' hg2 hB2 ⊢
  refine Zf (Zvu hg2 (by omega)) ?_
  rintro _ w3 ⟨rfl,hc3⟩
  have s3:=s1'.old hc3
  refine Za (fun p=>?_) (fun p=>?_)
  ·exact fin _ _ _ (by rw[he,p];rfl) s3
  ·have y3:=s3.box 0 rfl
   simp[Zp]at y3
   simp -dsimp[go_sem,y3]
   have hg3:Zcz.atN w3 B _ g:=Za2 h (s3.chg.below hB fun _ _=>id)
   refine Zf (Zmv hg3 (by have:=s3.chg.size;omega)) ?_
   rintro _ w4 ⟨rfl,hc4⟩
   exact fin _ _ _ (by rw[he,p];rfl) (s3.old hc4)
 ·have s1:=s0.old (Chg.refl noB _).drew
  have hg2:Zcz.atN _ B _ g:=Za2 h (s1.chg.below hB fun _ _=>id)
  have hB2:=s1.chg.size
  generalize w1.drew=w2 at s1 hg2 hB2 ⊢
  refine Zf (Zvu hg2 (by omega)) ?_
  rintro _ w3 ⟨rfl,hc3⟩
  have s3:=s1.old hc3
  have y3:=s3.box 0 rfl
  simp[Zp]at y3
  have hg3:Zcz.atN w3 B _ g:=Za2 h (s3.chg.below hB fun _ _=>id)
  simp -dsimp[go_sem,y3]
  refine Za (fun p=>?_) (fun p=>?_)
  ·have s4:=s3.alloc #[.pointer none,.slice none 0 0,.slice A1 g.terms.length c1,.slice A2 g.nons.length c2,.slice A3 g.levels.length c3,.int .i64 g.start,.slice A4 g.prods.length c4] 59
   simp -dsimp[go_sem]
   exact fin _ _ _ (by rw[he,p];rfl) s4
  ·have s4:=s3.alloc #[.pointer none,.slice none 0 0,.slice A1 g.terms.length c1,.slice A2 g.nons.length c2,.slice A3 g.levels.length c3,.int .i64 g.start,.slice A4 g.prods.length c4] 59
   simp -dsimp[go_sem,y3]
   constructor
   ·have hg4:Zcz.atN _ B _ g:=Za2 h (s4.chg.below hB fun _ _=>id)
    have hB4:=s4.chg.size
    generalize w3.alloc (.cells #[.pointer none,.slice none 0 0,.slice A1 g.terms.length c1,.slice A2 g.nons.length c2,.slice A3 g.levels.length c3,.int .i64 g.start,.slice A4 g.prods.length c4] 59)=w4 at s4 hg4 hB4 ⊢
    have y4:=s4.box 0 rfl
    simp[Zp]at y4
    refine Zf (Zmv hg4 (by omega)) ?_
    rintro _ w5 ⟨rfl,hc5⟩
    exact fin _ _ _ (by rw[he,p];rfl) (s4.old hc5)
   ·refine Zf (Zmv hg3 (by have:=s3.chg.size;omega)) ?_
    rintro _ w5 ⟨rfl,hc5⟩
    have s5:=s3.old hc5
    have y5:=s5.box 0 rfl
    simp[Zp]at y5
    have s6:=s5.alloc #[.pointer none,.slice none 0 0,.slice A1 g.terms.length c1,.slice A2 g.nons.length c2,.slice A3 g.levels.length c3,.int .i64 g.start,.slice A4 g.prods.length c4] 59
    simp -dsimp[go_sem,y5]
    exact fin _ _ _ (by rw[he,p];rfl) s6
end Go.Proofs.YtckbgeedlobfaaaGreatDoor
namespace Go.Proofs.YtckbgeedlobfaaaGreatDoor
open Go.Px Go.Px.Scan Go.RowKit
attribute [-go_sem] Builtin.append_
section
variable {w:World} {F:Nat→Prop} {t:TypeId} {b:Nat} {vs:List Value} {l:Txt}
theorem ZZ342 (h:(pgC 5 t b vs l).ok w F):∃A c,w.cell? ⟨b,1,none⟩=some (.slice A l.length c):=by
 obtain ⟨⟨av,A,c⟩,hav,hp⟩:=h
 exact ⟨A,c,((St.enter hp).box 0 rfl).1.2.1⟩
theorem ZZ314 (h:(pgC 5 t b vs l).ok w F):Ct Tryz.prog Zcr.id #[.pointer (some ⟨b,0,none⟩)] w fun v w'=>v = .int .i64 l.length∧w=w':=by
 refine Zcr.ct fun R hR=>?_
 obtain ⟨A,c,y⟩:=ZZ342 h
 unfold Zcr.run
 simp -dsimp[go_sem,y]
 exact hR _ _ ⟨rfl,rfl⟩
theorem ZZ2 {w:World}{F:Nat→Prop}{g c:Nat}{l:Txt}{a:Option Addr}(h:(txtC 5 a l.length c l).ok w F)(ha:a=some ⟨g,0,none⟩):Chg F w (w.freeze ⟨g,0,none⟩ l.length)∧(txtC 5 a l.length c l).ok (w.freeze ⟨g,0,none⟩ l.length) F:=by
 rcases h.2 with ⟨h0,_⟩|⟨g',cur,fz,ha',hF,hg,hfz,hnc,hcm,hcs,htake⟩
 ·rw[ha]at h0;cases h0
 rw[ha]at ha'
 injection ha' with ha';injection ha' with ha'
 subst ha'
 unfold World.freeze
 split
 ·exact ⟨Chg.refl _ _,h⟩
 ·refine ⟨⟨rfl,rfl,rfl,by simp,fun k hk hn=>?_⟩,rfl,?_⟩
  ·simp only[Array.getElem?_modify]
   rw[if_neg (by intro e;subst e;exact hn hF)]
  ·obtain ⟨lo,hi⟩:=fz
   refine .inr ⟨g,cur,(if lo == hi then (0,0+l.length) else (min lo 0,max hi (0+l.length))),ha,hF,?_,Or.inl ?_,hnc,hcm,hcs,htake⟩
   ·simp[Array.getElem?_modify,hg]
   ·have hfz:hi≤l.length:=by rcases hfz with h | h;exact h;cases h.1
    split<;>simp<;>omega
theorem Zrb (h:(pgC 5 t b vs l).ok w F):Ct Tryz.prog Zbj.id #[.pointer (some ⟨b,0,none⟩)] w fun v w'=>v = .string (BA l)∧Zhh F w (pgC 5 t b vs l) w':=by
 refine Zbj.ct fun R hR=>?_
 obtain ⟨⟨av,A,c⟩,hav,hp⟩:=h
 have s0:=(St.enter hp).old (Chg.refl noB _).drew
 have y0:=s0.box 0 rfl
 simp[Zp]at y0
 have fin:∀w':World,St F w w' [boxC b t (av :: .slice A l.length c::vs),txtC 5 A l.length c l]→Zhh F w (pgC 5 t b vs l) w':=fun w' hs=>
  Zhh.of_st hs fun F' hok=>⟨(av,A,c),hav,hok⟩
 obtain ⟨_,hnc,hcm,hnil⟩:=s0.txtSize 1 rfl
 unfold Zbj.run
 simp -dsimp[go_sem,y0]
 generalize w.drew=w1 at s0 ⊢
 clear y0
 have y0:=s0.box 0 rfl
 simp[Zp]at y0
 dsimp only at hnc hcm hnil
 cases A with
 | none=>
  obtain ⟨h0,hc0⟩:=hnil rfl
  have hl:l=[]:=List.length_eq_zero_iff.1 h0
  subst hl;subst hc0
  rw[Lib.run_unsafeSliceData_nil,Zb9]
  simp -dsimp[go_sem,y0]
  rw[Lib.run_unsafeString_none,Zb9]
  exact hR _ _ ⟨rfl,fin _ s0⟩
 | some a=>
  obtain ⟨F1,ho,_,hs1⟩:=s0.opn (k:=1) rfl
  rcases ho.2 with ⟨hv,_⟩|⟨g,cur,fz,hv,hFg,hg,hfz,hnc',hcm',hcs,htake⟩
  ·cases hv
  injection hv with hv1
  subst hv1
  by_cases hl:l=[]
  ·subst hl
   by_cases hc0:c=0
   ·subst hc0
    have hsh:w1.shape? g=some (5,cur.size):=by simp[World.shape?,hg]
    rw[Lib.run_unsafeSliceData_zero w1 _ 92 5 Tryz.underlying92 ⟨g,0,none⟩ _ _ hsh,Zb9]
    have s2:=s0.old (Chg.alloc (Chg.refl noB _) (.view ⟨g,0,none⟩ 5))
    have y2:=s2.box 0 rfl
    generalize w1.alloc (.view ⟨g,0,none⟩ 5)=w2 at s2 y2 ⊢
    simp[Zp]at y2
    simp -dsimp[go_sem,y2]
    rw[Lib.run_unsafeString_none,Zb9]
    exact hR _ _ ⟨rfl,fin _ s2⟩
   ·rw[Lib.run_unsafeSliceData_row w1 _ _ _ _ _ hc0,Zb9]
    simp -dsimp[go_sem,y0]
    rw[Lib.run_unsafeString_none,Zb9]
    exact hR _ _ ⟨rfl,fin _ s0⟩
  ·have hpos:0<l.length:=List.length_pos_iff.2 hl
   have hc0:c≠0:=by omega
   rw[Lib.run_unsafeSliceData_row w1 _ _ _ _ _ hc0,Zb9]
   have hsh:w1.shape? g=some (5,cur.size):=by simp[World.shape?,hg]
   have hu:=Lib.run_unsafeString_row w1 92 3 9 5 Tryz.underlying92 (by kernel_rfl) g cur.size hsh l hl (by simp at hcs;omega) (by unfold maxLen at hcm;omega) (fun j x hj=>Zsa hg htake j _ (by simp[byC,hj]))
   simp -dsimp[go_sem,y0,hu]
   have hfr:=ZZ2 ho rfl
   have s2:=hs1 _ _ hfr.1 ((txtC 5 (some ⟨g,0,none⟩) l.length c l).keep hfr.2 (Chg.refl noB _) (fun _ _ _=>id) fun _ _ e=>Or.inl e)
   exact hR _ _ ⟨rfl,fin _ s2⟩
end
end Go.Proofs.YtckbgeedlobfaaaGreatDoor
namespace Go.Proofs.YtckbgeedlobfaaaGreatDoor
open Go.Px Go.Px.Scan Go.RowKit
attribute [-go_sem] Builtin.append_
section
variable {w:World} {B:Nat} {vg:Value} {g:Gr}
end
end Go.Proofs.YtckbgeedlobfaaaGreatDoor
namespace Go.Proofs.YtckbgeedlobfaaaGreatDoor
open Go.Px Go.Px.Scan Go.RowKit
attribute [-go_sem] Builtin.append_
section
variable {w:World} {B:Nat} {vg:Value} {g:Gr}
end
end Go.Proofs.YtckbgeedlobfaaaGreatDoor
namespace Go.Proofs.YtckbgeedlobfaaaGreatDoor
open Go.Px Go.Px.Scan Go.RowKit
attribute [-go_sem] Builtin.append_
attribute [-go_sem] Zaa.b7 Zaa.b8 Zaa.b3 Zaq.b3 Zaq.b7 Zaq.b8
section
variable {w:World} {F:Nat→Prop} {b B:Nat} {vs:List Value} {g:Gr} {l:Txt}
theorem Zqp (h:Pg w F b vs B g l)(s:ByteArray){u:Value}{ws:List Int}(hu:∀w',Chg F w w'→∃B',(Zo rInt).at1 w' B' u ws)(hs:∀s∈ws,Zf5 g s)(hb:l.length+s.size+(Zcm g ws).length≤Zr) :
  Ct Tryz.prog Za7.id #[.pointer (some ⟨b,0,none⟩),.string s,u] w fun v w'=>Zhh F w (pgG b vs (l++tx s++Zcm g ws)) w':=by
 refine Za7.ct fun R hR=>?_
 unfold Za7.run
 simp -dsimp[go_sem]
 have s0:=St.one h.pg
 refine Zde s0 0 rfl (fun F' ho hF=>Zgn ho h.bt s (by omega)) ?_
 intro F1 v1 w1 hd hst
 have s1:=hst _ hd
 refine Zde s1 0 rfl (fun F' ho hF=>Zqu (h.of_st s1.chg ho hF) (fun w' hc=>hu w' (s1.chg.trans' hc fun i hi e=>(hF i e).2 hi)) hs (by rw[List.length_append,Zh1];omega)) ?_
 intro F2 v2 w2 hd2 hst2
 have s2:=hst2 _ hd2
 exact hR _ _ s2.oneDone
def Asks (w:World)(x:Value)(f:Int→Bool):Prop:=∃gid first cap,x = .func (.func gid) first cap∧∀w',Chg noB w w'→∀k:Int,Zz k→Ct Tryz.prog gid (first.toList++[Value.int .i64 k]++cap.toList).toArray w' fun v w''=>v = .bool (f k)∧w'=w''
theorem Zmi (h:Pg w F b vs B g l){x:Value}{f:Int→Bool}(hx:Asks w x f) :
  Ct Tryz.prog Zaa.id #[.pointer (some ⟨b,0,none⟩),x] w fun v w'=>∃a c,v = .slice a (Za3 g f).length c∧St noB w w' [rowC 3 1 a (Za3 g f).length c ((Za3 g f).map (.int .i64 ·))]:=by
 refine Zaa.ct fun R hR=>?_
 obtain ⟨A1,c1,A2,c2,A3,c3,A4,c4,hv,h1,h2,h3,hst,h4,k1,k2,k3,k4⟩:=(Zbl h.rd).ex
 have hvs:vs=[.slice A1 g.terms.length c1,.slice A2 g.nons.length c2,.slice A3 g.levels.length c3,.int .i64 g.start,.slice A4 g.prods.length c4]:=by
  injection hv with hv
  have:=congrArg Array.toList hv;simpa using this
 obtain ⟨⟨av,A,c⟩,hav,hp⟩:=h.pg
 rw[hvs]at hp
 have s0:=St.enter hp
 have y0:=s0.box 0 rfl
 simp[Zp]at y0
 obtain ⟨gid,first,cap,rfl,hg⟩:=hx
 have ht0:=h.bd.t0
 have ht1:=h.bd.t1
 obtain ⟨b1,o1,rfl,_⟩:=Zdw h1 ht0
 unfold Zaa.run
 have l1':(1:Nat)≤g.terms.length:=ht0
 have l1'':(1:Int)≤g.terms.length:=by omega
 simp -dsimp[go_sem,y0,l1'']
 have hT:=slice_from (k:=1) (o':=o1+2) h1 l1' rfl
 generalize (if c1=1 then some (⟨b1,o1,none⟩:Addr) else some ⟨b1,o1+2,none⟩)=AT at hT ⊢
 have htl:(g.terms.drop 1).length=g.terms.length-1:=by simp
 obtain ⟨tl,hE⟩:∃tl,g.terms.drop 1=tl:=⟨_,rfl⟩
 rw[hE]at hT htl
 refine Zaa.l6_intro _ _ _ _ _ _ _ (fun x y w'=>∃(k:Nat) (a:Option Addr) (c:Nat),y = .int .i64 k∧x = .slice a (Zd8 g f k).length c∧k≤g.terms.length-1∧St noB w w' [rowC 3 1 a (Zd8 g f k).length c ((Zd8 g f k).map (.int .i64 ·))])
  (fun _ y _=>g.terms.length-1-iv y) ⟨0,none,0,rfl,rfl,Nat.zero_le _,(St.refl noB w).nilRow 3 1⟩ ?_
 rintro _ _ w1 ⟨k,a,c',rfl,rfl,hk,hst1⟩ C hC
 unfold Zaa.b7
 simp -dsimp[go_sem]
 refine Za (fun p=>?_) (fun p=>?_)
 ·have p':k<tl.length:=by rw[htl];simpa using p
  obtain ⟨b2,o2,rfl,hb2,d1,d2,d3,d4⟩:=Zdw (Rep.below hT (hst1.chg.below h.hB fun _ _=>id)) p'
  have hk1:k<g.terms.length-1:=by omega
  have p2:k<g.terms.length-1:=hk1
  have hlv:Zci g ((k:Int)+1)=tl[k].2:=by
   rw[show (k:Int)+1=((k+1:Nat):Int) by omega,Zhm (by omega)]
   subst hE;simp[Nat.add_comm]
  have hst2:=hst1.alloc #[.string tl[k].1,.int .i64 tl[k].2] 64
  have x2:=hst2.box 1 rfl
  simp[Zp]at x2
  simp -dsimp[go_sem,p2,d1,d2,x2]
  have hct:=hg _ hst2.chg tl[k].2 d4
  generalize w1.alloc (.cells #[.string tl[k].1,.int .i64 tl[k].2] 64)=w2 at hct hst2 x2 ⊢
  refine Zi4 hct ?_
  rintro _ _ ⟨rfl,rfl⟩
  have wk:IntKind.i64.wrap ((k:Int)+1)=(k:Int)+1:=IntWalk.i64_in _ (by omega)
  have hn:=Zuu g f k
  rw[hlv]at hn
  have fin:∀(a':Option Addr) (c'':Nat) (w3:World),St noB w w3 [rowC 3 1 a' (Zd8 g f (k+1)).length c'' ((Zd8 g f (k+1)).map (.int .i64 ·))]→Zaa.b8 R C (.slice a' (Zd8 g f (k+1)).length c'') (.int .i64 k) w3:=by
   intro a' c'' w3 h3
   unfold Zaa.b8
   simp -dsimp[go_sem,wk]
   exact hC _ _ _ ⟨k+1,a',c'',by simp,rfl,by omega,h3⟩ (by simp[iv];omega)
  refine Za (fun q=>?_) (fun q=>?_)
  ·rw[q,if_pos rfl]at hn
   have hlen:=Zg0 g f k
   simp -dsimp[go_sem,wk]
   refine hst2.append1 0 rfl Zqw iInt rfl (by omega) (news:=[.int .i64 ((k:Int)+1)]) rfl (by simp[Value.oneCell']) (by unfold maxLen;omega) (by unfold Zr;omega) ?_
   intro g' cap' w3 h3
   have e1:(Zd8 g f k).map (Value.int .i64 ·)++[.int .i64 ((k:Int)+1)]=(Zd8 g f (k+1)).map (Value.int .i64 ·):=by rw[hn,List.map_append];rfl
   have e2:(Zd8 g f k).length+1=(Zd8 g f (k+1)).length:=by rw[hn];simp
   rw[e1,e2]at h3
   rw[e2]
   exact fin _ _ _ (h3.take 1)
  ·rw[q,if_neg (by simp),List.append_nil]at hn
   rw[←hn]
   exact fin _ _ _ (by rw[hn];exact hst2.take 1)
 ·have:k=g.terms.length-1:=by
   have:¬k<g.terms.length-1:=by simpa using p
   omega
  subst this
  unfold Zaa.b3
  exact hR _ _ ⟨a,c',rfl,hst1⟩
end
end Go.Proofs.YtckbgeedlobfaaaGreatDoor
namespace Go.Proofs.YtckbgeedlobfaaaGreatDoor
open Go.Px Go.Px.Scan Go.RowKit
attribute [-go_sem] Builtin.append_
attribute [-go_sem] Zaa.b7 Zaa.b8 Zaa.b3 Zaq.b3 Zaq.b7 Zaq.b8
theorem ZZ47 {l:List Int}(h:0<l.length):l.headD 0=l[0]:=by
 cases l with
 | nil=>simp at h
 | cons x r=>rfl
theorem ZZ107 (w:World):Asks w (.func (.func Zfb.id) #[] #[]) (fun _=>true) :=
 ⟨_,_,_,rfl,fun w' _ k hk=>by
  refine Zfb.ct fun R hR=>?_
  unfold Zfb.run
  simp -dsimp[go_sem]
  exact hR _ _ ⟨rfl,rfl⟩⟩
theorem Zzj {w:World}{q i:Nat}(hq:w.cell? ⟨q,0,none⟩=some (.int .i64 i))(hi:i≤1000):Asks w (.func (.func Ze2.id) #[] #[.pointer (some ⟨q,0,none⟩)]) (fun k=>k == (i:Int)+1) :=
 ⟨_,_,_,rfl,fun w' hc k hk=>by
  have hq':w'.cell? ⟨q,0,none⟩=some (.int .i64 i):=(hc.cell (p:=⟨q,0,none⟩) (World.block_lt_of_cell? _ _ hq) id).trans hq
  have wi:IntKind.i64.wrap ((i:Int)+1)=(i:Int)+1:=IntWalk.i64_in _ (by omega)
  refine Ze2.ct fun R hR=>?_
  unfold Ze2.run
  simp -dsimp[go_sem,hq',wi]
  exact hR _ _ ⟨rfl,rfl⟩⟩
theorem Zxs {w:World}{q:Nat}{lv:Int}(hq:w.cell? ⟨q,2,none⟩=some (.int .i64 lv)):Asks w (.func (.func Zc9.id) #[] #[.pointer (some ⟨q,0,none⟩)]) (fun k=>k == lv) :=
 ⟨_,_,_,rfl,fun w' hc k hk=>by
  have hq':w'.cell? ⟨q,2,none⟩=some (.int .i64 lv):=(hc.cell (p:=⟨q,2,none⟩) (World.block_lt_of_cell? _ _ hq) id).trans hq
  refine Zc9.ct fun R hR=>?_
  unfold Zc9.run
  simp -dsimp[go_sem,hq']
  exact hR _ _ ⟨rfl,rfl⟩⟩
section
variable {w:World} {F:Nat→Prop} {b B:Nat} {vs:List Value} {g:Gr} {l:Txt}
theorem ZZ159 (h:Pg w F b vs B g l){p:Int×List Int×Int}{A:Option Addr}{c:Nat}(hp:p∈g.prods)(hr:(Zo rInt).at1 w B (.slice A p.2.1.length c) p.2.1)(h1:Zz p.1)(hb:l.length+100≤Zr) :
  Ct Tryz.prog Zaq.id #[.pointer (some ⟨b,0,none⟩),.agg #[.int .i64 p.1,.slice A p.2.1.length c,.int .i64 p.2.2]] w fun v w'=>Zhh F w (pgG b vs (l++Zid g p)) w':=by
 refine Zaq.ct fun R hR=>?_
 obtain ⟨A1,c1,A2,c2,A3,c3,A4,c4,hvs,t1,_,_,_,_⟩:=h.cells
 unfold Zaq.run
 have s0:=(St.one h.pg).alloc #[.int .i64 p.1,.slice A p.2.1.length c,.int .i64 p.2.2] 50
 have y0:=s0.box 1 rfl
 simp[Zp]at y0
 have hsl:=Zay hr
 obtain ⟨_,_,e0,hlen,hcm,_⟩:=hsl
 injection e0 with e1 e2 e3;subst e1 e3
 simp -dsimp[go_sem,y0]
 generalize w.heap.size=q at s0 ⊢
 generalize w.alloc (.cells #[.int .i64 p.1,.slice A p.2.1.length c,.int .i64 p.2.2] 50)=w1 at s0 ⊢
 clear y0
 have y0:=s0.box 1 rfl
 simp[Zp]at y0
 obtain ⟨F1,o1,hF1⟩:=s0.get (k:=0) rfl
 have yc:=ZZ133 o1
 rw[hvs]at yc
 simp[Zp]at yc
 have hr1:=Rep.below hr (s0.chg.below h.hB fun i hi hF=>by have:=h.fr i hF;omega)
 have t1':=Rep.below t1 (s0.chg.below h.hB fun i hi hF=>by have:=h.fr i hF;omega)
 refine Zaq.l6_intro _ _ _ _ _ _ _ _ (fun x y w'=>∃k:Nat,y = .int .i64 k∧k≤p.2.1.length∧x = .int .i64 (Zkj g (p.2.1.take k))∧w1=w') (fun _ y _=>p.2.1.length-iv y) ⟨0,rfl,Nat.zero_le _,rfl,rfl⟩ ?_
 rintro _ _ _ ⟨k,rfl,hk,rfl,rfl⟩ C hC
 unfold Zaq.b7
 simp -dsimp[go_sem]
 refine Za (fun p1=>?_) (fun p1=>?_)
 ·have p1:k<p.2.1.length:=by simpa using p1
  obtain ⟨b',o,e1,_,x1,z1⟩:=Go.Px.ints_at hr1 p1
  subst e1
  have wk:=Zau p1 (by omega)
  have htk:p.2.1.take (k+1)=p.2.1.take k++[p.2.1[k]]:=List.take_succ_eq_append_getElem p1
  have hown:=Zv7 g (p.2.1.take k) p.2.1[k]
  rw[←htk]at hown
  have hs:=h.bd.right p hp _ (List.getElem_mem p1)
  simp -dsimp[go_sem,p1,x1,yc]
  refine Za (fun p2=>?_) (fun p2=>?_)
  ·have p2:p.2.1[k]<(g.terms.length:Int):=by simpa using p2
   rw[if_pos p2]at hown
   obtain ⟨j,hj⟩:∃j:Nat,p.2.1[k]=(j:Int):=⟨p.2.1[k].toNat,by omega⟩
   have hj2:j<g.terms.length:=by omega
   obtain ⟨b3,o3,e3,_,_,x3,_,z3⟩:=Zdw t1' hj2
   subst e3
   rw[hj,Zhm hj2]at hown
   rw[hj]
   simp -dsimp[go_sem,yc,hj2,x3]
   unfold Zaq.b8
   simp -dsimp[go_sem,wk]
   exact hC _ _ _ ⟨k+1,by simp,by omega,by rw[hown],rfl⟩ (by simp[iv];omega)
  ·have p2:¬p.2.1[k]<(g.terms.length:Int):=by simpa using p2
   rw[if_neg p2]at hown
   unfold Zaq.b8
   simp -dsimp[go_sem,wk]
   exact hC _ _ _ ⟨k+1,by simp,by omega,by rw[hown],rfl⟩ (by simp[iv];omega)
 ·have:k=p.2.1.length:=by
   have:¬k<p.2.1.length:=by simpa using p1
   omega
  subst this
  rw[List.take_length]
  unfold Zaq.b3
  simp -dsimp[go_sem,y0]
  refine Za (fun p2=>?_) (fun p2=>?_)
  ·have p2:p.2.2=Zkj g p.2.1:=by simpa using p2
   refine hR _ _ ?_
   unfold Zid
   rw[if_pos p2,List.append_nil]
   exact s0.oneDone
  have p2:¬p.2.2=Zkj g p.2.1:=by simpa using p2
  simp -dsimp[go_sem]
  refine Za (fun p3=>?_) (fun p3=>?_)
  ·have p3:p.2.2=0:=by simpa using p3
   have hc1:Chg noB w1 (w1.alloc (.cells #[.string ⟨#[37,110,111,110,101]⟩] 9)):=(Chg.refl _ _).alloc _
   simp -dsimp[go_sem]
   refine Zgg s0 hc1 0 rfl (fun F' ho hF=>Zkn (h.of_st (s0.chg.trans' hc1 fun _ _ h=>h.elim) ho fun i hi=>⟨by have:=(hF i hi).1;have:=hc1.size;omega,(hF i hi).2⟩) (fun w' hc=>⟨_,Zod (fun i hi=>(hF i hi).1) (by simp[ByteArray.size,maxLen]) hc⟩) (by simp[Zbk,tx];omega)) ?_
   intro F3 v3 w3 hd hs3
   have s3:=hs3 _ hd
   refine hR _ _ ?_
   unfold Zid
   rw[if_neg p2,if_pos p3]
   exact s3.oneDone
  ·have p3:¬p.2.2=0:=by simpa using p3
   have hc1:Chg noB w1 (w1.alloc (.cells #[.string ⟨#[37,112,114,101,99]⟩] 9)):=(Chg.refl _ _).alloc _
   simp -dsimp[go_sem]
   refine Zgg s0 hc1 0 rfl (fun F' ho hF=>Zkn (h.of_st (s0.chg.trans' hc1 fun _ _ h=>h.elim) ho fun i hi=>⟨by have:=(hF i hi).1;have:=hc1.size;omega,(hF i hi).2⟩) (fun w' hc=>⟨_,Zod (fun i hi=>(hF i hi).1) (by simp[ByteArray.size,maxLen]) hc⟩) (by simp[Zbk,tx];omega)) ?_
   intro F3 v3 w3 hd hs3
   have s3:=hs3 _ hd
   have y3:=s3.box 1 rfl
   simp[Zp]at y3
   simp -dsimp[go_sem]
   obtain ⟨F4,o4,hF4⟩:=s3.get (k:=0) rfl
   refine Zf (Zmi (h.of_st s3.chg o4 hF4) (Zxs y3.1.2.2)) ?_
   rintro _ w5 ⟨a5,c5,rfl,hs5⟩
   have s5:=s3.seq hs5
   have hlv:=h.bd.plev p hp
   have hne:0<(Za3 g (fun k=>k == p.2.2)).length:=by
    obtain ⟨t,ht,e⟩:=h.bd.has (p.2.2.toNat-1) (by omega)
    obtain ⟨i,hi,rfl⟩:=List.mem_iff_getElem.1 ht
    have hi':i<g.terms.length-1:=by simpa using hi
    have:((i:Int)+1)∈Za3 g (fun k=>k == p.2.2):=by
     unfold Za3 Zd8
     refine List.mem_map.2 ⟨i,List.mem_filter.2 ⟨by simpa using hi',?_⟩,rfl⟩
     rw[show (i:Int)+1=((i+1:Nat):Int) by omega,Zhm (by omega)]
     have e2:g.terms[i+1].2=(g.terms.tail[i]).2:=by simp
     rw[e2,e]
     simp;omega
    exact List.length_pos_of_mem this
   obtain ⟨g6,e6,x6,_⟩:=s5.rowAt 2 rfl (j:=0) (by simpa using hne)
   subst e6
   have hhd:=ZZ47 hne
   have x6':w5.cell? ⟨g6,0,none⟩=some (.int .i64 (Za3 g (fun k=>k == p.2.2))[0]):=by simpa using x6
   have hm6:=Zi6 (List.getElem_mem hne)
   have hb1:=h.bd.t1
   simp -dsimp[go_sem,hne,x6']
   have hc5:Chg noB w5 (w5.alloc (.cells #[.int .i64 (Za3 g (fun k=>k == p.2.2))[0]] 3)):=(Chg.refl _ _).alloc _
   refine Zgg s5 hc5 0 rfl (fun F' ho hF=>Zqu (h.of_st (s5.chg.trans' hc5 fun _ _ h=>h.elim) ho fun i hi=>⟨by have:=(hF i hi).1;have:=hc5.size;omega,(hF i hi).2⟩) (fun w' hc=>⟨_,Zzc (fun i hi=>(hF i hi).1) (by unfold Zz;omega) hc⟩) (fun s hs=>by simp at hs;subst hs;exact Zlm (List.getElem_mem hne)) (by
    have:=Zdf h.bd [(Za3 g (fun k=>k == p.2.2))[0]]
    simp[Zbk,tx]at this ⊢;omega)) ?_
   intro F7 v7 w7 hd7 hs7
   have s7:=hs7 _ hd7
   refine hR _ _ ?_
   unfold Zid
   rw[if_neg p2,if_neg p3,hhd,←List.append_assoc]
   exact s7.oneDone
end
end Go.Proofs.YtckbgeedlobfaaaGreatDoor
