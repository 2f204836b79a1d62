/-
  Texts of this claim: Mk5, Mk6, Mk7, Rn4, Mk8, Mk9, Pl4, Pl5, Pl6, Pl7, Gq1, SameInts.
-/
import Derived.Test.YtckbgeedlobfaaaGreatDoorY17
import Derived.Test.YtckbgeedlobfaaaGreatDoorY09
import Derived.Test.YtckbgeedlobfaaaGreatDoorY16
import Derived.Test.YtckbgeedlobfaaaGreatDoorY12
import Derived.Test.YtckbgeedlobfaaaGreatDoorY11
import Derived.Test.YtckbgeedlobfaaaGreatDoorY06
import Derived.Test.YtckbgeedlobfaaaGreatDoorY08
set_option maxHeartbeats 1000000
set_option linter.unusedSimpArgs false
set_option linter.unusedVariables false
set_option maxRecDepth 100000
namespace Go.Proofs.YtckbgeedlobfaaaGreatDoor
open Go.Px Go.Px.Scan Go.Px.Spec Go.RowKit
attribute [-go_sem] Builtin.append_ Zb.b4 Zb.b4_1 Zb.b4_2 Zb.b10 Zb.b16 Zb.b12 Zb.b12_1 Zb.b5 Zb.b20
section
variable {G:Nat→Prop} {W w:World} {R:EP} {C7:VP} {bm bb b p n q:Nat} {S:BS} {lv:Int→Int} {A Al:Option Addr} {c cl:Nat} {ws:List Wd} {e:Int} {i:Nat} {hs:List (Nat×List ByteArray)} {st:ByteArray} {ls:List ByteArray} {rs:List RowS} {D:RD} {l:List Int} {x84:Value} {bx:Ch}
theorem ZZ24 {T:Except Int BS}(mb:MB hs rs st)(hT:T=Zlr st S)
  (s:St G W w (mkL bm bb b S (.map (some p)) n lv A c ws e i hs st ls rs D))
  (hK:∀S' w',T = .ok S'→St G W w' (mkL bm bb b S' (.map (some p)) n lv A c ws e i hs st ls rs D)→R (.returned (.tuple #[])) w')
  (hX:∀e,T = .error e→∀w',Chg G W w'→R (.panicked (errP e)) w') :
  Zb.b4 R (.pointer (some ⟨bm,0,none⟩)) w:=by
 have ym:=(s.box 0 rfl).1
 have yr:=(s.box 3 rfl).1
 simp[Zp,Zea]at ym yr
 unfold Zb.b4
 simp -dsimp[go_sem,ym,yr]
 refine Za (fun h1=>?_) (fun h1=>?_)<;>simp at h1
 ·have hne:st≠noT:=fun e=>h1 (Zhs.2 e)
  have hp:T=(do let h ←en (nonA S st);pure (if isN h.2 h.1 then {h.2 with start:=h.1 } else h.2)):=by rw[hT];unfold Zlr;rw[if_neg hne]
  obtain ⟨ok,_⟩:=Zn6 s 1 rfl
  have hr:=Zk6 ok st
  unfold Zb.b4_2
  simp -dsimp[go_sem,ym,yr]
  refine Zqs (s.old (Chg.refl noB w).drew) 1 rfl mb.sx fun w2 s2=>?_
  have ym2:=(s2.box 0 rfl).1.1
  unfold Zb.b4_1
  simp -dsimp[go_sem,ym2]
  refine Zdm (fun h2=>?_) (fun h2=>hX _ (by rw[hp,Zwm h2];rfl) _ s2.chg)
  rw[Zpc h2]at hp
  simp -dsimp[go_sem,ym2]
  refine Zw5 s2 1 rfl (by unfold Zz;omega) fun w3 s3=>?_
  exact hK _ _ hp s3
 ·have hne:st=noT:=Zhs.1 h1
  exact hK S _ (by rw[hT];unfold Zlr;rw[if_pos hne];rfl) s
theorem ZZ129 {T:Except Int BS}(mb:MB hs rs st)(hT:T=rs.foldlM (rowF ls lv) S >>= Zlr st)(hlv:∀t,0≤lv t∧lv t≤65)
  (s:St G W w (mkL bm bb b S (.map (some p)) n lv A c ws e i hs st ls rs D))
  (hK:∀S' w',T = .ok S'→St G W w' (mkL bm bb b S' (.map (some p)) n lv A c ws e i hs st ls rs D)→R (.returned (.tuple #[])) w')
  (hX:∀e,T = .error e→∀w',Chg G W w'→R (.panicked (errP e)) w') :
  Zb.b5 R (.pointer (some ⟨bm,0,none⟩)) (.map (some p)) w:=by
 have hrl:=mb.rl
 have ym:=(s.box 0 rfl).1
 have yr:=(s.box 3 rfl).1
 simp[Zp,Zea]at ym yr
 unfold Zb.b5
 simp -dsimp[go_sem,ym,yr]
 refine Zb.l7_intro _ _ _ _ _ _ _ (fun y w'=>∃(k:Nat) (S':BS),y = .int .i64 k∧k≤rs.length∧T=(rs.drop k).foldlM (rowF ls lv) S' >>= Zlr st ∧
   St G W w' (mkL bm bb b S' (.map (some p)) n lv A c ws e i hs st ls rs D)) (fun y _=>rs.length-iv y)
   ⟨0,S,rfl,by omega,hT,s⟩ ?_
 rintro _ w1 ⟨k,S',rfl,hk,hg,s1⟩ C7 hC
 unfold Zb.b8
 simp -dsimp[go_sem]
 refine Za (fun h1=>?_) (fun h1=>?_)<;>simp at h1
 ·obtain ⟨g,a,ca,hah,hv,c0,c1,c2,c3⟩:=rw_at s1 9 rfl 10 rfl h1
  rw[List.drop_eq_getElem_cons h1,List.foldlM_cons]at hg
  have wk:IntKind.i64.wrap ((k:Int)+1)=(k:Int)+1:=IntWalk.i64_in _ (by omega)
  have s2:=s1.alloc #[.string rs[k].left,.slice a rs[k].words.length ca,.string rs[k].by_,.bool (decide (rs[k].said=2))] 124
  have ym2:=(s2.box 0 rfl).1.1
  have yq2:=(s2.box 11 rfl).1.1
  rw[hah]
  unfold Zb.b12
  simp -dsimp[go_sem,h1,Nat.not_le.2 h1,c0,c1,c2,c3]
  generalize w1.alloc (.cells #[.string rs[k].left,.slice a rs[k].words.length ca,.string rs[k].by_,.bool (decide (rs[k].said=2))] 124)=w2 at s2 ym2 yq2 ⊢
  generalize w1.heap.size=q9 at s2 yq2 ⊢
  simp -dsimp[go_sem,ym2,yq2]
  obtain ⟨ok,_⟩:=Zn6 s2 1 rfl
  have hr:=Zk6 ok rs[k].left
  refine Zqs (s2.old (Chg.refl noB w2).drew) 1 rfl (mb.left _ (List.getElem_mem h1)) fun w3 s3=>?_
  unfold Zb.b12_1
  simp -dsimp[go_sem]
  refine Zdm (fun h2=>?_) (fun h2=>hX _ (by rw[hg,rowF,Zwm h2];rfl) _ s3.chg)
  refine Zy3 (S:=(nonA S' rs[k].left).2.2) (T:=rowF ls lv S' rs[k]) h1 mb hlv hv (by unfold Zz;omega) s3 (by rw[rowF,Zpc h2];rfl) (fun S2 w4 he s4=>?_) (fun e' he w4 hc=>hX e' (by rw[hg,he];rfl) w4 hc)
  unfold Zb.b10
  simp -dsimp[go_sem,wk]
  exact hC _ _ ⟨k+1,S2,by simp,h1,by rw[hg,he];rfl,s4⟩ (by simp[iv];omega)
 ·have hka:k=rs.length:=by omega
  rw[hka,List.drop_length]at hg
  exact ZZ24 mb hg s1 hK hX
theorem ZZ297 (mb:MB hs rs st)(hD:Rb ws i hs ls rs D)
  (s:St G W w ([boxC bm 83 [.pointer (some ⟨bb,0,none⟩),.pointer (some ⟨b,0,none⟩)],bldC bb S0]++rdL b A c ws e i hs st ls rs D)) :
  CtE Tryz.prog Zb.id #[.pointer (some ⟨bm,0,none⟩)] w (MEnd G W (allM hs ls rs st) (fun _=> .tuple #[]) fun S' w'=>St G W w' [boxC bm 83 [.pointer (some ⟨bb,0,none⟩),.pointer (some ⟨b,0,none⟩)],bldC bb S']):=by
 refine CtE.intro Zb.enters fun R hR=>Zb.calls R _ w ?_
 unfold Zb.run
 have s1:=(s.map Tryz.prog kInt 3 3).pick [0,1,10,2,3,4,5,6,7,8,9] (L':=mkL bm bb b S0 (.map (some w.heap.size)) 0 (fun _=>0) A c ws e i hs st ls rs D) (by decide) rfl
 simp -dsimp[go_sem,mkInt]
 generalize w.alloc (.map #[] 0)=w1 at s1 ⊢
 generalize w.heap.size=p at s1 ⊢
 refine Zx0 mb (T:=allM hs ls rs st) (rest:=fun a=>rs.foldlM (rowF ls a.1) a.2 >>= Zlr st) rfl (fun _=>rfl) rfl s1 (fun lv' S' w' n' hg hlv s2=>?_) (fun e' he w' hc=>hR _ _ (.inr ⟨e',he,rfl,hc⟩))
 exact ZZ129 mb hg hlv s2 (fun S2 w3 he s3=>hR _ _ (.inl ⟨S2,he,rfl,s3.take 2⟩)) (fun e' he w' hc=>hR _ _ (.inr ⟨e',he,rfl,hc⟩))
end
end Go.Proofs.YtckbgeedlobfaaaGreatDoor
namespace Go.Proofs.YtckbgeedlobfaaaGreatDoor
open Go.Px Go.Px.Scan Go.Px.Spec Go.RowKit
attribute [-go_sem] Builtin.append_
def gz:Gr:=⟨[],[],[],0,[]⟩
noncomputable def Zhj (s:ByteArray):Gr×Int×Int :=
 if 0≤badS s then (gz,10,badS s)
 else match allM (goM m0 (Zah s).1).1.heads (goM m0 (Zah s).1).1.lefts (goM m0 (Zah s).1).1.rows (goM m0 (Zah s).1).1.start with
  | .error e=>(gz,e,0)
  | .ok S=>if Zl5 S=true then (Zdr S,0,0) else (gz,1,0)
theorem Znw {s:ByteArray}(h:0≤badS s):Zhj s=(gz,10,badS s):=if_pos h
theorem Zr2 {s:ByteArray}{m:Mc}{x:Int}(h:¬0≤badS s)(hg:goM m0 (Zah s).1=(m,[]))(hm:allM m.heads m.lefts m.rows m.start = .error x):Zhj s=(gz,x,0):=by
 unfold Zhj;rw[if_neg h,hg];simp only[hm]
theorem Zvo {s:ByteArray}{m:Mc}{S:BS}(h:¬0≤badS s)(hg:goM m0 (Zah s).1=(m,[]))(hm:allM m.heads m.lefts m.rows m.start = .ok S):Zhj s=if Zl5 S=true then (Zdr S,0,0) else (gz,1,0):=by
 unfold Zhj;rw[if_neg h,hg];simp only[hm]
def Zzn (s:ByteArray)(w:World)(v:Value)(w':World):Prop :=
 ∃vg,v = .tuple #[vg,Zjw (Zhj s).2.1 (Zhj s).2.2]∧Zoy w w' vg (Zhj s).1
section
variable {w w1:World} {R:EP} {q2 q3:Nat}
def zM:List Value:=[.int .i64 0,.int .i64 0,.slice none 0 0]
theorem ZZ228 {s:ByteArray}(hR:∀w' q2 q3,St noB w w' [boxC q2 27 zG,boxC q3 36 zM]→R (.returned (.tuple #[.string s,.pointer (some ⟨q2,0,none⟩),.pointer (some ⟨q3,0,none⟩)])) w'):RqA.b1 R (.string s) w:=by
 unfold RqA.b1
 have s1:=(St.refl noB w).alloc zG.toArray 27
 have s2:=s1.alloc zM.toArray 36
 simp -dsimp[go_sem]
 simp[zG,zM]at s2
 exact hR _ _ _ s2
theorem bM2 (c a:Int)(w:World):(Instr.build 36 #[(0,.int .i64 c),(1,.int .i64 a)]).run Tryz.prog w = .ok (Zjw c a) w:=by simp[go_sem,Zjw]
theorem bM1 (c:Int)(w:World):(Instr.build 36 #[(0,.int .i64 c)]).run Tryz.prog w = .ok (Zjw c 0) w:=by simp[go_sem,Zjw]
theorem bG0 (w:World):(Instr.build 27 #[]).run Tryz.prog w = .ok (.agg zG.toArray) w:=by simp[go_sem,zG]
attribute [go_sem ↓] bM2 bM1 bG0
theorem Zps {G:Nat→Prop}{W:World}{L:List Ch}{k:Nat}{g:List Value}{A1 A2 A3 A4:Option Addr}{n1 n2 n3 n4 c1 c2 c3 c4:Nat}{x:Int}(s:St G W w1 L)(hk:L[k]?=some (boxC q2 27 g))(hg:g.length=5) :
  ∃w2,(Instr.storeAt 27 (.pointer (some ⟨q2,0,none⟩)) (.agg #[.slice A1 n1 c1,.slice A2 n2 c2,.slice A3 n3 c3,.int .i64 x,.slice A4 n4 c4])).run Tryz.prog w1 = .ok () w2 ∧
   St G W w2 (L.set k (boxC q2 27 [.slice A1 n1 c1,.slice A2 n2 c2,.slice A3 n3 c3,.int .i64 x,.slice A4 n4 c4])):=by
 obtain ⟨y,yf,yb⟩:=s.box k hk
 match g,hg with
 | [g0,g1,g2,g3,g4],_=>
 simp[Zp]at y
 have f0:=yf 0
 have f1:=yf 1
 have f2:=yf 2
 have f3:=yf 3
 have f4:=yf 4
 have hl:=(List.getElem?_eq_some_iff.1 hk).1
 have e:=fun (c:Ch)=>List.getElem?_set_self (a:=c) hl
 have s1:=s.set k hk 0 (.slice A1 n1 c1)
 have s2:=s1.set k (e _) 1 (.slice A2 n2 c2)
 have s3:=s2.set k (by rw[List.set_set];exact e _) 2 (.slice A3 n3 c3)
 have s4:=s3.set k (by simp only[List.set_set];exact e _) 3 (.int .i64 x)
 have s5:=s4.set k (by simp only[List.set_set];exact e _) 4 (.slice A4 n4 c4)
 simp only[List.set_set]at s5
 refine ⟨_,?_,s5⟩
 simp -dsimp[go_sem,y,f0,f1,f2,f3,f4,World.cell?_setCell_other]
theorem Zpl {G:Nat→Prop}{W:World}{L:List Ch}{k:Nat}{g:List Value}{c a:Int}(s:St G W w1 L)(hk:L[k]?=some (boxC q3 36 g))(hg:g.length=3) :
  ∃w2,(Instr.storeAt 36 (.pointer (some ⟨q3,0,none⟩)) (Zjw c a)).run Tryz.prog w1 = .ok () w2∧St G W w2 (L.set k (boxC q3 36 [.int .i64 c,.int .i64 a,.slice none 0 0])):=by
 obtain ⟨y,yf,yb⟩:=s.box k hk
 match g,hg with
 | [g0,g1,g2],_=>
 simp[Zp]at y
 have f0:=yf 0
 have f1:=yf 1
 have f2:=yf 2
 have hl:=(List.getElem?_eq_some_iff.1 hk).1
 have e:=fun (c:Ch)=>List.getElem?_set_self (a:=c) hl
 have s1:=s.set k hk 0 (.int .i64 c)
 have s2:=s1.set k (e _) 1 (.int .i64 a)
 have s3:=s2.set k (by rw[List.set_set];exact e _) 2 (.slice none 0 0)
 simp only[List.set_set]at s3
 refine ⟨_,?_,s3⟩
 simp -dsimp[go_sem,Zjw,y,f0,f1,f2,World.cell?_setCell_other]
theorem loadG {G:Nat→Prop}{W:World}{L:List Ch}{k:Nat}{g0 g1 g2 g3 g4:Value}(s:St G W w1 L)(hk:L[k]?=some (boxC q2 27 [g0,g1,g2,g3,g4])) :
  (Instr.loadAt 27 (.pointer (some ⟨q2,0,none⟩))).run Tryz.prog w1 = .ok (.agg #[g0,g1,g2,g3,g4]) w1:=by
 obtain ⟨y,yf,yb⟩:=s.box k hk
 simp[Zp]at y
 simp -dsimp[go_sem,y]
theorem ZZ103 {G:Nat→Prop}{W:World}{L:List Ch}{k2 k3:Nat}{g0 g1 g2 g3 g4 m0 m1 m2:Value}{tm:Array Value}(h2:tm.getD 2 undef = .pointer (some ⟨q2,0,none⟩))(h3:tm.getD 3 undef = .pointer (some ⟨q3,0,none⟩))(s:St G W w1 L)(hk2:L[k2]?=some (boxC q2 27 [g0,g1,g2,g3,g4]))(hk3:L[k3]?=some (boxC q3 36 [m0,m1,m2])) :
  (results Tryz.f9 tm).run Tryz.prog w1 = .ok (.tuple #[.agg #[g0,g1,g2,g3,g4],.agg #[m0,m1,m2]]) w1:=by
 obtain ⟨y,yf,yb⟩:=s.box k2 hk2
 obtain ⟨z,zf,zb⟩:=s.box k3 hk3
 simp[Zp]at y z
 have hr:Tryz.f9.results=#[.cell 2 27,.cell 3 36]:=rfl
 rw[Array.getD_eq_getD_getElem?]at h2 h3
 simp[results,hr,go_sem,asAddr,h2,h3,y,z]
end
end Go.Proofs.YtckbgeedlobfaaaGreatDoor
namespace Go.Proofs.YtckbgeedlobfaaaGreatDoor
open Go.Px Go.Px.Scan Go.Px.Spec Go.RowKit
attribute [-go_sem] Builtin.append_
section
variable {w w1:World} {R:EP} {q2 q3:Nat}
def FinR (w w1:World)(q2 q3:Nat)(g:Gr)(code at':Int):Prop :=
 ∃A1 c1 A2 c2 A3 c3 A4 c4 vs,St noB w w1 [rowC 64 2 A1 g.terms.length c1 (g.terms.flatMap Zor),rowC 9 1 A2 g.nons.length c2 (g.nons.map Value.string),rowC 3 1 A3 g.levels.length c3 (g.levels.map (.int .i64 ·)),
   rowC 50 3 A4 g.prods.length c4 ((g.prods.zip vs).flatMap Zgm),Zeg 3 1 vs (g.prods.map fun p=>p.2.1.map (.int .i64 ·)),
   boxC q2 27 [.slice A1 g.terms.length c1,.slice A2 g.nons.length c2,.slice A3 g.levels.length c3,.int .i64 g.start,.slice A4 g.prods.length c4],boxC q3 36 [.int .i64 code,.int .i64 at',.slice none 0 0]] ∧
  (∀t∈g.terms,t.1.size≤maxLen∧Zz t.2)∧(∀s∈g.nons,s.size≤maxLen)∧(∀x∈g.levels,Zz x)∧Zz g.start∧∀p∈g.prods,Zz p.1∧(∀x∈p.2.1,Zz x)∧Zz p.2.2
theorem FinR.ans {g:Gr}{code at':Int}(h:FinR w w1 q2 q3 g code at'){tm:Array Value}(h2:tm.getD 2 undef = .pointer (some ⟨q2,0,none⟩))(h3:tm.getD 3 undef = .pointer (some ⟨q3,0,none⟩)) :
  ∃vg,(results Tryz.f9 tm).run Tryz.prog w1 = .ok (.tuple #[vg,Zjw code at']) w1∧Zoy w w1 vg g:=by
 obtain ⟨A1,c1,A2,c2,A3,c3,A4,c4,vs,s,hb⟩:=h
 exact ⟨_,ZZ103 h2 h3 s (k2:=5) (k3:=6) rfl rfl,A1,c1,A2,c2,A3,c3,A4,c4,vs,rfl,s.take 5,hb⟩
theorem FinR.zero {c a:Int}(s:St noB w w1 [boxC q2 27 zG,boxC q3 36 [.int .i64 c,.int .i64 a,.slice none 0 0]]):FinR w w1 q2 q3 gz c a:=by
 refine ⟨none,0,none,0,none,0,none,0,[],?_,by simp[gz],by simp[gz],by simp[gz],by simp[gz,Zz],by simp[gz]⟩
 exact (((((s.nilRow 64 2).nilRow 9 1).nilRow 3 1).nilRow 50 3).push (c:=Zeg 3 1 [] []) ⟨rfl,fun i v xs hv=>by simp at hv⟩).pick [2,3,4,5,6,0,1] (by decide) rfl
theorem ZZ194 {a:Int}{v4:Value}(s:St noB w w1 [boxC q2 27 zG,boxC q3 36 zM])
  (hB:0≤a→∀w',FinR w w' q2 q3 gz 10 a→R (.returned (.agg #[.pointer (some ⟨q2,0,none⟩),.pointer (some ⟨q3,0,none⟩)])) w')
  (hK:¬0≤a→R (.returned (.tuple #[.pointer (some ⟨q2,0,none⟩),.pointer (some ⟨q3,0,none⟩),v4,.int .i64 a])) w1) :
  RqC.b1 R (.pointer (some ⟨q2,0,none⟩)) (.pointer (some ⟨q3,0,none⟩)) v4 (.int .i64 a) w1:=by
 unfold RqC.b1
 simp -dsimp[go_sem]
 refine Za (fun h=>?_) (fun h=>?_)<;>simp at h
 ·obtain ⟨w2,r2,s2⟩:=Zps (A1:=none) (A2:=none) (A3:=none) (A4:=none) (n1:=0) (n2:=0) (n3:=0) (n4:=0) (c1:=0) (c2:=0) (c3:=0) (c4:=0) (x:=0) s (k:=0) rfl rfl
  obtain ⟨w3,r3,s3⟩:=Zpl (c:=10) (a:=a) s2 (k:=1) rfl rfl
  have r2':(Instr.storeAt 27 (.pointer (some ⟨q2,0,none⟩)) (.agg zG.toArray)).run Tryz.prog w1 = .ok () w2:=r2
  unfold RqC.b1_1
  rw[Zd0,bG0,Zb9,Zd0,bM2,Zb9,Zf2,r2',Zfo,Zf2,r3,Zfo]
  exact hB h _ (FinR.zero s3)
 ·exact hK (by omega)
theorem bMk (x y:Addr)(w:World):(Instr.build 83 #[(0,.pointer (some x)),(1,.pointer (some y))]).run Tryz.prog w = .ok (.agg #[.pointer (some x),.pointer (some y)]) w:=by simp[go_sem]
attribute [go_sem ↓] bMk
theorem ZZ244 {G:Nat→Prop}{W:World}{L:List Ch}{b:Nat}{v2 v3:Value}(s:St G W w1 L)
  (hK:∀w' bb bm,St G W w' (L++[bldC bb S0]++[boxC bm 83 [.pointer (some ⟨bb,0,none⟩),.pointer (some ⟨b,0,none⟩)]])→R (.returned (.tuple #[v2,v3,.pointer (some ⟨bm,0,none⟩)])) w') :
  RqD.b1 R v2 v3 (.pointer (some ⟨b,0,none⟩)) w1:=by
 unfold RqD.b1
 refine ZZ122 s fun w2 bb s2=>?_
 have s3:=s2.alloc #[.pointer (some ⟨bb,0,none⟩),.pointer (some ⟨b,0,none⟩)] 83
 unfold RqD.b1_1
 simp -dsimp[go_sem]
 exact hK _ _ _ s3
theorem xt0 (x y:Value)(w:World):(Instr.extract (.tuple #[x,y]) 0).run Tryz.prog w = .ok x w:=by simp[go_sem]
theorem xt1 (x y:Value)(w:World):(Instr.extract (.tuple #[x,y]) 1).run Tryz.prog w = .ok y w:=by simp[go_sem]
theorem ZZ257 {S:BS}{bm bb b:Nat}(s:St noB w w1 [boxC q2 27 zG,boxC q3 36 zM,boxC bm 83 [.pointer (some ⟨bb,0,none⟩),.pointer (some ⟨b,0,none⟩)],bldC bb S])
  (hK:∀w',FinR w w' q2 q3 (if Zl5 S=true then Zdr S else gz) (if Zl5 S=true then 0 else 1) 0→R (.returned (.agg #[.pointer (some ⟨q2,0,none⟩),.pointer (some ⟨q3,0,none⟩)])) w') :
  RqE.b1 R (.pointer (some ⟨q2,0,none⟩)) (.pointer (some ⟨q3,0,none⟩)) (.pointer (some ⟨bm,0,none⟩)) w1:=by
 have ym:=(s.box 2 rfl).1
 simp[Zp]at ym
 unfold RqE.b1
 simp -dsimp[go_sem,ym]
 refine Zrz s 3 rfl fun v w2 ok wf s2 hA=>?_
  -- a grammar, and the code
 have key:∀(g:Gr) (e:Int) A1 c1 A2 c2 A3 c3 A4 c4 (L:List Ch),St noB w w2 ([boxC q2 27 zG,boxC q3 36 zM]++L)→v = .tuple #[.agg #[.slice A1 g.terms.length c1,.slice A2 g.nons.length c2,.slice A3 g.levels.length c3,.int .i64 g.start,.slice A4 g.prods.length c4],.int .i64 e] →
   (∀w',St noB w w' ([boxC q2 27 [.slice A1 g.terms.length c1,.slice A2 g.nons.length c2,.slice A3 g.levels.length c3,.int .i64 g.start,.slice A4 g.prods.length c4],boxC q3 36 [.int .i64 e,.int .i64 0,.slice none 0 0]]++L)→FinR w w' q2 q3 g e 0) →
   g=(if Zl5 S=true then Zdr S else gz)→e=(if Zl5 S=true then 0 else 1)→RqE.b1_1 R (.pointer (some ⟨q2,0,none⟩)) (.pointer (some ⟨q3,0,none⟩)) v w2:=by
  rintro g e A1 c1 A2 c2 A3 c3 A4 c4 L s3 rfl hF hg he
  obtain ⟨w3,r3,s4⟩:=Zps (A1:=A1) (A2:=A2) (A3:=A3) (A4:=A4) (n1:=g.terms.length) (n2:=g.nons.length) (n3:=g.levels.length) (n4:=g.prods.length) (c1:=c1) (c2:=c2) (c3:=c3) (c4:=c4) (x:=g.start) s3 (k:=0) rfl rfl
  have l3:=loadG s4 (k:=0) rfl
  obtain ⟨w4,r4,s5⟩:=Zps (A1:=A1) (A2:=A2) (A3:=A3) (A4:=A4) (n1:=g.terms.length) (n2:=g.nons.length) (n3:=g.levels.length) (n4:=g.prods.length) (c1:=c1) (c2:=c2) (c3:=c3) (c4:=c4) (x:=g.start) s4 (k:=0) rfl rfl
  obtain ⟨w5,r5,s6⟩:=Zpl (c:=e) (a:=0) s5 (k:=1) rfl rfl
  unfold RqE.b1_1
  rw[Zd0,xt0,Zb9,Zd0,xt1,Zb9,Zf2,r3,Zfo,Zd0,l3,Zb9,Zd0,bM1,Zb9,Zf2,r4,Zfo,Zf2,r5,Zfo]
  have:=hF w5 s6
  rw[hg,he]at this
  exact hK w5 this
 cases ht:Zl5 S with
 | true=>
  obtain ⟨vg,hv,A1,c1,A2,c2,A3,c3,A4,c4,vs,rfl,s3,hb⟩:=hA.2.1 ht
  refine key (Zdr S) 0 A1 c1 A2 c2 A3 c3 A4 c4 [rowC 64 2 A1 (Zdr S).terms.length c1 ((Zdr S).terms.flatMap Zor),rowC 9 1 A2 (Zdr S).nons.length c2 ((Zdr S).nons.map Value.string),rowC 3 1 A3 (Zdr S).levels.length c3 ((Zdr S).levels.map (.int .i64 ·)),
   rowC 50 3 A4 (Zdr S).prods.length c4 (((Zdr S).prods.zip vs).flatMap Zgm),Zeg 3 1 vs ((Zdr S).prods.map fun p=>p.2.1.map (.int .i64 ·))] ((s.seq s3).pick [0,1,4,5,6,7,8] (by decide) rfl) hv (fun w' s'=>?_) (by rw[ht];rfl) (by rw[ht];rfl)
  exact ⟨A1,c1,A2,c2,A3,c3,A4,c4,vs,s'.pick [2,3,4,5,6,0,1] (by decide) rfl,hb⟩
 | false=>
  have hv:=hA.2.2 ht
  refine key gz 1 none 0 none 0 none 0 none 0 [] (s2.take 2) hv (fun w' s'=>FinR.zero s') (by rw[ht];rfl) (by rw[ht];rfl)
end
end Go.Proofs.YtckbgeedlobfaaaGreatDoor
namespace Go.Px.Spec
open Go.Px Go.Px.Scan
def refG (s:ByteArray):Gr×Int×Int :=
 if 0≤badS s then (⟨[],[],[],0,[]⟩,10,badS s)
 else
  let x:=numX (rxOf (goM m0 (Zah s).1).1)
  if x.ts.length-1+x.ls.length > 64∨x.rows.length > 96 then (⟨[],[],[],0,[]⟩,11,0) else (gOf x,0,0)
end Go.Px.Spec
namespace Go.Proofs.YtckbgeedlobfaaaGreatDoor
open Go.Px Go.Px.Scan Go.Px.Spec Go.RowKit
attribute [-go_sem] Builtin.append_
section
variable {G:Nat→Prop} {W w w1:World} {R:EP} {tb q2 q3:Nat} {x:Rx} {D:TD} {L:List Ch} {us:List Value}
theorem bGr4 (A1 A2 A3:Option Addr)(n1 n2 n3 c1 c2 c3:Nat)(st:Int)(w:World):(Instr.build 27 #[(0,.slice A1 n1 c1),(1,.slice A2 n2 c2),(2,.slice A3 n3 c3),(3,.int .i64 st)]).run Tryz.prog w = .ok (.agg #[.slice A1 n1 c1,.slice A2 n2 c2,.slice A3 n3 c3,.int .i64 st,.slice none 0 0]) w:=by simp[go_sem]
attribute [go_sem ↓] bGr4
def RfAns (s:ByteArray)(w:World)(v:Value)(w':World):Prop :=
 ∃vg,v = .tuple #[vg,Zjw (refG s).2.1 (refG s).2.2]∧Zoy w w' vg (refG s).1
theorem bM0 (w:World):(Instr.build 36 #[]).run Tryz.prog w = .ok (Zjw 0 0) w:=by simp[go_sem,Zjw]
attribute [go_sem ↓] bM0
end
end Go.Proofs.YtckbgeedlobfaaaGreatDoor
namespace Go.Proofs.YtckbgeedlobfaaaGreatDoor
open Go.Px Go.Px.Scan Go.Px.Spec Go.RowKit
attribute [-go_sem] Builtin.append_ Rec2.b2
theorem tyErr (a:Int)(w:World):(Instr.typeAssert (.iface 28 (.int .i64 a)) 20 28 true).run Tryz.prog w = .ok (.tuple #[.int .i64 a,.bool true]) w:=by
 simp[go_sem,Instr.typeAssert]
section
variable {w w1:World} {R:EP} {q2 q3:Nat}
theorem ZZ118 {x0 x1:Value}(h:R (.returned (.agg #[x0])) w):Rec2.b1 R x0 x1 .nilIface w:=by
 unfold Rec2.b1
 simp -dsimp[go_sem]
 exact h
theorem ZZ153 {e:Int}(s:St noB w w1 [boxC q2 27 zG,boxC q3 36 zM])
  (h:∀w',St noB w w' [boxC q2 27 zG,boxC q3 36 [.int .i64 e,.int .i64 0,.slice none 0 0]]→R (.returned (.tuple #[.pointer (some ⟨q2,0,none⟩)])) w'):Rec2.b1 R (.pointer (some ⟨q2,0,none⟩)) (.pointer (some ⟨q3,0,none⟩)) (.iface 28 (.int .i64 e)) w1:=by
 obtain ⟨w2,r2,s2⟩:=Zps (A1:=none) (A2:=none) (A3:=none) (A4:=none) (n1:=0) (n2:=0) (n3:=0) (n4:=0) (c1:=0) (c2:=0) (c3:=0) (c4:=0) (x:=0) s (k:=0) rfl rfl
 obtain ⟨w3,r3,s3⟩:=Zpl (c:=e) (a:=0) s2 (k:=1) rfl rfl
 have r2':(Instr.storeAt 27 (.pointer (some ⟨q2,0,none⟩)) (.agg zG.toArray)).run Tryz.prog w1 = .ok () w2:=r2
 unfold Rec2.b1
 simp -dsimp[go_sem,tyErr]
 unfold Rec2.b2
 rw[Zd0,bG0,Zb9,Zd0,bM1,Zb9,Zf2,r2',Zfo,Zf2,r3,Zfo]
 exact h _ s3
theorem ZZ161 {c₀:Frame}{cs:List Frame}{a:Int}(h:c₀.mode = .panicking (errP a)):recoverD (c₀::cs)=some (.iface 28 (.int .i64 a),{c₀ with mode := .panicking [{v := .iface 28 (.int .i64 a),recovered:=true }] }::cs):=by
 simp[recoverD,h,errP]
theorem ZZ52 {tm:Array Value}{x0 x1 x2:Value}(hsz:tm.size=Tryz.f27.ntmps)(h0:tm.getD 0 undef=x0)(h1:tm.getD 1 undef=x1)(h2:tm.getD 2 undef=x2)(h:Rec2.b1 R x0 x1 x2 w) :
  Rec2.code.wp Tryz.prog (post (pan R) Tryz.f27.ntmps (Rec2.q1 R) []) {tmps:=tm,defers:=[] } w :=
 Rec2.part_wp (ρ:=fun n=>tm.getD n undef) ⟨hsz,fun _=>rfl,rfl⟩ (by
  show Rec2.b1 R (tm.getD 0 undef) (tm.getD 1 undef) (tm.getD 2 undef) w
  rw[h0,h1,h2];exact h)
theorem Ztn {n:Nat}{u:FrameMode}{R:Ending→FrameMode→World→Prop}{e:Int}
  (hu:u = .returning∧R (.returned (.tuple #[])) .returning w1 ∨
   u = .panicking (errP e)∧St noB w w1 [boxC q2 27 zG,boxC q3 36 zM]∧∀w',St noB w w' [boxC q2 27 zG,boxC q3 36 [.int .i64 e,.int .i64 0,.slice none 0 0]]→R (.returned (.tuple #[])) (.panicking [{v := .iface 28 (.int .i64 e),recovered:=true }]) w') :
  CallsDIn Fence.wide n Tryz.prog Ztz.id #[.pointer (some ⟨q2,0,none⟩),.pointer (some ⟨q3,0,none⟩)] u w1 R:=by
 refine callsDIn_of_wpSIn Tryz.func27 rfl trivial fun c₀ cs hc=>?_
 refine wpSIn_seq (wpSIn_region ?_)
 simp[wpOpsSIn,Region.wanted,execOp,go_sem]
 rcases hu with ⟨rfl,hR⟩|⟨rfl,s,hR⟩
 ·rw[ZZ23 hc]
  show Code.wpSIn Fence.wide n Tryz.prog Rec2.code _ _ _ _
  refine wpSIn_of_wpIn rfl (wpIn_wide.2 (wp_mono (ZZ52 (R:=fun e w'=>e = .returned (.agg #[.pointer (some ⟨q2,0,none⟩)])∧w'=w1) (by simp) (by simp[Array.getD]) (by simp[Array.getD]) (by simp[Array.getD]) (ZZ118 (x1 := .pointer (some ⟨q3,0,none⟩)) ⟨rfl,rfl⟩)) ?_))
  rintro e a' w' h
  cases e with
  | normal=>obtain ⟨ρ,_,h,_⟩:=h;cases h
  | ret=>
   obtain ⟨ρ,hr,h,rfl⟩:=h
   exact ⟨hr.defers,.returning,by rw[←hc],.tuple #[],by rw[results_none rfl],hR⟩
  | panic ch=>obtain ⟨_,h,_⟩:=h;cases h
  | exit k=>obtain ⟨_,_,h⟩:=h;exact h.elim
  | goto k=>obtain ⟨_,_,h⟩:=h;exact h.elim
  | outgrown=>obtain ⟨_,_,h⟩:=h;exact h.elim
 ·rw[ZZ161 hc]
  show Code.wpSIn Fence.wide n Tryz.prog Rec2.code _ _ _ _
  refine wpSIn_of_wpIn rfl (wpIn_wide.2 (wp_mono (ZZ52 (R:=fun e' w'=>e' = .returned (.tuple #[.pointer (some ⟨q2,0,none⟩)])∧St noB w w' [boxC q2 27 zG,boxC q3 36 [.int .i64 e,.int .i64 0,.slice none 0 0]]) (by simp) (by simp[Array.getD]) (by simp[Array.getD]) (by simp[Array.getD]) (ZZ153 s fun w' s'=>⟨rfl,s'⟩)) ?_))
  rintro e a' w' h
  cases e with
  | normal=>
   obtain ⟨ρ,hr,h,s'⟩:=h
   exact ⟨hr.defers,_,rfl,.tuple #[],by rw[results_none rfl],hR _ s'⟩
  | ret=>obtain ⟨ρ,_,h,_⟩:=h;cases h
  | panic ch=>obtain ⟨_,h,_⟩:=h;cases h
  | exit k=>obtain ⟨_,_,h⟩:=h;exact h.elim
  | goto k=>obtain ⟨_,_,h⟩:=h;exact h.elim
  | outgrown=>obtain ⟨_,_,h⟩:=h;exact h.elim
end
noncomputable def rq4:Code:=fstC (sndC (sndC (sndC (Zm Tryz.f9))))
theorem ZZ368:rq4 = .region 4 (opsC rq4) false:=by kernel_rfl
theorem ZZ333:(opsC rq4).size=2:=by kernel_rfl
theorem rq4_0:((opsC rq4)[0]?).map (fun o=>(o.dst,o.op,o.guard))=some (some 18,.makeFunc (.func 27) #[] #[.tmp 2,.tmp 3],none):=by kernel_rfl
theorem rq4_1:((opsC rq4)[1]?).map (fun o=>(o.dst,o.op,o.guard))=some (none,.defer ⟨.value (.tmp 18),#[],#[]⟩,none):=by kernel_rfl
theorem ZZ95 {ops:Array Oper}{i:Nat}{x:Option Tmp×Op×Option (Nat×Bool)}(h:(ops[i]?).map (fun o=>(o.dst,o.op,o.guard))=some x):∃t p a,ops[i]?=some {dst:=x.1,op:=x.2.1,type:=t,pos:=p,after:=a,guard:=x.2.2 }:=by
 cases ho:ops[i]? with
 | none=>rw[ho]at h;cases h
 | some o=>rw[ho]at h;injection h with h;subst h;exact ⟨o.type,o.pos,o.after,rfl⟩
theorem ZZ289 {Q:Exit→Act→World→Prop}{a:Act}{w:World}{v2 v3:Value}(hsz:a.tmps.size=36)(h2:a.tmps.getD 2 undef=v2)(h3:a.tmps.getD 3 undef=v3)
  (hK:Q .normal {tmps:=a.tmps.setIfInBounds 18 (.func (.func 27) #[] #[v2,v3]),defers:={target := .fn (.func 27) #[v2,v3],args:=#[] }::a.defers } w):rq4.wp Tryz.prog Q a w:=by
 rw[ZZ368]
 refine wp_region ?_
 rw[ZZ333]
 obtain ⟨t0,p0,a0,h0⟩:=ZZ95 rq4_0
 obtain ⟨t1,p1,a1,h1⟩:=ZZ95 rq4_1
 rw[Array.getD_eq_getD_getElem?]at h2 h3
 simp[List.range,List.range.loop,wpOps,h0,h1,Region.wanted,Oper.wp,execOp,go_sem,h2,h3]
 rw[if_pos (by omega)]
 exact .inl (.inl hK)
noncomputable def rq6:Code:=fstC (sndC (sndC (sndC (sndC (sndC (Zm Tryz.f9))))))
theorem ZZ359:rq6 = .region 6 (opsC rq6) false:=by kernel_rfl
theorem ZZ329:(opsC rq6).size=2:=by kernel_rfl
theorem rq6_0:((opsC rq6)[0]?).map (fun o=>(o.dst,o.op,o.guard))=some (some 23,.move (.tmp 6),none):=by kernel_rfl
theorem rq6_1:((opsC rq6)[1]?).map (fun o=>(o.dst,o.op,o.guard))=some (some 24,.call ⟨.value (.func 29),#[.tmp 23],#[79]⟩,none):=by kernel_rfl
theorem ZZ351 {Q:Exit→Act→World→Prop}{a:Act}{w:World}{u:Value}{S:Ending→World→Prop}(hsz:a.tmps.size=36)(h6:a.tmps.getD 6 undef=u)
  (hS:CtE Tryz.prog 29 #[u] w S)
  (hK:∀e w',S e w'→match e with
   | .returned v=>Q .normal {tmps:=(a.tmps.setIfInBounds 23 u).setIfInBounds 24 v,defers:=a.defers } w'
   | .panicked ch=>Q (.panic ch) {tmps:=a.tmps.setIfInBounds 23 u,defers:=a.defers } w'
   | .outgrown=>False):rq6.wp Tryz.prog Q a w:=by
 rw[ZZ359]
 refine wp_region ?_
 rw[ZZ329]
 obtain ⟨t0,p0,a0,h0⟩:=ZZ95 rq6_0
 obtain ⟨t1,p1,a1,h1⟩:=ZZ95 rq6_1
 rw[Array.getD_eq_getD_getElem?]at h6
 simp[List.range,List.range.loop,wpOps,h0,h1,Region.wanted,Oper.wp,execOp,go_sem,h6]
 rw[if_pos (by omega)]
 refine .inl (.inl (hS.2.mono fun e w' he=>?_))
 have:=hK e w' he
 cases e with
 | returned v=>exact this
 | panicked ch=>exact this
 | outgrown=>exact this.elim
end Go.Proofs.YtckbgeedlobfaaaGreatDoor
namespace Go.Proofs.YtckbgeedlobfaaaGreatDoor
open Go.Px Go.Px.Scan Go.Px.Spec Go.RowKit
attribute [-go_sem] Builtin.append_
theorem Zyv:Zm Tryz.f9 = .seq RqA.code (.seq RqB.code (.seq RqC.code (.seq rq4 (.seq RqD.code (.seq rq6 RqE.code))))):=by kernel_rfl
theorem ZZ211 {s:ByteArray}{w:World}{B:Nat}(hs:s.size≤maxLen)(hO:Ord w B)(hB:B≤w.heap.size):Ct Tryz.prog Zok.id #[.string s] w (Zmp s w) :=
 ⟨fun args w=>Tryz.call26 args w,callsIn_wide.1 (Zxl hs hO hB)⟩
theorem ZZ260 {L:List Ch}{W w:World}{G:Nat→Prop}{bm bb b c i:Nat}{A:Option Addr}{ws:List Wd}{e:Int}{hs:List (Nat×List ByteArray)}{st:ByteArray}{ls:List ByteArray}{rs:List RowS}{D:RD}(mb:MB hs rs st)(hD:Rb ws i hs ls rs D)
  (s:St G W w (L++[boxC bm 83 [.pointer (some ⟨bb,0,none⟩),.pointer (some ⟨b,0,none⟩)],bldC bb S0]++rdL b A c ws e i hs st ls rs D)) :
  CtE Tryz.prog Zb.id #[.pointer (some ⟨bm,0,none⟩)] w fun r w'=>
   (∃S',allM hs ls rs st = .ok S'∧r = .returned (.tuple #[])∧St G W w' (L++[boxC bm 83 [.pointer (some ⟨bb,0,none⟩),.pointer (some ⟨b,0,none⟩)],bldC bb S'])) ∨
   (∃e,allM hs ls rs st = .error e∧r = .panicked (errP e)∧St G W w' L):=by
 rw[List.append_assoc]at s
 have s1:=s.unflat
 obtain ⟨F,ho,hF,hs'⟩:=s1.opn (k:=L.length) (c0:=Ch.all ([boxC bm 83 [.pointer (some ⟨bb,0,none⟩),.pointer (some ⟨b,0,none⟩)],bldC bb S0]++rdL b A c ws e i hs st ls rs D)) (by simp)
 refine (ZZ297 mb hD (St.enter ho)).mono ?_
 rintro r w' (⟨S',he,rfl,h3⟩|⟨x,he,rfl,hc⟩)
 ·refine .inl ⟨S',he,rfl,?_⟩
  have:=hs' w' (Ch.all [boxC bm 83 [.pointer (some ⟨bb,0,none⟩),.pointer (some ⟨b,0,none⟩)],bldC bb S']) h3.chg h3.leave
  refine St.flat ?_
  simpa using this
 ·refine .inr ⟨x,he,rfl,?_⟩
  have:=(hs' w' Ch.emp hc trivial).take L.length
  simpa using this
theorem Zo7 {s:ByteArray}{w w1:World}{tm:Array Value}{q2 q3:Nat}{u:FrameMode}{e:Int}
  (h2:tm.getD 2 undef = .pointer (some ⟨q2,0,none⟩)) (h3:tm.getD 3 undef = .pointer (some ⟨q3,0,none⟩))
  (hu:u = .returning∧FinR w w1 q2 q3 (Zhj s).1 (Zhj s).2.1 (Zhj s).2.2∨u = .panicking (errP e)∧Zhj s=(gz,e,0)∧St noB w w1 [boxC q2 27 zG,boxC q3 36 zM]) :
  LeavesInM Fence.wide 3 Tryz.prog Tryz.f9 tm (RT (Zzn s w)) [{target := .fn (.func 27) #[.pointer (some ⟨q2,0,none⟩),.pointer (some ⟨q3,0,none⟩)],args:=#[] }] u w1:=by
 have fin:∀w2,FinR w w2 q2 q3 (Zhj s).1 (Zhj s).2.1 (Zhj s).2.2→LeavesInM Fence.wide 3 Tryz.prog Tryz.f9 tm (RT (Zzn s w)) [] .returning w2:=fun w2 hF=>by
  obtain ⟨vg,hr,hn⟩:=hF.ans h2 h3
  exact ⟨_,hr,vg,rfl,hn⟩
 refine ⟨by rcases hu with ⟨rfl,_⟩ | ⟨rfl,_⟩<;>simp,.inr ⟨fun h=>by simp[Fence.wide]at h,.func 27,#[.pointer (some ⟨q2,0,none⟩),.pointer (some ⟨q3,0,none⟩)],27,#[.pointer (some ⟨q2,0,none⟩),.pointer (some ⟨q3,0,none⟩)],rfl,?_,fun g hg=>trivial,?_⟩⟩
 ·simp[invoke,go_sem]
 ·refine Ztn (w:=w) (e:=e) ?_
  rcases hu with ⟨rfl,hF⟩|⟨rfl,hG,s1⟩
  ·exact .inl ⟨rfl,fin _ hF⟩
  ·refine .inr ⟨rfl,s1,fun w2 s2=>?_⟩
   refine fin _ ?_
   rw[hG]
   exact FinR.zero s2
theorem ZZ55 {s:ByteArray}{w:World}{B:Nat}{tm:Array Value}(hs:s.size≤maxLen)(hO:Ord w B)(hB:B≤w.heap.size)(hsz:tm.size=36)(h0:tm.getD 0 undef=Value.string s) :
  (Zm Tryz.f9).wp Tryz.prog (bodyPostM Fence.wide 3 Tryz.prog Tryz.f9 (RT (Zzn s w))) {tmps:=tm,defers:=[] } w:=by
 rw[Zyv]
 have hr0:Rel 36 {tmps:=tm,defers:=[] } (fun n=>tm.getD n undef):=⟨hsz,fun _=>rfl,rfl⟩
 refine wp_seq (Zgi (RqA.part_wp hr0 (R:=RS fun vs w'=>∃q2 q3,vs=#[Value.string s,.pointer (some ⟨q2,0,none⟩),.pointer (some ⟨q3,0,none⟩)]∧St noB w w' [boxC q2 27 zG,boxC q3 36 zM]) ?_) ?_)
 ·show RqA.b1 _ (tm.getD 0 undef) w
  rw[h0]
  exact ZZ228 fun w' q2 q3 s1=>⟨q2,q3,rfl,s1⟩
 rintro a1 ρ1 w1 r1 ⟨q2,q3,hv,s1⟩
 injection hv with hv;injection hv with e0 hv;injection hv with e2 hv;injection hv with e3 _
 refine wp_seq (Zgi (RqB.part_wp r1 (R:=RS fun vs w'=>∃b,vs=#[Value.pointer (some ⟨q2,0,none⟩),.pointer (some ⟨q3,0,none⟩),.pointer (some ⟨b,0,none⟩),.int .i64 (badS s)]∧St noB w w' [boxC q2 27 zG,boxC q3 36 zM] ∧
   (badS s<0→∃A c hs st rl ls rs,goM m0 (Zah s).1=(⟨9,hs,st,rl,ls,rs⟩,[])∧St noB w w' [boxC q2 27 zG,boxC q3 36 zM,rdC b A c (Zah s).1 (endS s) (Zah s).1.length hs st ls rs])) ?_) ?_)
 ·show RqB.b1 _ (ρ1 0) (ρ1 2) (ρ1 3) w1
  rw[e0,e2,e3]
  unfold RqB.b1
  refine Zf (ZZ211 hs (hO.chg s1.chg hB (fun _ _=>id)) (Nat.le_trans hB s1.chg.size)) ?_
  rintro _ w2 ⟨hc,b,rfl,hL⟩
  unfold RqB.b1_1
  simp -dsimp[go_sem]
  refine ⟨b,rfl,s1.old hc,fun hneg=>?_⟩
  obtain ⟨A,c,hs',st,rl,ls,rs,g1,_,g3⟩:=hL hneg
  exact ⟨A,c,hs',st,rl,ls,rs,g1,s1.seq g3⟩
 clear s1 e0 e2 e3 hr0
 rintro a2 ρ2 w2 r2 ⟨b,hv,s2,hL⟩
 injection hv with hv;injection hv with e2 hv;injection hv with e3 hv;injection hv with e4 hv;injection hv with e5 _
 refine wp_seq (wp_mono (RqC.part_wp r2 (R:=fun e w'=>(e = .returned (.agg #[.pointer (some ⟨q2,0,none⟩),.pointer (some ⟨q3,0,none⟩)])∧0≤badS s∧FinR w w' q2 q3 gz 10 (badS s)) ∨
   (e = .returned (.tuple #[.pointer (some ⟨q2,0,none⟩),.pointer (some ⟨q3,0,none⟩),.pointer (some ⟨b,0,none⟩),.int .i64 (badS s)])∧¬0≤badS s∧w'=w2)) ?_) ?_)
 ·show RqC.b1 _ (ρ2 2) (ρ2 3) (ρ2 4) (ρ2 5) w2
  rw[e2,e3,e4,e5]
  exact ZZ194 s2 (fun h w' hF=> .inl ⟨rfl,h,hF⟩) (fun h=> .inr ⟨rfl,h,rfl⟩)
 clear e2 e3 e4 e5 r1
 rintro e a3 w3 hp
 cases e with
 | ret=>
  obtain ⟨ρ3,r3,(⟨hv,hb,hF⟩|⟨hv,_⟩)⟩:=hp
  ·injection hv with hv;injection hv with hv;injection hv with hv;injection hv with f2 hv;injection hv with f3 _
   show LeavesInM _ _ _ _ _ _ _ _ _
   rw[r3.defers]
   obtain ⟨vg,hr,hn⟩:=hF.ans ((r3.get 2).trans f2) ((r3.get 3).trans f3)
   exact ⟨_,hr,vg,by rw[Znw hb],by rw[Znw hb];exact hn⟩
  ·cases hv
 | panic ch=>obtain ⟨_,(⟨h,_⟩ | ⟨h,_⟩)⟩:=hp<;>cases h
 | exit k=>obtain ⟨_,_,h⟩:=hp;exact h.elim
 | goto k=>obtain ⟨_,_,h⟩:=hp;exact h.elim
 | outgrown=>obtain ⟨_,_,h⟩:=hp;exact h.elim
 | normal=>
  obtain ⟨ρ3,r3,(⟨hv,_⟩|⟨hv,hnb,rfl⟩)⟩:=hp
  ·cases hv
  clear hO hB h0 hsz
  injection hv with hv;injection hv with hv;injection hv with hv;injection hv with e2 hv;injection hv with e3 hv;injection hv with e4 hv;injection hv with e5 _
  obtain ⟨A,c,hs',st,rl,ls,rs,hg,s3⟩:=hL (by omega)
  refine wp_seq (ZZ289 r3.size ((r3.get 2).trans e2) ((r3.get 3).trans e3) ?_)
  have g6:=r3.size
  have g2:=(r3.get 2).trans e2
  have g3:=(r3.get 3).trans e3
  have g4:=(r3.get 4).trans e4
  have gd:=r3.defers
  clear r3 e2 e3 e4 e5 r2
  obtain ⟨tm6,d6⟩:=a3
  simp only at g6 g2 g3 g4 gd
  subst gd
  have u2:(tm6.setIfInBounds 18 (.func (.func 27) #[] #[.pointer (some ⟨q2,0,none⟩),.pointer (some ⟨q3,0,none⟩)])).getD 2 undef = .pointer (some ⟨q2,0,none⟩):=by
   rw[←g2];simp[Array.getD_eq_getD_getElem?]
  have u3:(tm6.setIfInBounds 18 (.func (.func 27) #[] #[.pointer (some ⟨q2,0,none⟩),.pointer (some ⟨q3,0,none⟩)])).getD 3 undef = .pointer (some ⟨q3,0,none⟩):=by
   rw[←g3];simp[Array.getD_eq_getD_getElem?]
  have u4:(tm6.setIfInBounds 18 (.func (.func 27) #[] #[.pointer (some ⟨q2,0,none⟩),.pointer (some ⟨q3,0,none⟩)])).getD 4 undef = .pointer (some ⟨b,0,none⟩):=by
   rw[←g4];simp[Array.getD_eq_getD_getElem?]
  have uz:(tm6.setIfInBounds 18 (.func (.func 27) #[] #[.pointer (some ⟨q2,0,none⟩),.pointer (some ⟨q3,0,none⟩)])).size=36:=by simpa using g6
  revert u2 u3 u4 uz
  generalize tm6.setIfInBounds 18 (.func (.func 27) #[] #[.pointer (some ⟨q2,0,none⟩),.pointer (some ⟨q3,0,none⟩)])=tm7
  intro u2 u3 u4 uz
  clear g2 g3 g4 g6
  have mb:=ZZ310 hg
  refine wp_seq (Zgi (RqD.part_wp (ρ:=fun n=>tm7.getD n undef) (D:=[{target := .fn (.func 27) #[.pointer (some ⟨q2,0,none⟩),.pointer (some ⟨q3,0,none⟩)],args:=#[] }]) ⟨uz,fun _=>rfl,rfl⟩
   (R:=RS fun vs w'=>∃bb bm,vs=#[Value.pointer (some ⟨q2,0,none⟩),.pointer (some ⟨q3,0,none⟩),.pointer (some ⟨bm,0,none⟩)] ∧
    St noB w w' ([boxC q2 27 zG,boxC q3 36 zM,rdC b A c (Zah s).1 (endS s) (Zah s).1.length hs' st ls rs]++[bldC bb S0]++[boxC bm 83 [.pointer (some ⟨bb,0,none⟩),.pointer (some ⟨b,0,none⟩)]])) ?_) ?_)
  ·show RqD.b1 _ (tm7.getD 2 undef) (tm7.getD 3 undef) (tm7.getD 4 undef) w3
   rw[u2,u3,u4]
   exact ZZ244 s3 fun w' bb bm s4=>⟨bb,bm,rfl,s4⟩
  clear s3 u2 u3 u4 uz
  rintro a4 ρ4 w4 r4 ⟨bb,bm,hv,s4⟩
  injection hv with hv;injection hv with e2 hv;injection hv with e3 hv;injection hv with e6 _
  obtain ⟨D,hB',hst,s5⟩:=Zqe (L:=[boxC q2 27 zG,boxC q3 36 zM,boxC bm 83 [.pointer (some ⟨bb,0,none⟩),.pointer (some ⟨b,0,none⟩)],bldC bb S0]) (s4.pick [0,1,4,3,2] (by decide) rfl)
    -- the callee's pieces, apart
  have g6:=r4.size
  have g2:=(r4.get 2).trans e2
  have g3:=(r4.get 3).trans e3
  have g66:=(r4.get 6).trans e6
  have gd:=r4.defers
  clear r4 e2 e3 e6 s4
  obtain ⟨tm8,d8⟩:=a4
  simp only at g6 g2 g3 g66 gd
  subst gd
  refine wp_seq (ZZ351 (a:=⟨tm8,_⟩) g6 g66 (ZZ260 mb hB' (L:=[boxC q2 27 zG,boxC q3 36 zM]) s5) ?_)
  rintro e w7 (⟨S',he,rfl,s7⟩|⟨x,he,rfl,s7⟩)
  ·have v2:((tm8.setIfInBounds 23 (.pointer (some ⟨bm,0,none⟩))).setIfInBounds 24 (.tuple #[])).getD 2 undef = .pointer (some ⟨q2,0,none⟩):=by
    rw[←g2];simp[Array.getD_eq_getD_getElem?]
   have v3:((tm8.setIfInBounds 23 (.pointer (some ⟨bm,0,none⟩))).setIfInBounds 24 (.tuple #[])).getD 3 undef = .pointer (some ⟨q3,0,none⟩):=by
    rw[←g3];simp[Array.getD_eq_getD_getElem?]
   have v6:((tm8.setIfInBounds 23 (.pointer (some ⟨bm,0,none⟩))).setIfInBounds 24 (.tuple #[])).getD 6 undef = .pointer (some ⟨bm,0,none⟩):=by
    rw[←g66];simp[Array.getD_eq_getD_getElem?]
   have vz:((tm8.setIfInBounds 23 (.pointer (some ⟨bm,0,none⟩))).setIfInBounds 24 (.tuple #[])).size=36:=by simpa using g6
   revert v2 v3 v6 vz
   show _→_→_→_→RqE.code.wp _ _ _ _
   generalize (tm8.setIfInBounds 23 (.pointer (some ⟨bm,0,none⟩))).setIfInBounds 24 (.tuple #[])=tm9
   intro v2 v3 v6 vz
   have hrd:=Zvo hnb hg he
   refine wp_mono (RqE.part_wp (ρ:=fun n=>tm9.getD n undef) (D:=[{target := .fn (.func 27) #[.pointer (some ⟨q2,0,none⟩),.pointer (some ⟨q3,0,none⟩)],args:=#[] }]) ⟨vz,fun _=>rfl,rfl⟩
    (R:=fun e w'=>e = .returned (.agg #[.pointer (some ⟨q2,0,none⟩),.pointer (some ⟨q3,0,none⟩)])∧FinR w w' q2 q3 (Zhj s).1 (Zhj s).2.1 (Zhj s).2.2) ?_) ?_
   ·show RqE.b1 _ (tm9.getD 2 undef) (tm9.getD 3 undef) (tm9.getD 6 undef) w7
    rw[v2,v3,v6]
    refine ZZ257 s7 fun w' hF=>⟨rfl,?_⟩
    rw[hrd]
    cases ht:Zl5 S' with
    | true=>rw[ht]at hF;exact hF
    | false=>rw[ht]at hF;exact hF
   ·rintro e a' w' hp
    cases e with
    | normal=>obtain ⟨ρ,_,h,_⟩:=hp;cases h
    | ret=>
     obtain ⟨ρ,hr,hv,hF⟩:=hp
     injection hv with hv;injection hv with hv;injection hv with hv;injection hv with f2 hv;injection hv with f3 _
     show LeavesInM _ _ _ _ _ _ _ _ _
     rw[hr.defers]
     exact Zo7 (e:=0) ((hr.get 2).trans f2) ((hr.get 3).trans f3) (.inl ⟨rfl,hF⟩)
    | panic ch=>obtain ⟨_,h,_⟩:=hp;cases h
    | exit k=>obtain ⟨_,_,h⟩:=hp;exact h.elim
    | goto k=>obtain ⟨_,_,h⟩:=hp;exact h.elim
    | outgrown=>obtain ⟨_,_,h⟩:=hp;exact h.elim
  ·have v2:(tm8.setIfInBounds 23 (.pointer (some ⟨bm,0,none⟩))).getD 2 undef = .pointer (some ⟨q2,0,none⟩):=by
    rw[←g2];simp[Array.getD_eq_getD_getElem?]
   have v3:(tm8.setIfInBounds 23 (.pointer (some ⟨bm,0,none⟩))).getD 3 undef = .pointer (some ⟨q3,0,none⟩):=by
    rw[←g3];simp[Array.getD_eq_getD_getElem?]
   show LeavesInM _ _ _ _ _ _ _ _ _
   exact Zo7 v2 v3 (.inr ⟨rfl,Zr2 hnb hg he,s7⟩)
theorem Zxb {s:ByteArray}{w:World}{B:Nat}(hs:s.size≤maxLen)(hO:Ord w B)(hB:B≤w.heap.size):CallsIn Fence.wide 3 Tryz.prog Zkt.id #[.string s] w (RT (Zzn s w)):=by
 refine callsIn_of_wp_marks Tryz.func9 rfl trivial ?_ rfl
 refine wpIn_wide.2 ?_
 exact ZZ55 hs hO hB (by simp) (by simp[Array.getD])
theorem ZZ262 {s:ByteArray}{w:World}{B:Nat}(hs:s.size≤maxLen)(hO:Ord w B)(hB:B≤w.heap.size):Ct Tryz.prog Zkt.id #[.string s] w (Zzn s w) :=
 ⟨fun args w=>Tryz.call9 args w,callsIn_wide.1 (Zxb hs hO hB)⟩
end Go.Proofs.YtckbgeedlobfaaaGreatDoor
namespace Go.Px.Spec
open Go.Px Go.Px.Scan
structure Mor (S S':BS):Prop where
 terms:∃r,S'.terms=S.terms++r∧∀x∈r,x.2=0
 nons:Ext S.nons S'.nons
 lev:S'.levels=S.levels
 rules:∃r,S'.rules=S.rules++r
 start:S'.start=S.start
theorem More.mor {S S':BS}(h:More S S'):Mor S S':=⟨h.terms,h.nons,h.lev,⟨[],by rw[h.rules];simp⟩,h.start⟩
theorem Mor.refl (S:BS):Mor S S:=(More.refl S).mor
theorem Mor.trans {A B C:BS}(h:Mor A B)(k:Mor B C):Mor A C:=by
 obtain ⟨r,h1,h2⟩:=h.terms
 obtain ⟨q,k1,k2⟩:=k.terms
 obtain ⟨a,ha⟩:=h.rules
 obtain ⟨b,hb⟩:=k.rules
 refine ⟨⟨r++q,by rw[k1,h1];simp,fun x hx=>?_⟩,h.nons.trans k.nons,k.lev.trans h.lev,⟨a++b,by rw[hb,ha];simp⟩,k.start.trans h.start⟩
 rcases List.mem_append.1 hx with hx|hx
 ·exact h2 x hx
 ·exact k2 x hx
theorem Mor.ext {S S':BS}(h:Mor S S'):Ext (S.terms.map (·.1)) (S'.terms.map (·.1)):=by
 obtain ⟨r,h1,_⟩:=h.terms;exact ⟨r.map (·.1),by rw[h1];simp⟩
theorem Mor.Q {S S':BS}(h:Mor S S')(hq:Q S'):Q S:=by
 obtain ⟨r,h1,_⟩:=h.terms
 obtain ⟨q,h2⟩:=h.nons
 obtain ⟨a,ha⟩:=h.rules
 have h3:=hq.1
 have h4:=hq.2
 rw[h1,h2]at h3
 rw[ha]at h4
 simp at h3 h4
 exact ⟨by omega,by omega⟩
theorem Mor.inW {S S':BS}(h:Mor S S'){ls:List ByteArray}{w:Wd}(hw:inW ls S w):inW ls S' w:=by
 unfold Spec.inW at hw ⊢
 split
 ·rename_i h1;rw[if_pos h1]at hw;exact h.nons.mem hw
 ·rename_i h1;rw[if_neg h1]at hw;exact h.ext.mem hw
theorem Mor.hW {S S':BS}(h:Mor S S'){ls:List ByteArray}{w:Wd}(hw:Spec.inW ls S w):hW ls S' w=hW ls S w:=by
 unfold Spec.inW at hw
 unfold Spec.hW
 split
 ·rename_i h1;rw[if_pos h1]at hw;rw[h.nons.posH hw]
 ·rename_i h1;rw[if_neg h1]at hw;rw[h.ext.posH hw]
end Go.Px.Spec
namespace Go.Proofs.YtckbgeedlobfaaaGreatDoor
open Go.Px Go.Px.Scan Go.Px.Spec Go.RowKit
theorem Zj7 {S S':BS}(h:Mor S S')(k:Int):Zar S' k=Zar S k:=by obtain ⟨r,h1,h2⟩:=h.terms;exact Znl h1 h2 k
theorem ZZ59 {S S':BS}(h:Mor S S')(l:List Int):Zfk S' l=Zfk S l:=by
 unfold Zfk
 congr 1
 funext a k
 rw[Zj7 h]
theorem Mor.row (ls:List ByteArray)(S:BS)(r:RowS):Mor S (rowS ls S r):=by
 have h:=More.syms ls S r
 exact ⟨h.terms,h.nons,h.lev,⟨[_],rfl⟩,h.start⟩
theorem Mor.rows (ls:List ByteArray)(l:List RowS):∀S:BS,Mor S (l.foldl (rowS ls) S):=by
 induction l with
 | nil=>exact Mor.refl
 | cons r l ih=>exact fun S=>(Mor.row ls S r).trans (ih _)
theorem ZZ158 {ls:List ByteArray}{lv:Int→Int}{k:Nat}(l:List RowS):∀{S:BS},(∀h,1≤h→lv h=Zar S h)→(∀h,0≤Zar S h∧Zar S h≤S.levels.length)→(∀r∈l,RI WP k r∧Sd r)→Q S →
  Run (l.foldlM (rowF ls lv) S) (Q (l.foldl (rowS ls) S)) (l.foldl (rowS ls) S):=by
 induction l with
 | nil=>intro S _ _ _ hq;exact .inl ⟨hq,rfl⟩
 | cons r l ih=>
  intro S hlv hlo hr hq
  rw[List.foldlM_cons,List.foldl_cons]
  have m:=Mor.row ls S r
  refine Run.bind (ZZ189 hlv hlo (hr r (by simp)).1 (hr r (by simp)).2 hq) (fun hq2=>?_) (Mor.rows ls l _).Q
  refine ih (fun h hh=>by rw[hlv h hh,Zj7 m]) (fun h=>?_) (fun x hx=>hr x (by simp[hx])) hq2
  rw[Zj7 m,m.lev];exact hlo h
theorem Zvw {ls:List ByteArray}{S:BS}{r:RowS}:r.left∈(Zdn ls S r).nons∧(∀w∈r.words,inW ls (Zdn ls S r) w)∧(r.by_≠noT→r.by_∈(Zdn ls S r).terms.map (·.1)):=by
 have m1:=More.fold ls r.words (addN S r.left)
 have hl:=m1.nons.mem (Zmh S r.left)
 have hw:=Zyh (ls:=ls) r.words (addN S r.left)
 unfold Zdn
 simp only
 by_cases hb:r.by_=noT
 ·rw[if_pos hb];exact ⟨hl,hw,fun h=>absurd hb h⟩
 ·rw[if_neg hb]
  have m:=More.addT (r.words.foldl (stepW ls) (addN S r.left)) r.by_
  exact ⟨m.nons.mem hl,fun w h=>m.inW (hw w h),fun _=>Zmd _ _⟩
theorem Zo5 {ls:List ByteArray}{S S':BS}{r:RowS}(m:Mor S S')(h:r.left∈S.nons∧(∀w∈r.words,inW ls S w)∧(r.by_≠noT→r.by_∈S.terms.map (·.1))):Zgk ls S' r=Zgk ls S r:=by
 have hmap:r.words.map (hW ls S')=r.words.map (hW ls S):=List.map_congr_left fun w hw=>m.hW (h.2.1 w hw)
 unfold Zgk levR
 rw[m.nons.posH h.1,hmap,ZZ59 m]
 by_cases hb:r.by_=noT
 ·simp only[hb,ne_eq,not_true,if_false]
 ·rw[m.ext.posH (h.2.2 hb),Zj7 m]
theorem Zwh {ls:List ByteArray}{S:BS}(l:List RowS):(l.foldl (rowS ls) S).rules=S.rules++l.map (Zgk ls (l.foldl (rowS ls) S)):=by
 have key:∀(n:Nat) (l:List RowS),l.length=n→(l.foldl (rowS ls) S).rules=S.rules++l.map (Zgk ls (l.foldl (rowS ls) S))∧∀r∈l,(r.left∈(l.foldl (rowS ls) S).nons∧(∀w∈r.words,inW ls (l.foldl (rowS ls) S) w)∧(r.by_≠noT→r.by_∈(l.foldl (rowS ls) S).terms.map (·.1))):=fun n=>by
  induction n with
  | zero=>intro l hl;rw[List.length_eq_zero_iff.1 hl];simp
  | succ n ih=>
   intro l hl
   rcases List.eq_nil_or_concat l with e|⟨a,r,e⟩
   ·rw[e]at hl;simp at hl
   ·have e':l=a++[r]:=by simpa using e
    subst e'
    obtain ⟨h1,h2⟩:=ih a (by simpa using hl)
    rw[List.foldl_append,List.foldl_cons,List.foldl_nil]
    generalize a.foldl (rowS ls) S=T at *
    have m:=Mor.row ls T r
    have ms:Mor (Zdn ls T r) (rowS ls T r):=⟨⟨[],by simp[rowS],by simp⟩,Ext.refl _,rfl,⟨[Zgk ls (Zdn ls T r) r],by simp[rowS,(More.syms ls T r).rules]⟩,rfl⟩
    have hs:=Zvw (ls:=ls) (S:=T) (r:=r)
    refine ⟨?_,fun x hx=>?_⟩
    ·have e1:a.map (Zgk ls (rowS ls T r))=a.map (Zgk ls T):=List.map_congr_left fun x hx=>Zo5 m (h2 x hx)
     rw[List.map_append,e1,List.map_singleton,Zo5 ms hs]
     show T.rules++_=_
     rw[h1,List.append_assoc]
    ·rcases List.mem_append.1 hx with hx|hx
     ·obtain ⟨k1,k2,k3⟩:=h2 x hx
      exact ⟨m.nons.mem k1,fun w hw=>m.inW (k2 w hw),fun hb=>m.ext.mem (k3 hb)⟩
     ·rw[List.mem_singleton.1 hx]
      exact hs
 exact (key _ l rfl).1
theorem Zvv {ls:List ByteArray}{S:BS}(l:List RowS):∀r∈l,(r.left∈(l.foldl (rowS ls) S).nons∧(∀w∈r.words,inW ls (l.foldl (rowS ls) S) w)∧(r.by_≠noT→r.by_∈(l.foldl (rowS ls) S).terms.map (·.1))):=by
 induction l generalizing S with
 | nil=>intro r hr;cases hr
 | cons x l ih=>
  intro r hr
  rw[List.foldl_cons]
  rcases List.mem_cons.1 hr with rfl|hr
  ·have hs:=Zvw (ls:=ls) (S:=S) (r:=r)
   have ms:Mor (Zdn ls S r) (rowS ls S r):=⟨⟨[],by simp[rowS],by simp⟩,Ext.refl _,rfl,⟨[Zgk ls (Zdn ls S r) r],by simp[rowS,(More.syms ls S r).rules]⟩,rfl⟩
   have m:=ms.trans (Mor.rows ls l (rowS ls S r))
   exact ⟨m.nons.mem hs.1,fun w hw=>m.inW (hs.2.1 w hw),fun hb=>m.ext.mem (hs.2.2 hb)⟩
  ·exact ih r hr
theorem Zw9 {ls:List ByteArray}{S:BS}{r:RowS}(hsd:Sd r):(Zdn ls S r).terms=numF ls S.terms r:=by
 have h1:∀(l:List Wd) (S:BS),(l.foldl (stepW ls) S).terms=((l.filter fun w=> !Zdj ls w).map (·.2.1)).foldl (fun u t=>putT u t 0) S.terms:=fun l=>by
  induction l with
  | nil=>intro S;rfl
  | cons w l ih=>
   intro S
   rw[List.foldl_cons,ih]
   unfold stepW
   by_cases h:Zdj ls w=true
   ·rw[if_pos h,List.filter_cons_of_neg (by simp[h]),(Zk7 S _).1]
   ·rw[if_neg h,List.filter_cons_of_pos (by simp[h]),List.map_cons,List.foldl_cons,Zfx]
 unfold numF rowT Zdn
 simp only
 rw[List.foldl_append]
 by_cases hb:r.by_=noT
 ·have hs:r.said≠1:=fun h=>by rcases hsd with h2 | h2;exact h2.2 hb;exact h2.1 h
  rw[if_pos hb,if_neg hs,h1,(Zk7 S _).1];rfl
 ·have hs:r.said=1:=by rcases hsd with h2 | h2;exact h2.1;exact absurd h2.2 hb
  rw[if_neg hb,if_pos hs,Zfx,h1,(Zk7 S _).1];rfl
theorem Zw0 {ls:List ByteArray}(l:List RowS):∀{S:BS},(∀r∈l,Sd r)→(l.foldl (rowS ls) S).terms=l.foldl (numF ls) S.terms:=by
 induction l with
 | nil=>intro S _;rfl
 | cons r l ih=>
  intro S h
  rw[List.foldl_cons,List.foldl_cons,ih fun x hx=>h x (by simp[hx])]
  show l.foldl (numF ls) (Zdn ls S r).terms=_
  rw[Zw9 (h r (by simp))]
theorem Zzq {ls:List ByteArray}(l:List RowS):∀{S:BS},(∀r∈l,r.left∈ls)→(S.nons.Nodup∧∀x∈S.nons,x∈ls)→((l.foldl (rowS ls) S).nons.Nodup∧∀x∈(l.foldl (rowS ls) S).nons,x∈ls):=by
 have hadd:∀{S:BS} {t:ByteArray},t∈ls→(S.nons.Nodup∧∀x∈S.nons,x∈ls)→((addN S t).nons.Nodup∧∀x∈(addN S t).nons,x∈ls):=fun {S t} ht h=>by
  rw[Zso]
  refine ⟨Zk3 h.1,fun x hx=>?_⟩
  rcases Zkm.1 hx with hx|rfl
  ·exact h.2 x hx
  ·exact ht
 have Zd1:∀{S:BS} {w:Wd},(S.nons.Nodup∧∀x∈S.nons,x∈ls)→((stepW ls S w).nons.Nodup∧∀x∈(stepW ls S w).nons,x∈ls):=fun {S w} h=>by
  unfold stepW
  split
  ·rename_i h1
   refine hadd ?_ h
   unfold Zdj at h1
   simp only[Bool.and_eq_true]at h1
   exact Zae.1 h1.1
  ·rw[(Ziw S _).1];exact h
 have hfold:∀(ws:List Wd) {S:BS},(S.nons.Nodup∧∀x∈S.nons,x∈ls)→((ws.foldl (stepW ls) S).nons.Nodup∧∀x∈(ws.foldl (stepW ls) S).nons,x∈ls):=fun ws=>by
  induction ws with
  | nil=>exact fun h=>h
  | cons w ws ih=>exact fun h=>ih (Zd1 h)
 induction l with
 | nil=>exact fun _ h=>h
 | cons r l ih=>
  intro S hl h
  rw[List.foldl_cons]
  refine ih (fun x hx=>hl x (by simp[hx])) ?_
  have e:(rowS ls S r).nons=(r.words.foldl (stepW ls) (addN S r.left)).nons:=by
   show (Zdn ls S r).nons=_
   unfold Zdn
   simp only
   split
   ·rfl
   ·rw[(Ziw _ _).1]
  rw[e]
  exact hfold _ (hadd (hl r (by simp)) h)
theorem ZZ22 {a b:List ByteArray}(ha:a.Nodup)(hb:b.Nodup)(h:∀x,x∈a↔x∈b):a.length=b.length :=
 Nat.le_antisymm (Zhx ha fun x hx=>(h x).1 hx) (Zhx hb fun x hx=>(h x).2 hx)
noncomputable def Zba (m:Mc):BS :=
 let S:=m.rows.foldl (rowS m.lefts) (Sof m.heads)
 {S with start:=if m.start=noT then 0 else -posH S.nons m.start }
theorem ZZ358 (hs:List (Nat×List ByteArray))(h:Int):0≤Zar (Sof hs) h∧Zar (Sof hs) h≤(Sof hs).levels.length:=by
 unfold Zar
 cases e:(Sof hs).terms[(h-1).toNat]? with
 | none=>simp
 | some x=>exact ⟨(Zl7 hs).1 x (List.mem_of_getElem? e),ZZ311 hs x (List.mem_of_getElem? e)⟩
theorem ZZ264 {k:Nat}{m:Mc}(mi:MI WP k m)(h9:Zet m=true):Run (allM m.heads m.lefts m.rows m.start) (Q (Zba m)) (Zba m):=by
 have hph:m.ph=9∧(m.start=noT∨hasB m.lefts m.start=true):=by simpa[Zet]using h9
 have h6:=mi.ord6 (by omega)
 have hlr:∀x,x∈m.lefts↔x∈m.rows.map (·.left):=fun x=>by rw[←Zgl,←h6.1,Zgl]
 have hT:∀x∈m.heads,∀t∈x.2,Zec t:=fun x hx t ht=>(mi.tx x hx t ht).term
 obtain ⟨lv,h1,h2⟩:=Zzu mi.hok hT (mi.ne2 (by omega))
 have hrows:∀r∈m.rows,RI WP k r∧Sd r:=fun r hr=>⟨mi.ri r hr,mi.sd2 (by omega) r hr⟩
 have hmor:=Mor.rows m.lefts m.rows (Sof m.heads)
 have hQ:Q (Zba m)↔Q (m.rows.foldl (rowS m.lefts) (Sof m.heads)):=Iff.rfl
 unfold allM
 refine Run.bind h2 (fun hq=>?_) (fun h=>hmor.Q (hQ.1 h))
 refine Run.bind (ZZ158 m.rows h1 (ZZ358 m.heads) hrows hq) (fun hq2=>?_) hQ.1
 unfold Zlr Zba
 by_cases hs:m.start=noT
 ·simp only[if_pos hs]
  refine .inl ⟨hq2,?_⟩
  show Except.ok _=Except.ok _
  congr 1
  have:(m.rows.foldl (rowS m.lefts) (Sof m.heads)).start=0:=hmor.start
  rw[←this]
 ·simp only[if_neg hs]
  have hin:m.start∈m.lefts:=by
   rcases hph.2 with h|h
   ·exact absurd h hs
   ·exact Zae.1 h
  obtain ⟨r,hr,hrl⟩:=List.mem_map.1 ((hlr _).1 hin)
  have hN:m.start∈(m.rows.foldl (rowS m.lefts) (Sof m.heads)).nons:=by rw[←hrl];exact (Zvv m.rows r hr).1
  have hname:Zfi m.start:=(mi.lefts _ hin).name
  generalize m.rows.foldl (rowS m.lefts) (Sof m.heads)=SN at *
  have he:addN SN m.start=SN:=by unfold addN;rw[if_pos (Zae.2 hN)]
  have hr2:=Ztu hname hq2
  rw[he]at hr2
  refine Run.bind hr2 (fun _=>?_) id
  rw[ZZ35 hN,if_pos rfl]
  exact .inl ⟨hq2,rfl⟩
end Go.Proofs.YtckbgeedlobfaaaGreatDoor
namespace Go.Px.Spec
open Go.Px Go.Px.Scan
theorem ZZ34 (ls:List ByteArray):Zdj (dd ls)=Zdj ls:=by
 funext w
 unfold Zdj
 have:hasB (dd ls) w.2.1=hasB ls w.2.1:=by rw[Bool.eq_iff_iff,Zae,Zae,Zgl]
 rw[this]
theorem ZZ219 (ls:List ByteArray):rowT (dd ls)=rowT ls:=by funext r;unfold rowT;rw[ZZ34]
theorem ZZ220 (ls:List ByteArray):numF (dd ls)=numF ls:=by funext ts r;unfold numF;rw[ZZ219]
theorem ZZ279 {k:Nat}{ls:List ByteArray}{r:RowS}(h:RI WP k r)(hsd:Sd r):∀t∈rowT ls r,Zec t:=by
 intro t ht
 unfold rowT at ht
 rcases List.mem_append.1 ht with ht|ht
 ·obtain ⟨w,hw,rfl⟩:=List.mem_map.1 ht
  have:=h.wx w (List.mem_filter.1 hw).1
  exact Tm.term ⟨w,this.1,this.2,rfl⟩
 ·split at ht
  ·rename_i h1
   rw[List.mem_singleton.1 ht]
   rcases h.by_ with e|e
   ·rcases hsd with h2|h2
    ·exact absurd e h2.2
    ·exact absurd h1 h2.1
   ·exact e.term
  ·cases ht
theorem Zz6 {ls:List ByteArray}{r:RowS}(h:∀t∈rowT ls r,Zec t)(ts:List (ByteArray×Int)):numF ls ((noT,0)::ts) r=(noT,0)::numF ls ts r:=by
 unfold numF
 have:∀(l:List ByteArray),(∀t∈l,Zec t)→∀ts:List (ByteArray×Int),l.foldl (fun u t=>putT u t 0) ((noT,0)::ts)=(noT,0)::l.foldl (fun u t=>putT u t 0) ts:=fun l=>by
  induction l with
  | nil=>intro _ ts;rfl
  | cons t l ih=>
   intro hl ts
   rw[List.foldl_cons,List.foldl_cons,Zsi 0 (show t≠(noT,(0:Int)).1 from Zeu (hl t (by simp)).1),ih fun x hx=>hl x (by simp[hx])]
 exact this _ h ts
theorem Zxk {ls:List ByteArray}{l:List RowS}:(∀r∈l,∀t∈rowT ls r,Zec t)→∀ts:List (ByteArray×Int),l.foldl (numF ls) ((noT,0)::ts)=(noT,0)::l.foldl (numF ls) ts:=by
 induction l with
 | nil=>intro _ ts;rfl
 | cons r l ih=>
  intro h ts
  rw[List.foldl_cons,List.foldl_cons,Zz6 (h r (by simp)),ih fun x hx=>h x (by simp[hx])]
theorem ZZ157 {f:ByteArray→Int}{a:List ByteArray}{x:ByteArray}(hf:∀y∈a,f y=f x→y=x):addL (a.map f) (f x)=(addB a x).map f:=by
 unfold addL addB
 by_cases h:x∈a
 ·rw[if_pos (List.mem_map.2 ⟨x,h,rfl⟩),if_pos (Zae.2 h)]
 ·have h2:¬f x∈a.map f:=fun h3=>by obtain ⟨y,hy,e⟩:=List.mem_map.1 h3;exact h (hf y hy e ▸ hy)
  rw[if_neg h2,if_neg fun h3=>h (Zae.1 h3)];simp
theorem ZZ202 {f:ByteArray→Int}{x:ByteArray}:∀{a:List ByteArray},(∀y∈a,f y=f x→y=x)→(a.map f).idxOf (f x)=posN a x:=fun {a}=>by
 induction a with
 | nil=>intro _;rfl
 | cons y a ih=>
  intro h
  rw[List.map_cons,List.idxOf_cons,posN]
  by_cases e:y=x
  ·subst e;simp
  ·have:¬f y=f x:=fun h2=>e (h y (by simp) h2)
   rw[if_neg e,ih fun z hz=>h z (by simp[hz]),show (f y == f x)=false by simpa using this]
   rfl
end Go.Px.Spec
namespace Go.Px.Spec
open Go.Px Go.Px.Scan
theorem Zpp {f:ByteArray→Int}{g:RowS→Int×List Int×Int}{P:ByteArray→Prop}(hf:∀x y,P x→P y→f x=f y→x=y)(l:List RowS):∀acc:List ByteArray,(∀x∈acc,P x)→(∀r∈l,P r.left∧(g r).1=f r.left) →
  (l.map g).foldl (fun a p=>addL a p.1) (acc.map f)=((l.map (·.left)).foldl addB acc).map f:=by
 induction l with
 | nil=>intro acc _ _;rfl
 | cons r l ih=>
  intro acc ha hl
  have hr:=hl r (by simp)
  rw[List.map_cons,List.map_cons,List.foldl_cons,List.foldl_cons]
  show List.foldl _ (addL (acc.map f) (g r).1) _=_
  rw[hr.2,ZZ157 fun y hy e=>hf y _ (ha y hy) hr.1 e]
  refine ih _ (fun x hx=>?_) fun x hx=>hl x (by simp[hx])
  rcases Zkm.1 hx with hx|rfl
  ·exact ha x hx
  ·exact hr.1
structure FinM (m:Mc):Prop where
 ri:∀r∈m.rows,(∃k,RI WP k r)∧Sd r
 ht:∀x∈m.heads,x.2≠[]∧∀t∈x.2,Zec t
 hd:∀x∈m.heads,x.1≤3
 ln:∀x∈m.lefts,Zfi x
 lr:dd (m.rows.map (·.left))=dd m.lefts
 ne:m.rows≠[]
 st:m.start=noT∨m.start∈m.lefts
theorem MI.fin {k:Nat}{m:Mc}(mi:MI WP k m)(h9:Zet m=true):FinM m:=by
 have hph:m.ph=9∧(m.start=noT∨hasB m.lefts m.start=true):=by simpa[Zet]using h9
 have h6:=mi.ord6 (by omega)
 refine ⟨fun r hr=>⟨⟨k,mi.ri r hr⟩,mi.sd2 (by omega) r hr⟩,fun x hx=>⟨mi.ne2 (by omega) x hx,fun t ht=>(mi.tx x hx t ht).term⟩,mi.hok.side,fun x hx=>(mi.lefts x hx).name,h6.1,fun e=>?_,?_⟩
 ·have:=h6.2;rw[e]at this;cases this
 ·rcases hph.2 with h|h
  ·exact Or.inl h
  ·exact Or.inr (Zae.1 h)
end Go.Px.Spec
namespace Go.Proofs.YtckbgeedlobfaaaGreatDoor
open Go.Px Go.Px.Scan Go.Px.Spec Go.RowKit
section
variable {m:Mc}
theorem Zvj (F:FinM m)(x:ByteArray):x∈m.lefts↔x∈m.rows.map (·.left):=by rw[←Zgl,←F.lr,Zgl]
theorem ZZ109 (F:FinM m):∀r∈m.rows,∀t∈rowT m.lefts r,Zec t:=fun r hr=>by
 obtain ⟨⟨k,h1⟩,h2⟩:=F.ri r hr
 exact ZZ279 h1 h2
theorem Zx7 (F:FinM m):(Zba m).terms=m.rows.foldl (numF m.lefts) (hTl m.heads).1:=Zw0 m.rows fun r hr=>(F.ri r hr).2
theorem Znz (F:FinM m):(numX (rxOf m)).ts=(noT,0)::(Zba m).terms:=by
 show m.rows.foldl (numF (dd m.lefts)) (tmOf m.heads)=_
 have:tmOf m.heads=(noT,0)::(hTl m.heads).1:=by unfold tmOf;rw[Zuw fun x hx t ht=>Zeu ((F.ht x hx).2 t ht).1]
 rw[this,ZZ220,Zxk (ZZ109 F),Zx7 F]
theorem ZZ322 (F:FinM m):(numX (rxOf m)).lv=(Zba m).levels:=by
 show lvOf m.heads=_
 have h1:lvOf m.heads=(hTl m.heads).2:=by unfold lvOf;rw[Zuw fun x hx t ht=>Zeu ((F.ht x hx).2 t ht).1]
 rw[h1]
 exact (Mor.rows m.lefts m.rows (Sof m.heads)).lev.symm
theorem Zij:(Zba m).rules=m.rows.map (Zgk m.lefts (Zba m)):=by
 have:=Zwh (ls:=m.lefts) (S:=Sof m.heads) m.rows
 rw[show (Sof m.heads).rules=[] from rfl,List.nil_append]at this
 exact this
theorem Zqx:∀r∈m.rows,(r.left∈(Zba m).nons∧(∀w∈r.words,inW m.lefts (Zba m) w)∧(r.by_≠noT→r.by_∈(Zba m).terms.map (·.1))):=Zvv m.rows
theorem Zhv (F:FinM m):(Zba m).nons.Nodup∧∀x,x∈(Zba m).nons↔x∈m.lefts:=by
 have h:=Zzq (ls:=m.lefts) m.rows (S:=Sof m.heads) (fun r hr=>(Zvj F _).2 (List.mem_map.2 ⟨r,hr,rfl⟩)) ⟨by simp[Sof],by simp[Sof]⟩
 refine ⟨h.1,fun x=>⟨h.2 x,fun hx=>?_⟩⟩
 obtain ⟨r,hr,rfl⟩:=List.mem_map.1 ((Zvj F x).1 hx)
 exact (Zqx r hr).1
theorem Zv2 (F:FinM m):(Zba m).nons.length=(dd m.lefts).length:=ZZ22 (Zhv F).1 (ZZ84 _) fun x=>by rw[(Zhv F).2,Zgl]
def hN (S:BS)(s:ByteArray):Int := -posH S.nons s
theorem ZZ179 {S:BS}{x y:ByteArray}(hx:x∈S.nons)(hy:y∈S.nons)(h:hN S x=hN S y):x=y:=Zp8 hx hy (by unfold hN at h;omega)
theorem fin_L (F:FinM m):Zj (Zba m).rules=(dd m.lefts).map (hN (Zba m)):=by
 rw[Zij]
 have:=Zpp (f:=hN (Zba m)) (g:=Zgk m.lefts (Zba m)) (P:=fun x=>x∈(Zba m).nons) (fun x y=>ZZ179) m.rows [] (by simp) fun r hr=>⟨(Zqx r hr).1,rfl⟩
 rw[List.map_nil]at this
 unfold Zj
 rw[this,←F.lr];rfl
theorem Zqi (F:FinM m)(t:Nat){s:ByteArray}(hs:s∈m.lefts):Ze5 t (Zj (Zba m).rules) (hN (Zba m) s)=nonX t (dd m.lefts) s:=by
 rw[fin_L F]
 have hd:s∈dd m.lefts:=Zgl.2 hs
 unfold Ze5 nonX
 rw[if_pos (List.mem_map.2 ⟨s,hd,rfl⟩),if_pos (Zc2 hd).1,ZZ202 fun y hy e=>ZZ179 (((Zhv F).2 y).2 (Zgl.1 hy)) (((Zhv F).2 s).2 hs) e]
theorem Zvc (F:FinM m){t:ByteArray}(hT:t≠noT)(ht:t∈(Zba m).terms.map (·.1)):posI (numX (rxOf m)).ts t=posH ((Zba m).terms.map (·.1)) t:=by
 rw[Znz F,Zc3 ht]
 have:=(Zc2 ht).1
 rw[List.length_map]at this
 have e:posN (((noT,(0:Int))::(Zba m).terms).map (·.1)) t=posN ((Zba m).terms.map (·.1)) t+1:=by rw[List.map_cons,posN,if_neg (show ¬noT=t from fun e=>hT e.symm)]
 unfold posI
 rw[e,List.length_cons,if_pos (by omega)]
 omega
theorem Zu9 (F:FinM m){r:RowS}(hr:r∈m.rows){w:Wd}(hw:w∈r.words) :
  symH ((Zba m).terms.length+1) (Zj (Zba m).rules) (hW m.lefts (Zba m) w)=symX (numX (rxOf m)).ts (dd m.lefts) w∧0≤symX (numX (rxOf m)).ts (dd m.lefts) w ∧
  ∀a,(if 0<hW m.lefts (Zba m) w then Zar (Zba m) (hW m.lefts (Zba m) w) else a)=lev1 (numX (rxOf m)).ts a (symX (numX (rxOf m)).ts (dd m.lefts) w):=by
 have hin:=(Zqx r hr).2.1 w hw
 obtain ⟨⟨k,hri⟩,hsd⟩:=F.ri r hr
 have hwx:=hri.wx w hw
 have hT:Zec w.2.1:=Tm.term ⟨w,hwx.1,hwx.2,rfl⟩
 have hTn:=Zeu hT.1
 have hlen:(numX (rxOf m)).ts.length=(Zba m).terms.length+1:=by rw[Znz F,List.length_cons]
 unfold inW at hin
 unfold symH hW symX
 rw[ZZ34]
 by_cases h:Zdj m.lefts w=true
 ·rw[if_pos h]at hin
  simp only[if_pos h]
  have hl:=((Zhv F).2 _).1 hin
  have hpos : -posH (Zba m).nons w.2.1<0:=by rw[Zc3 hin];omega
  have hd:w.2.1∈dd m.lefts:=Zgl.2 hl
  have hx:nonX (numX (rxOf m)).ts.length (dd m.lefts) w.2.1=((numX (rxOf m)).ts.length:Int)+posN (dd m.lefts) w.2.1:=by unfold nonX;rw[if_pos (Zc2 hd).1]
  refine ⟨?_,by rw[hx];omega,fun a=>?_⟩
  ·rw[if_pos hpos,←hlen];exact Zqi F _ hl
  ·rw[if_neg (by omega)]
   unfold lev1
   rw[hx,if_neg (by omega)]
 ·rw[if_neg h]at hin
  simp only[if_neg h]
  have hp:=Zc3 hin
  have hl:=(Zc2 hin).1
  rw[List.length_map]at hl
  rw[Zvc F hTn hin,if_neg (by omega)]
  refine ⟨rfl,by omega,fun a=>?_⟩
  rw[if_pos (by omega)]
  unfold lev1
  rw[if_pos (by omega),hp]
  unfold Zar lvAt
  rw[Znz F,show ((posN ((Zba m).terms.map (·.1)) w.2.1:Int)+1).toNat=posN ((Zba m).terms.map (·.1)) w.2.1+1 by omega,List.getElem?_cons_succ]
  rw[show ((posN ((Zba m).terms.map (·.1)) w.2.1:Int)+1-1).toNat=posN ((Zba m).terms.map (·.1)) w.2.1 by omega]
theorem ZZ360 (F:FinM m){r:RowS}(hr:r∈m.rows)(hb:r.by_≠noT):0≤posI (numX (rxOf m)).ts r.by_∧Zar (Zba m) (posH ((Zba m).terms.map (·.1)) r.by_)=lvAt (numX (rxOf m)).ts (posI (numX (rxOf m)).ts r.by_):=by
 have hin:=(Zqx r hr).2.2 hb
 have hp:=Zc3 hin
 rw[Zvc F hb hin,hp]
 refine ⟨by omega,?_⟩
 unfold Zar lvAt
 rw[Znz F,show ((posN ((Zba m).terms.map (·.1)) r.by_:Int)+1).toNat=posN ((Zba m).terms.map (·.1)) r.by_+1 by omega,List.getElem?_cons_succ]
 rw[show ((posN ((Zba m).terms.map (·.1)) r.by_:Int)+1-1).toNat=posN ((Zba m).terms.map (·.1)) r.by_ by omega]
theorem fold_congr {α:Type}{f g:Int→α→Int}{l:List α}(h:∀x∈l,∀a,f a x=g a x):∀a,l.foldl f a=l.foldl g a:=by
 induction l with
 | nil=>exact fun _=>rfl
 | cons x l ih=>intro a;rw[List.foldl_cons,List.foldl_cons,h x (by simp),ih fun y hy=>h y (by simp[hy])]
theorem ZZ261 (F:FinM m){r:RowS}(hr:r∈m.rows):levR m.lefts (Zba m) r=rlev (numX (rxOf m)).ts (dd m.lefts) r:=by
 have hsd:=(F.ri r hr).2
 unfold levR rlev
 by_cases h2:r.said=2
 ·rw[if_pos h2,if_pos h2]
 ·rw[if_neg h2,if_neg h2]
  by_cases hb:r.by_=noT
  ·have hs:r.said≠1:=fun h=>by rcases hsd with h2 | h2;exact h2.2 hb;exact h2.1 h
   rw[if_neg (by simp[hb]),if_neg hs]
   unfold Zfk
   rw[List.foldl_map,List.foldl_map]
   exact fold_congr (fun w hw a=>(Zu9 F hr hw).2.2 a) 0
  ·have hs:r.said=1:=by rcases hsd with h2 | h2;exact h2.1;exact absurd h2.2 hb
   rw[if_pos hb,if_pos hs]
   exact (ZZ360 F hr hb).2
theorem ZZ238 (F:FinM m){s:ByteArray}(hs:s∈m.lefts):Zk9 (Zba m) (hN (Zba m) s)=s:=by
 have hin:=((Zhv F).2 s).2 hs
 have hp:=Zc3 hin
 unfold Zk9 hN
 rw[hp,show (-1 - -((posN (Zba m).nons s:Int)+1)).toNat=posN (Zba m).nons s by omega,(Zc2 hin).2];rfl
theorem ZZ147 (F:FinM m):Zdr (Zba m)=gOf (numX (rxOf m)):=by
 have hlen:(numX (rxOf m)).ts.length=(Zba m).terms.length+1:=by rw[Znz F,List.length_cons]
 have hL:=fin_L F
 unfold Zdr gOf
 simp only
 have e1:((⟨#[]⟩,0)::(Zba m).terms:List (ByteArray×Int))=(numX (rxOf m)).ts:=by rw[Znz F];rfl
 have e2:(Zj (Zba m).rules).map (Zk9 (Zba m))=(numX (rxOf m)).ls:=by
  rw[hL,List.map_map]
  show _=dd m.lefts
  conv=>rhs;rw[←List.map_id (dd m.lefts)]
  exact List.map_congr_left fun s hs=>ZZ238 F (Zgl.1 hs)
 have e3:(Zba m).levels=(numX (rxOf m)).lv:=(ZZ322 F).symm
 have e5:(Zba m).rules.map (pv (Zba m))=(numX (rxOf m)).rows.map (gPr (numX (rxOf m))):=by
  rw[Zij,List.map_map]
  refine List.map_congr_left fun r hr=>?_
  show pv (Zba m) (Zgk m.lefts (Zba m) r)=gPr (numX (rxOf m)) r
  unfold pv Zgk gPr
  simp only
  rw[hlen,ZZ261 F hr]
  have hlr:r.left∈m.lefts:=(Zvj F _).2 (List.mem_map.2 ⟨r,hr,rfl⟩)
  have h1:=Zqi F ((Zba m).terms.length+1) hlr
  unfold hN at h1
  rw[h1,List.map_map]
  have h2:r.words.map (symH ((Zba m).terms.length+1) (Zj (Zba m).rules)∘hW m.lefts (Zba m))=r.words.map (symX (numX (rxOf m)).ts (numX (rxOf m)).ls):=List.map_congr_left fun w hw=>(Zu9 F hr hw).1
  rw[h2];rfl
 have e4:Ze5 ((Zba m).terms.length+1) (Zj (Zba m).rules) (if (Zba m).start=0 then ((Zba m).rules.head?.map (·.1)).getD 0 else (Zba m).start)=if (numX (rxOf m)).st=noT then ((numX (rxOf m)).ts.length:Int) else nonX (numX (rxOf m)).ts.length (numX (rxOf m)).ls (numX (rxOf m)).st:=by
  show _=if m.start=noT then _ else nonX _ (dd m.lefts) m.start
  have hst:(Zba m).start=if m.start=noT then 0 else hN (Zba m) m.start:=rfl
  rw[hlen]
  by_cases hs:m.start=noT
  ·rw[if_pos hs]at hst ⊢
   rw[hst,if_pos rfl]
   obtain ⟨r,rs,e⟩:=List.exists_cons_of_ne_nil F.ne
   have hh:((Zba m).rules.head?.map (·.1)).getD 0=hN (Zba m) r.left:=by rw[Zij,e];rfl
   have hr:r∈m.rows:=by rw[e];simp
   have hlr:r.left∈m.lefts:=(Zvj F _).2 (List.mem_map.2 ⟨r,hr,rfl⟩)
   rw[hh,Zqi F _ hlr]
   have h0:posN (dd m.lefts) r.left=0:=by
    rw[←F.lr,e,List.map_cons]
    have:∀(l:List ByteArray) (a:List ByteArray),posN ((l.foldl addB (r.left::a))) r.left=0:=fun l=>by
     induction l with
     | nil=>intro a;rw[List.foldl_nil,posN,if_pos rfl]
     | cons x l ih=>
      intro a
      rw[List.foldl_cons]
      have:∃a',addB (r.left::a) x=r.left::a':=by unfold addB;split;exact ⟨a,rfl⟩;exact ⟨a++[x],rfl⟩
      obtain ⟨a',ha⟩:=this
      rw[ha];exact ih a'
    exact this (rs.map (·.left)) []
   have hd:r.left∈dd m.lefts:=Zgl.2 hlr
   unfold nonX
   rw[if_pos (Zc2 hd).1,h0];simp
  ·rw[if_neg hs]at hst ⊢
   have hin:m.start∈m.lefts:=by rcases F.st with h | h;exact absurd h hs;exact h
   have hne:(Zba m).start≠0:=by
    rw[hst];unfold hN
    rw[Zc3 (((Zhv F).2 _).2 hin)];omega
   rw[if_neg hne,hst]
   exact Zqi F _ hin
 rw[e1,e2,e3,e4,e5]
theorem ZZ149 (F:FinM m):Zl5 (Zba m)=true:=by
 unfold Zl5
 rw[decide_eq_true_eq]
 refine ⟨fun e=>F.ne ?_,?_⟩
 ·rw[Zij]at e;exact List.map_eq_nil_iff.1 e
 ·rw[fin_L F,List.length_map,Zv2 F];exact Nat.le_refl _
theorem fin_Q (F:FinM m):Q (Zba m)↔¬((numX (rxOf m)).ts.length-1+(numX (rxOf m)).ls.length > 64∨(numX (rxOf m)).rows.length > 96):=by
 have h1:(numX (rxOf m)).ts.length=(Zba m).terms.length+1:=by rw[Znz F,List.length_cons]
 have h2:(numX (rxOf m)).ls.length=(Zba m).nons.length:=(Zv2 F).symm
 have h3:(numX (rxOf m)).rows.length=(Zba m).rules.length:=by rw[Zij,List.length_map];rfl
 unfold Q
 rw[h1,h2,h3]
 omega
end
theorem ZZ33 (s:ByteArray):Zhj s=refG s:=by
 unfold refG
 by_cases hb:0≤badS s
 ·rw[Znw hb,if_pos hb];rfl
 ·rw[if_neg hb]
  obtain ⟨_,m,hg,h9⟩:=Zz9 (by omega:badS s<0)
  have mi:=ZZ176 s hg
  have F:=mi.fin h9
  rw[hg]
  simp only
  rcases ZZ264 mi h9 with ⟨hq,e⟩|⟨hq,e⟩
  ·rw[Zvo hb hg e,if_pos (ZZ149 F),if_neg ((fin_Q F).1 hq),ZZ147 F]
  ·have h2:(numX (rxOf m)).ts.length-1+(numX (rxOf m)).ls.length > 64∨(numX (rxOf m)).rows.length > 96:=Classical.byContradiction fun h=>hq ((fin_Q F).2 h)
   rw[Zr2 hb hg e,if_pos h2];rfl
end Go.Proofs.YtckbgeedlobfaaaGreatDoor
namespace Go.Proofs.YtckbgeedlobfaaaGreatDoor
open Go.Px Go.Px.Scan Go.Px.Spec Go.RowKit
end Go.Proofs.YtckbgeedlobfaaaGreatDoor
namespace Go.Px.Scan
open Go.Px
open Classical in
noncomputable def sameB (a b:Gr):Bool:=decide (a=b)
theorem Zmu {a b:Gr}:sameB a b=true↔a=b:=@decide_eq_true_iff _ (_)
theorem Gr.ext' {a b:Gr}(h1:a.terms=b.terms)(h2:a.nons=b.nons)(h3:a.levels=b.levels)(h4:a.start=b.start)(h5:a.prods=b.prods):a=b:=by
 cases a;cases b;simp_all
theorem Zil {α:Type}{a b:List α}{k:Nat}(h:a.take k=b.take k)(ha:k<a.length)(hb:k<b.length)(he:a[k]=b[k]):a.take (k+1)=b.take (k+1):=by
 rw[List.take_succ_eq_append_getElem ha,List.take_succ_eq_append_getElem hb,h,he]
theorem toList_inj {a b:ByteArray}:a.toList=b.toList↔a=b:=by
 constructor
 ·intro h;rw[ByteArray.toList_eq,ByteArray.toList_eq]at h;exact Zh6 h
 ·rintro rfl;rfl
end Go.Px.Scan
namespace Go.Proofs.YtckbgeedlobfaaaGreatDoor
open Go.Px Go.Px.Scan Go.RowKit
attribute [-go_sem] Builtin.append_
end Go.Proofs.YtckbgeedlobfaaaGreatDoor
namespace Go.Proofs.YtckbgeedlobfaaaGreatDoor
open Go.Px Go.RowKit
theorem Zg3 {w:World}{B:Nat}{va vb:Value}{a b:List Int}(ha:(Zo rInt).at1 w B va a)(hb:(Zo rInt).at1 w B vb b)(hB:B≤w.heap.size) :
  Ct Tryz.prog Zbo.id #[va,vb] w fun v w'=>v = .bool (a == b)∧Below w.heap.size w w':=by
 obtain ⟨A1,c1,rfl,hl1,hm1,_⟩:=Zay ha
 obtain ⟨A2,c2,rfl,hl2,hm2,_⟩:=Zay hb
 refine Zbo.ct fun R hR=>?_
 unfold Zbo.run Zbo.b1
 simp[go_sem]
 refine Za (fun h=>?_) (fun h=>?_)
 ·refine hR _ _ ⟨?_,Below.refl _ _⟩
  have:¬a=b:=by rintro rfl;simp at h
  simpa using this
 have hlen:a.length=b.length:=by simp at h;omega
 unfold Zbo.b4
 refine Zbo.l6_intro _ _ _ _ _ (fun x w1=>∃k:Nat,x = .int .i64 k∧k≤a.length∧a.take k=b.take k∧Below w.heap.size w w1) (fun x _=>a.length-iv x) ⟨0,rfl,by omega,rfl,Below.refl _ _⟩ ?_
 rintro _ w1 ⟨k,rfl,hk,hall,hbw⟩ C hC
 unfold Zbo.b7
 simp[go_sem]
 refine Za (fun h=>?_) (fun h=>?_)
 ·have hka:k<a.length:=by simpa using h
  have hkb:k<b.length:=by omega
  obtain ⟨b1,o1,rfl,hb1,hc1,hr1⟩:=Go.Px.ints_at (Rep.below ha (hbw.mono hB)) hka
  obtain ⟨b2,o2,rfl,hb2,hc2,hr2⟩:=Go.Px.ints_at (Rep.below hb (hbw.mono hB)) hkb
  have wk:=Zau hka (Nat.le_trans hl1 hm1)
  simp[go_sem,hka,hkb,hc1,hc2]
  refine Za (fun h=>?_) (fun h=>?_)
  ·refine hR _ _ ⟨?_,hbw.drew⟩
   have:¬a=b:=by rintro rfl;simp at h
   simpa using this
  ·simp[go_sem,wk]
   refine hC _ _ ⟨k+1,by simp,by omega,?_,hbw.drew⟩ (by simp[iv];omega)
   have h:a[k]=b[k]:=by simpa using h
   rw[List.take_succ_eq_append_getElem hka,List.take_succ_eq_append_getElem hkb,hall,h]
 ·have hk9:¬k<a.length:=by simpa using h
  have hka:k=a.length:=by omega
  unfold Zbo.b3
  refine hR _ _ ⟨?_,hbw⟩
  rw[hka,List.take_length,hlen,List.take_length]at hall
  simp[hall]
end Go.Proofs.YtckbgeedlobfaaaGreatDoor
