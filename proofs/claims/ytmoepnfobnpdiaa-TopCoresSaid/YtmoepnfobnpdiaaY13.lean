/-
  Texts of this claim: Tm2, Tn1, Tm3, Tn2, Tn3, Tn4, Lo6, Tn5, Tn6, Tn7.
-/
import Derived.Test.YtmoepnfobnpdiaaY12
import Derived.Test.YtmoepnfobnpdiaaY09
import Derived.Test.YtmoepnfobnpdiaaY11
set_option maxHeartbeats 1000000
set_option linter.unusedSimpArgs false
set_option linter.unusedVariables false
set_option maxRecDepth 100000
/-
  The document's answer for reach: Marks.
-/
namespace Go.Px.Scan
open Go.Px
def cntF (ms:List Bool):Nat:=ms.countP (! ·)
theorem cntF_set {ms:List Bool} {j:Nat} (h:j<ms.length) (hf:ms[j]=false):cntF (ms.set j true)+1=cntF ms:=by
 unfold cntF
 have h1:0<ms.countP (! ·):=List.countP_pos_iff.2 ⟨ms[j],List.getElem_mem h,by simp [hf]⟩
 rw [List.countP_set h]
 simp [hf]
 omega
theorem ClosedP.syms' {g:Gr} (h:ClosedP g):∀p∈g.prods,((g.terms.length:Int)≤p.1∧p.1<g.terms.length+g.nons.length)∧∀x∈p.2.1,1≤x∧x<g.terms.length+g.nons.length:=by
 intro p hp
 have hd:=h.prods.each
 have ha:=h.added
 cases hq:g.prods with
 | nil=>rw [hq] at hp;cases hp
 | cons a b =>
  rw [hq] at hp hd ha
  rcases List.mem_cons.1 hp with rfl | hp
  ·injection ha with ha
   have h1:=h.syms.n0
   have h2:=h.prods.s1
   have h3:=h.prods.s0
   rw [ha]
   refine ⟨⟨Int.le_refl _,by show (g.terms.length:Int)<_;omega⟩,fun x hx=>?_⟩
   simp at hx
   subst hx
   omega
  ·have:=hd p (by simpa using hp)
   have h1:=this.l0
   have h2:=this.l1
   exact ⟨⟨by omega,h2⟩,fun x hx=>⟨(this.right x hx).1,(this.right x hx).2.1⟩⟩
open Go.Px.Cn
/-- What is marked derives rows of terminals. -/
def SndM (nT:Nat) (P:Prs) (ms:List Bool):Prop:=∀j:Nat,ms.getD j false=true→Pd nT P ((nT:Int)+j)
theorem SndM.fits {nT:Nat} {P:Prs} {ms:List Bool} (h:SndM nT P ms) {r:List Int} (hr:∀x∈r,0≤x) (hf:r.all (okS nT ms)=true):∀s∈r,Pd nT P s:=by
 intro s hs
 have h1:=(List.all_eq_true.1 hf) s hs
 unfold okS at h1
 rw [Bool.or_eq_true,decide_eq_true_eq] at h1
 by_cases e:s<nT
 ·exact .term (hr s hs) e
 ·have h2:=h1.resolve_left e
  have:=h _ h2
  have e2:(nT:Int)+((s-nT).toNat:Int)=s:=by omega
  rw [e2] at this
  exact this
theorem SndM.mark {nT:Nat} {P:Prs} {ms:List Bool} (h:SndM nT P ms) {j:Nat} (hj:Pd nT P ((nT:Int)+j)):SndM nT P (ms.set j true):=by
 intro i hi
 by_cases e:j=i
 ·subst e;exact hj
 ·refine h i ?_
  rw [List.getD_eq_getElem?_getD,List.getElem?_set_ne e] at hi
  rw [List.getD_eq_getElem?_getD];exact hi
theorem SndM.none (nT:Nat) (P:Prs) (n:Nat):SndM nT P (List.replicate n false):=by
 intro j hj
 rw [List.getD_eq_getElem?_getD,List.getElem?_replicate] at hj
 split at hj <;> simp at hj
end Go.Px.Scan
namespace Go.Proofs.Ytmoepnfobnpdiaa
open Go.Px Go.Px.Scan Go.Px.Cn Go.RowKit
attribute [-go_sem] Builtin.append_ ref06_Marks.b3 ref06_Marks.b14 ref06_Marks.b17 ref06_Marks.b4 ref06_Marks.b9

theorem Marks_ct {w:World} {B:Nat} {vg:Value} {g:Gr} (hg:rGram.atN w B vg g) (hB:B≤w.heap.size) (hcl:ClosedP g) :
  Ct Try.prog ref06_Marks.id #[vg] w fun v w'=>∃m ms,v = .slice (some ⟨m,0,none⟩) ms.length ms.length∧ms.length=g.nons.length∧St noB w w' [rowC 4 1 (some ⟨m,0,none⟩) ms.length ms.length (boolV ms)]∧SndM g.terms.length g.prods ms:=by
 refine ref06_Marks.ct fun R hR=>?_
 obtain ⟨A1,c1,A2,c2,A3,c3,A4,c4,rfl,⟨m1,m2,m3,m4⟩,hst,hc0,hgr⟩:=box_all hg hB
 have hr4:=(hgr _ (Chg.refl _ _)).r4
 have hr4:(rSlice rPr).at1 w B (.slice A4 g.prods.length c4) g.prods:=by obtain ⟨_,_,_,_,_,_,_,_,e,_,_,_,_,h5,_⟩:=(rGram_open hg).ex;injection e with e;injection e with e;simp at e;rw [e.2.2.2.1,e.2.2.2.2];exact h5
 have hT:=hcl.syms.t1
 have hN:=hcl.syms.n1
 have s1:=(St.refl noB w).alloc #[.slice A1 g.terms.length c1,.slice A2 g.nons.length c2,.slice A3 g.levels.length c3,.int .i64 g.start,.slice A4 g.prods.length c4] 27
 unfold ref06_Marks.run
 simp -dsimp [go_sem]
 generalize w.alloc (.cells #[.slice A1 g.terms.length c1,.slice A2 g.nons.length c2,.slice A3 g.levels.length c3,.int .i64 g.start,.slice A4 g.prods.length c4] 27)=w1 at s1 hc0 hgr ⊢
 generalize w.heap.size=q at s1 hgr ⊢
 have y1:=(hgr w1 (Chg.refl _ _)).k
 have s2:=s1.lit 4 1 g.nons.length (Array.replicate g.nons.length (Value.bool false)) (by unfold maxLen;omega) (by simp)
 simp -dsimp [go_sem,y1,mkFlags w1 g.nons.length (by unfold maxBytes;omega)]
 have e0:(Array.replicate g.nons.length (Value.bool false)).toList=boolV (List.replicate g.nons.length false):=by simp [boolV]
 rw [e0] at s2
 generalize w1.alloc (.cells (Array.replicate g.nons.length (Value.bool false)) 4)=w2 at s2 ⊢
 generalize w1.heap.size=m at s2 ⊢
 obtain ⟨N,hNe⟩:∃N,g.nons.length=N:=⟨_,rfl⟩
 rw [hNe] at s2 hg ⊢
 obtain ⟨CB,hCB⟩:∃CB,boxC q 27 [.slice A1 g.terms.length c1,.slice A2 N c2,.slice A3 g.levels.length c3,.int .i64 g.start,.slice A4 g.prods.length c4]=CB:=⟨_,rfl⟩
 have s2':St noB w w2 [CB,rowC 4 1 (some ⟨m,0,none⟩) N N (boolV (List.replicate N false))]:=by rw [←hCB];exact s2
 let J:Value→World→Nat→Prop:=fun y w' f=>∃(ag:Bool) (ms:List Bool),y = .bool ag∧ms.length=N∧SndM g.terms.length g.prods ms∧St noB w w' [CB,rowC 4 1 (some ⟨m,0,none⟩) N N (boolV ms)]∧f=2*cntF ms+(if ag then 1 else 0)
 unfold ref06_Marks.b4
 refine ref06_Marks.l6_intro _ _ _ _ _ (fun y w'=>∃f,J y w' f) (fun y w'=>muOf (J y) w') ⟨_,true,List.replicate N false,rfl,by simp,SndM.none _ _ _,s2',rfl⟩ ?_
 rintro y3 w3 hJ C hC
 have hJm:=muOf_at hJ
 have hfin:∀y4 w4 f,J y4 w4 f→f<muOf (J y3) w3→C y4 w4:=fun y4 w4 f h1 h2=>hC _ _ ⟨f,h1⟩ (Nat.lt_of_le_of_lt (muOf_le h1) h2)
 obtain ⟨ag,ms0,rfl,hl0,hag,s3,hf⟩:=hJm
 rw [hf] at hfin
 clear hf hC hJ s2 s2'
 cases ag with
 | false =>
  simp -dsimp [go_sem]
  unfold ref06_Marks.b3
  exact hR _ _ ⟨m,ms0,by rw [hl0],hl0.trans hNe.symm,by rw [hl0];exact s3.pick [1] (by simp) rfl,hag⟩
 | true =>
 simp -dsimp [go_sem]
 unfold ref06_Marks.b9
 refine ref06_Marks.l11_intro _ _ _ _ _ _ _ (fun x y w'=>∃(ag:Bool) (i:Nat) (ms:List Bool),x = .bool ag∧y = .int .i64 i∧i≤g.prods.length∧ms.length=N∧SndM g.terms.length g.prods ms∧St noB w w' [CB,rowC 4 1 (some ⟨m,0,none⟩) N N (boolV ms)]∧cntF ms+(if ag then 1 else 0)≤cntF ms0) (fun _ y _=>g.prods.length-iv y)
  ⟨false,0,ms0,rfl,rfl,by omega,hl0,hag,s3,by simp⟩ ?_
 rintro _ _ w4 ⟨ag,i,ms,rfl,rfl,hi,hl,hcl4,s4,hcnt⟩ D hD
 have wi:IntKind.i64.wrap ((i:Int)+1)=(i:Int)+1:=IntWalk.i64_in _ (by have:=hcl.prods.c1;omega)
 have y4:=s4.box 0 (by rw [←hCB];rfl)
 simp [boxAt] at y4
 simp -dsimp [go_sem,y4]
 refine SPL_intro (fun p1=>?_) (fun p1=>?_) <;> simp at p1
 ·obtain ⟨b,o,vr,rfl,hb,x1,x2,x3,hr,_⟩:=prods_at (Rep.below hr4 (s4.chg.below hB fun _ _=>id)) p1
  have hx:=hcl.syms' g.prods[i] (List.getElem_mem p1)
  have et:g.prods.take (i+1)=g.prods.take i++[g.prods[i]]:=List.take_succ_eq_append_getElem p1
  obtain ⟨j,hj⟩:∃j:Nat,g.prods[i].1-(g.terms.length:Int)=j:=⟨(g.prods[i].1-(g.terms.length:Int)).toNat,by omega⟩
  have hjl:j<N:=by omega
  have wj:IntKind.i64.wrap (g.prods[i].1-(g.terms.length:Int))=(j:Int):=by rw [hj];exact IntWalk.i64_in _ (by omega)
  have cmv:(boolV ms)[j]'(by rw [boolV_len,hl];exact hjl) = .bool (ms[j]'(by omega)):=by simp [boolV]
  have hok:okS g.terms.length ms g.prods[i].1=ms[j]'(by omega):=by
   unfold okS
   rw [decide_eq_false (by omega),hj,Bool.false_or,Int.toNat_natCast,List.getD_eq_getElem?_getD,List.getElem?_eq_getElem (by omega)];rfl
  have hgo:∀w' (ag':Bool) (ms':List Bool),ms'.length=N→SndM g.terms.length g.prods ms'→St noB w w' [CB,rowC 4 1 (some ⟨m,0,none⟩) N N (boolV ms')]→cntF ms'+(if ag' then 1 else 0)≤cntF ms0→ref06_Marks.b14 R C D (.bool ag') (.int .i64 i) w':=by
   intro w' ag' ms' h1 h2 h3 h4
   unfold ref06_Marks.b14
   simp -dsimp [go_sem,wi]
   exact hD _ _ _ ⟨ag',i+1,ms',rfl,by simp,by omega,h1,h2,h3,h4⟩ (by simp [iv];omega)
  obtain ⟨Ar,cr,rfl,hrl,hrm,_⟩:=slice_form hr
  have s5:=s4.alloc #[.int .i64 g.prods[i].1,.slice Ar g.prods[i].2.1.length cr,.int .i64 g.prods[i].2.2] 67
  obtain ⟨gm,em,cm,fm⟩:=s5.rowAt 1 rfl (j:=j) (by rw [boolV_len,hl];exact hjl)
  injection em with em;injection em with em;subst em
  rw [cmv] at cm
  simp -dsimp [go_sem,y4,p1,x1,x2,x3,wj,hjl,cm]
  have hc5:Chg noB w4 (w4.alloc (.cells #[.int .i64 g.prods[i].1,.slice Ar g.prods[i].2.1.length cr,.int .i64 g.prods[i].2.2] 67)):=(Chg.refl _ _).alloc _
  generalize w4.alloc (.cells #[.int .i64 g.prods[i].1,.slice Ar g.prods[i].2.1.length cr,.int .i64 g.prods[i].2.2] 67)=w5 at s5 cm fm hc5 ⊢
  generalize w4.heap.size=q5 at s5 ⊢
  have y5:=s5.box 0 (by rw [←hCB];rfl)
  have z5:=s5.box 2 rfl
  simp [boxAt] at y5 z5
  cases hb:ms[j]'(by omega) with
  | true =>
   simp -dsimp [go_sem]
   unfold ref06_Marks.b17
   simp -dsimp [go_sem]
   exact hgo _ ag ms hl hcl4 (s5.take 2) hcnt
  | false =>
   simp -dsimp [go_sem,y5,z5]
   have hbl:Below B w w5:=s5.chg.below hB fun _ _=>id
   refine CALL_of (Fits_ct s5 hl (k:=1) rfl (row:=g.prods[i].2.1) (rGram_below hg hbl) (Rep.below hr ((hc5).below (by have:=s4.chg.size;omega) fun _ _=>id)) (by have:=s5.chg.size;omega) hT fun x hx2=>by have:=(hx.2 x hx2).2;omega) ?_
   rintro _ w6 ⟨rfl,hc6⟩
   have s6:=s5.old hc6
   have y6:=s6.box 0 (by rw [←hCB];rfl)
   have z6:=s6.box 2 rfl
   simp [boxAt] at y6 z6
   unfold ref06_Marks.b17
   cases hfit:g.prods[i].2.1.all (okS g.terms.length ms) with
   | false =>
    simp -dsimp [go_sem]
    exact hgo _ ag ms hl hcl4 (s6.take 2) hcnt
   | true =>
    obtain ⟨gm,em,cm6,fm6⟩:=s6.rowAt 1 rfl (j:=j) (by rw [boolV_len,hl];exact hjl)
    injection em with em;injection em with em;subst em
    simp -dsimp [go_sem,y6,z6,wj,hjl,cm6,fm6]
    have s7:=s6.setRow 1 rfl j (.bool true)
    have e7:(boolV ms).set j (.bool true)=boolV (ms.set j true):=by simp [boolV,List.map_set]
    rw [e7] at s7
    have hcs:=cntF_set (ms:=ms) (j:=j) (by omega) hb
    have e9:(g.terms.length:Int)+(g.prods[i].1-(g.terms.length:Int))=g.prods[i].1:=by omega
    have hpd:Pd g.terms.length g.prods ((g.terms.length:Int)+(j:Int)):=by
     rw [←hj,e9]
     exact Pd.non (List.getElem_mem p1) (hcl4.fits (fun x hx2=>by have:=(hx.2 x hx2).1;omega) hfit)
    refine hgo _ true (ms.set j true) (by simp [hl]) (hcl4.mark hpd) (s7.take 2) (by cases ag <;> simp at hcnt ⊢ <;> omega)
 ·have hie:i=g.prods.length:=by omega
  subst hie
  refine hfin _ _ _ ⟨ag,ms,rfl,hl,hcl4,s4,rfl⟩ ?_
  cases ag <;> simp at hcnt ⊢ <;> omega
end Go.Proofs.Ytmoepnfobnpdiaa

/-
  The document's answer for first: vanishes, lay, Of.
-/
namespace Go.Px.Cn
open Go.Px Go.Px.Scan
/-- A table of what symbols begin with, in memory. -/
structure BgAt (w:World) (bb:Nat) (cs:List Value) (nT mN cN mH cH:Nat) (ga:Nat→Nat) (null:List Bool) (hs:List (List Bool)):Prop where
 box:boxAt w bb 0 (cs++[.slice (some ⟨mN,0,none⟩) null.length cN,.slice (some ⟨mH,0,none⟩) hs.length cH])
 nul:∀i (h:i<null.length),w.cell? ⟨mN,i,none⟩=some (.bool null[i])
 has:∀s,s<hs.length→w.cell? ⟨mH,s,none⟩=some (.slice (some ⟨ga s,0,none⟩) nT nT)∧∀t,t<nT→w.cell? ⟨ga s,t,none⟩=some (.bool ((hs.getD s []).getD t false))
theorem fstB_app {nT:Nat} {null:List Bool} {has:List (List Bool)}:∀(a b:List Int) (u:Nat),fstB nT null has (a++b) u=(fstB nT null has a u || (a.all (vanS nT null) && fstB nT null has b u))
 | [],b,u=>by simp [fstB]
 | s::a,b,u=>by
  rw [List.cons_append,fstB,fstB,fstB_app a b u,List.all_cons]
  cases (has.getD s.toNat []).getD u false <;> cases vanS nT null s <;> simp
theorem fstB_one {nT:Nat} {null:List Bool} {has:List (List Bool)} (a:List Int) (s:Int) (u:Nat):fstB nT null has (a++[s]) u=(fstB nT null has a u || (a.all (vanS nT null) && (has.getD s.toNat []).getD u false)):=by
 rw [fstB_app]
 congr 2
 rw [fstB,fstB];simp
end Go.Px.Cn
namespace Go.Proofs.Ytmoepnfobnpdiaa
open Go.Px Go.Px.Scan Go.Px.Cn Go.RowKit
attribute [-go_sem] Builtin.append_ ref07_vanishes.b3 ref07_vanishes.b9 ref07_vanishes.b12 ref07_vanishes.b11_1 ref07_vanishes.b11 ref07_Begin_lay.b3 ref07_Begin_lay.b9 ref07_Begin_lay.b14 ref07_Begin_lay.b13_1 ref07_Begin_lay.b13 ref07_Begin_lay.b20 ref07_Begin_lay.b23_1 ref07_Begin_lay.b23 ref07_Begin_lay.b22_1 ref07_Begin_lay.b22 ref07_Begin_lay.b15 ref07_Begin_lay.b11 ref07_Begin_Of.b1_1
section
variable {A1 A2 A3 A4:Option Addr} {c1 c2 c3 c4 n2 n3 n4 nT:Nat} {st:Int}
theorem vanishes_ct {w:World} {B m cN:Nat} {null:List Bool} {vr:Value} {row:List Int} (hnc:null.length≤cN) (hnul:∀i (h:i<null.length),w.cell? ⟨m,i,none⟩=some (.bool null[i])) (hrow:(rSlice rInt).at1 w B vr row) (hB:B≤w.heap.size) (hT:nT≤65) (hN:null.length≤1000) (hms:∀x∈row,x<nT+null.length) :
  Ct Try.prog ref07_vanishes.id #[.agg #[.slice A1 nT c1,.slice A2 n2 c2,.slice A3 n3 c3,.int .i64 st,.slice A4 n4 c4],.slice (some ⟨m,0,none⟩) null.length cN,vr] w fun v w'=>v = .bool (row.all (vanS nT null))∧Chg noB w w':=by
 refine ref07_vanishes.ct fun R hR=>?_
 obtain ⟨A,c,rfl,hl,hm,_⟩:=slice_form hrow
 have s1:=(St.refl noB w).alloc #[.slice A1 nT c1,.slice A2 n2 c2,.slice A3 n3 c3,.int .i64 st,.slice A4 n4 c4] 27
 unfold ref07_vanishes.run
 simp -dsimp [go_sem]
 generalize w.alloc (.cells #[.slice A1 nT c1,.slice A2 n2 c2,.slice A3 n3 c3,.int .i64 st,.slice A4 n4 c4] 27)=w1 at s1 ⊢
 generalize w.heap.size=q at s1 hB ⊢
 refine ref07_vanishes.l6_intro _ _ _ _ _ _ (fun y w'=>∃i:Nat,y = .int .i64 i∧i≤row.length∧(row.take i).all (vanS nT null)=true∧St noB w w' [boxC q 27 [.slice A1 nT c1,.slice A2 n2 c2,.slice A3 n3 c3,.int .i64 st,.slice A4 n4 c4]]) (fun y _=>row.length-iv y) ⟨0,rfl,by omega,by simp,s1⟩ ?_
 rintro _ w2 ⟨i,rfl,hi,hall,s2⟩ C hC
 have y2:=(s2.box 0 rfl).1.1
 simp -dsimp [go_sem]
 refine SPL_intro (fun p1=>?_) (fun p1=>?_) <;> simp at p1
 ·have wi:IntKind.i64.wrap ((i:Int)+1)=(i:Int)+1:=wrap_succ p1 (by omega)
  obtain ⟨b,o,rfl,hb,ck,hin⟩:=Go.Px.ints_at (w:=w) (B:=B) hrow p1
  have ck:=s2.chg.at ck id
  have et:row.take (i+1)=row.take i++[row[i]]:=List.take_succ_eq_append_getElem p1
  have hx:=hms row[i] (List.getElem_mem p1)
  have s3:=s2.old ((Chg.refl noB w2).drew)
  have hno:vanS nT null row[i]=false→row.all (vanS nT null)=false:=fun h=>List.all_eq_false.2 ⟨_,List.getElem_mem p1,by rw [h];simp⟩
  unfold ref07_vanishes.b11
  simp -dsimp [go_sem,p1,ck,y2]
  refine SPL_intro (fun p2=>?_) (fun p2=>?_) <;> simp at p2
  ·have hok:vanS nT null row[i]=false:=by unfold vanS;rw [decide_eq_false (by omega)];rfl
   unfold ref07_vanishes.b12
   simp -dsimp [go_sem]
   exact hR _ _ ⟨by rw [hno hok],s3.chg⟩
  ·obtain ⟨j,hj⟩:∃j:Nat,row[i]-(nT:Int)=j:=⟨(row[i]-(nT:Int)).toNat,by omega⟩
   have hjl:j<null.length:=by omega
   have wj:IntKind.i64.wrap (row[i]-(nT:Int))=(j:Int):=by rw [hj];exact IntWalk.i64_in _ (by omega)
   have cm:=s2.chg.at (hnul j hjl) id
   have hok:vanS nT null row[i]=null[j]:=by
    unfold vanS
    rw [decide_eq_true (by omega),hj,Bool.true_and,Int.toNat_natCast,List.getD_eq_getElem?_getD,List.getElem?_eq_getElem hjl];rfl
   unfold ref07_vanishes.b11_1
   simp -dsimp [go_sem,p1,ck,y2,wj,hjl,cm]
   unfold ref07_vanishes.b12
   cases hb:null[j] with
   | true =>
    simp -dsimp [go_sem]
    unfold ref07_vanishes.b9
    simp -dsimp [go_sem,wi]
    exact hC _ _ ⟨i+1,by simp,by omega,by rw [et,List.all_append,hall];simp [hok,hb],s3⟩ (by simp [iv];omega)
   | false =>
    simp -dsimp [go_sem]
    exact hR _ _ ⟨by rw [hno (hok.trans hb)],s3.chg⟩
 ·have:i=row.length:=by omega
  subst this
  rw [List.take_length] at hall
  unfold ref07_vanishes.b3
  exact hR _ _ ⟨by rw [hall],s2.chg⟩
end
end Go.Proofs.Ytmoepnfobnpdiaa

/-
  The document's answer for reach: Used.
-/
namespace Go.Proofs.Ytmoepnfobnpdiaa
open Go.Px Go.Px.Scan Go.Px.Cn Go.RowKit
attribute [-go_sem] Builtin.append_ ref06_Used.b3 ref06_Used.b14 ref06_Used.b23 ref06_Used.b26 ref06_Used.b26_1 ref06_Used.b25_1 ref06_Used.b25 ref06_Used.b18 ref06_Used.b28 ref06_Used.b27_1 ref06_Used.b27 ref06_Used.b9 ref06_Used.b4 ref06_Used.b1_1 ref06_Used.b1_2

theorem bool_at {G:Nat→Prop} {W w:World} {L:List Ch} (s:St G W w L) {k m N:Nat} {ms:List Bool} (hk:L[k]?=some (rowC 4 1 (some ⟨m,0,none⟩) N N (boolV ms))) {j:Nat} (hj:j<ms.length) :
  w.cell? ⟨m,j,none⟩=some (.bool ms[j])∧w.frozen? ⟨m,j,none⟩=false:=by
 obtain ⟨gm,em,cm,fm⟩:=s.rowAt k hk (j:=j) (by rw [boolV_len];exact hj)
 injection em with em;injection em with em;subst em
 have:(boolV ms)[j]'(by rw [boolV_len];exact hj) = .bool ms[j]:=by simp [boolV]
 rw [this] at cm
 exact ⟨cm,fm⟩
theorem bool_set {G:Nat→Prop} {W w:World} {L:List Ch} (s:St G W w L) {k m N:Nat} {ms:List Bool} (hk:L[k]?=some (rowC 4 1 (some ⟨m,0,none⟩) N N (boolV ms))) (j:Nat) (b:Bool) :
  St G W (w.setCell ⟨m,j,none⟩ (.bool b)) (L.set k (rowC 4 1 (some ⟨m,0,none⟩) N N (boolV (ms.set j b)))):=by
 have s7:=s.setRow k hk j (.bool b)
 have e7:(boolV ms).set j (.bool b)=boolV (ms.set j b):=by simp [boolV,List.map_set]
 rw [e7] at s7
 exact s7
/-- The symbols of a row are laid. -/
theorem used_row {W w:World} {L0:List Ch} {o pb N:Nat} {ms0 out0:List Bool} {g:Gr} {p:Int×List Int×Int} {Ar:Option Addr} {cr q:Nat} {bx:List Value} {B:Nat} {x6:Value} {ag0:Bool} {n1:Option Addr×Nat}
  {R:EP} {C6:VP} {C11:Value→VP}
  (s:St noB W w [boxC q 27 (.slice n1.1 g.terms.length n1.2::bx),L0.headD Ch.emp,rowC 4 1 (some ⟨o,0,none⟩) N N (boolV out0),boxC pb 67 [.int .i64 p.1,.slice Ar p.2.1.length cr,.int .i64 p.2.2]])
  (hN:out0.length=N) (hNm:N≤1000) (hT:g.terms.length≤65) (hr:(rSlice rInt).at1 W B (.slice Ar p.2.1.length cr) p.2.1) (hB:B≤W.heap.size) (hrl:p.2.1.length≤maxLen) (hsn:SndM g.terms.length g.prods out0) (hx:∀x∈p.2.1,1≤x∧x<g.terms.length+N) (hpd:∀x∈p.2.1,Pd g.terms.length g.prods x)
  (hcnt:cntF out0+(if ag0 then 1 else 0)≤cntF ms0)
  (hgo:∀w' (ag':Bool) (out':List Bool),out'.length=N→SndM g.terms.length g.prods out'→cntF out'+(if ag' then 1 else 0)≤cntF ms0→St noB W w' [boxC q 27 (.slice n1.1 g.terms.length n1.2::bx),L0.headD Ch.emp,rowC 4 1 (some ⟨o,0,none⟩) N N (boolV out'),boxC pb 67 [.int .i64 p.1,.slice Ar p.2.1.length cr,.int .i64 p.2.2]]→ref06_Used.b14 R C6 C11 (.bool ag') x6 w') :
  ref06_Used.b18 R C6 C11 (.pointer (some ⟨q,0,none⟩)) (.slice (some ⟨o,0,none⟩) N N) (.bool ag0) x6 (.pointer (some ⟨pb,0,none⟩)) w:=by
 unfold ref06_Used.b18
 refine ref06_Used.l20_intro _ _ _ _ _ _ _ _ _ _ (fun x y w'=>∃(ag:Bool) (k:Nat) (out:List Bool),x = .bool ag∧y = .int .i64 k∧k≤p.2.1.length∧out.length=N∧SndM g.terms.length g.prods out∧cntF out+(if ag then 1 else 0)≤cntF ms0∧St noB W w' [boxC q 27 (.slice n1.1 g.terms.length n1.2::bx),L0.headD Ch.emp,rowC 4 1 (some ⟨o,0,none⟩) N N (boolV out),boxC pb 67 [.int .i64 p.1,.slice Ar p.2.1.length cr,.int .i64 p.2.2]]) (fun _ y _=>p.2.1.length-iv y)
  ⟨ag0,0,out0,rfl,rfl,by omega,hN,hsn,hcnt,s⟩ ?_
 rintro _ _ w1 ⟨ag,k,out,rfl,rfl,hk,hl,hsn1,hcnt1,s1⟩ C hC
 have hup:∀w' (ag':Bool) (out':List Bool),out'.length=N→SndM g.terms.length g.prods out'→cntF out'+(if ag' then 1 else 0)≤cntF ms0→k<p.2.1.length→St noB W w' [boxC q 27 (.slice n1.1 g.terms.length n1.2::bx),L0.headD Ch.emp,rowC 4 1 (some ⟨o,0,none⟩) N N (boolV out'),boxC pb 67 [.int .i64 p.1,.slice Ar p.2.1.length cr,.int .i64 p.2.2]]→ref06_Used.b23 R C6 C11 C (.bool ag') (.int .i64 k) w':=by
  intro w' ag' out' h1 h2 h3 h4 h5
  have wk:IntKind.i64.wrap ((k:Int)+1)=(k:Int)+1:=IntWalk.i64_in _ (by unfold maxLen at hrl;omega)
  unfold ref06_Used.b23
  simp -dsimp [go_sem,wk]
  exact hC _ _ _ ⟨ag',k+1,out',rfl,by simp,by omega,h1,h2,h3,h5⟩ (by simp [iv];omega)
 have y1:=(s1.box 0 rfl).1.1
 have z1:=(s1.box 3 rfl).1.2.1
 simp -dsimp [go_sem,z1]
 refine SPL_intro (fun p1=>?_) (fun p1=>?_) <;> simp at p1
 ·have s2:=s1.old ((Chg.refl noB w1).drew)
  obtain ⟨b,of,rfl,hb,ck,hin⟩:=Go.Px.ints_at (Rep.below hr (s1.chg.below hB fun _ _=>id)) p1
  have hxk:=hx p.2.1[k] (List.getElem_mem p1)
  have hpk:=hpd p.2.1[k] (List.getElem_mem p1)
  obtain ⟨s0,hs0⟩:∃s0,p.2.1[k]=s0:=⟨_,rfl⟩
  rw [hs0] at ck hxk hpk
  have ws:IntKind.i64.wrap (s0-(g.terms.length:Int))=s0-(g.terms.length:Int):=IntWalk.i64_in _ (by omega)
  unfold ref06_Used.b25
  simp -dsimp [go_sem,z1,p1,ck,y1,ws]
  refine SPL_intro (fun p2=>?_) (fun p2=>?_) <;> simp at p2
  ·obtain ⟨j,hj⟩:∃j:Nat,s0-(g.terms.length:Int)=j:=⟨(s0-(g.terms.length:Int)).toNat,by omega⟩
   have hjl:j<N:=by omega
   obtain ⟨cm,fm⟩:=bool_at s2 (k:=2) rfl (ms:=out) (j:=j) (by omega)
   rw [hj]
   unfold ref06_Used.b25_1
   simp -dsimp [go_sem,hjl,cm]
   unfold ref06_Used.b26
   cases hb':out[j]'(by omega) with
   | true =>
    simp -dsimp [go_sem]
    exact hup _ _ _ hl hsn1 hcnt1 p1 s2
   | false =>
    simp -dsimp [go_sem]
    unfold ref06_Used.b26_1
    simp -dsimp [go_sem,hjl,cm,fm]
    have s3:=bool_set s2 (k:=2) rfl (ms:=out) j true
    have hcs:=cntF_set (ms:=out) (j:=j) (by omega) hb'
    exact hup _ true (out.set j true) (by simp [hl]) (hsn1.mark (by rw [←hj,show (g.terms.length:Int)+(s0-(g.terms.length:Int))=s0 by omega];exact hpk)) (by cases ag <;> simp at hcnt1 ⊢ <;> omega) p1 s3
  ·unfold ref06_Used.b26
   simp -dsimp [go_sem]
   exact hup _ _ _ hl hsn1 hcnt1 p1 s2
 ·exact hgo _ _ _ hl hsn1 hcnt1 s1
end Go.Proofs.Ytmoepnfobnpdiaa

/-
  The document's answer for first: lay.
-/
namespace Go.Proofs.Ytmoepnfobnpdiaa
open Go.Px Go.Px.Scan Go.Px.Cn Go.RowKit
attribute [-go_sem] Builtin.append_ ref07_Begin_lay.b3 ref07_Begin_lay.b9 ref07_Begin_lay.b14 ref07_Begin_lay.b13_1 ref07_Begin_lay.b13 ref07_Begin_lay.b20 ref07_Begin_lay.b23_1 ref07_Begin_lay.b23 ref07_Begin_lay.b22_1 ref07_Begin_lay.b22 ref07_Begin_lay.b15 ref07_Begin_lay.b11
section
variable {A1 A2 A3 A4:Option Addr} {c1 c2 c3 c4 n2 n3 n4 nT mN cN mH cH bb o j:Nat} {ga:Nat→Nat} {st:Int} {G:Nat→Prop} {W w:World} {L:List Ch} {k B:Nat} {null r0:List Bool} {hs:List (List Bool)} {vr:Value} {row:List Int}
/-- What may be read while a row is laid to. -/
def LayRd (G:Nat→Prop) (W:World) (L:List Ch) (k bb o j nT mN cN mH cH:Nat) (ga:Nat→Nat) (cs:List Value) (null:List Bool) (hs:List (List Bool)) (B:Nat) (vr:Value) (row:List Int):Prop :=
 ∀w' r',r'.length=nT→St G W w' (L.set k (rowC 4 1 (some ⟨o,0,none⟩) nT nT (boolV r')))→BgAt w' bb cs nT mN cN mH cH ga null (hs.set j r')∧(rSlice rInt).at1 w' B vr row
/-- The terminals of one symbol. -/
theorem lay_in (hk:L[k]?=some (rowC 4 1 (some ⟨o,0,none⟩) nT nT (boolV r0)))
  (hrd:LayRd G W L k bb o j nT mN cN mH cH ga [.slice A1 nT c1,.slice A2 n2 c2,.slice A3 n3 c3,.int .i64 st,.slice A4 n4 c4] null hs B vr row)
  (hT:nT≤65) {s gs:Nat} {ri li:List Bool} {i:Nat} {fr0:Bool} {R:EP} {C6:Value→VP} {x1:Value}
  (hs':s<hs.length) (hri:ri.length=nT) (hli:(hs.set j ri).getD s []=li) (hjs:s=j→∀u,li.getD u false=ri.getD u false)
  (hgs:∀w' r',r'.length=nT→St G W w' (L.set k (rowC 4 1 (some ⟨o,0,none⟩) nT nT (boolV r')))→∀t,t<nT→w'.cell? ⟨gs,t,none⟩=some (.bool (((hs.set j r').getD s []).getD t false)))
  (s1:St G W w (L.set k (rowC 4 1 (some ⟨o,0,none⟩) nT nT (boolV ri)))) (hfr:fr0=false→ri=r0) (hcnt:cntF ri+(if fr0 then 1 else 0)≤cntF r0)
  (hgo:∀w' (fr:Bool) r',r'.length=nT→(∀u,u<nT→r'.getD u false=(ri.getD u false || li.getD u false))→(fr=false→r'=r0)→cntF r'+(if fr then 1 else 0)≤cntF r0→St G W w' (L.set k (rowC 4 1 (some ⟨o,0,none⟩) nT nT (boolV r'))) →
   ref07_Begin_lay.b13 R C6 (.pointer (some ⟨bb,0,none⟩)) x1 (.bool fr) (.int .i64 i) w') :
  ref07_Begin_lay.b15 R C6 (.pointer (some ⟨bb,0,none⟩)) x1 (.slice (some ⟨o,0,none⟩) nT nT) (.bool fr0) (.int .i64 i) (.slice (some ⟨gs,0,none⟩) nT nT) w:=by
 unfold ref07_Begin_lay.b15
 have hkl:=(List.getElem?_eq_some_iff.1 hk).1
 refine ref07_Begin_lay.l17_intro _ _ _ _ _ _ _ _ _ _ (fun x y w'=>∃(fr:Bool) (t:Nat) (r:List Bool),x = .bool fr∧y = .int .i64 t∧t≤nT∧r.length=nT∧(∀u,u<nT→r.getD u false=if u<t then ri.getD u false || li.getD u false else ri.getD u false)∧(fr=false→r=r0)∧cntF r+(if fr then 1 else 0)≤cntF r0∧St G W w' (L.set k (rowC 4 1 (some ⟨o,0,none⟩) nT nT (boolV r)))) (fun _ y _=>nT-iv y)
  ⟨fr0,0,ri,rfl,rfl,by omega,hri,fun u hu=>by simp,hfr,hcnt,s1⟩ ?_
 rintro _ _ w2 ⟨fr,t,r,rfl,rfl,ht,hr,hru,hfr2,hcnt2,s2⟩ C hC
 have wt:IntKind.i64.wrap ((t:Int)+1)=(t:Int)+1:=IntWalk.i64_in _ (by omega)
 simp -dsimp [go_sem]
 refine SPL_intro (fun p1=>?_) (fun p1=>?_) <;> simp at p1
 ·have hlt:=hgs w2 r hr s2 t p1
  have e1:((hs.set j r).getD s []).getD t false=li.getD t false:=by
   by_cases e:s=j
   ·rw [hjs e t]
    subst e
    rw [List.getD_eq_getElem?_getD (l:=hs.set s r),List.getElem?_set_self hs']
    have:=hru t p1
    rw [if_neg (by omega)] at this
    exact this
   ·rw [←hli]
    rw [List.getD_eq_getElem?_getD (l:=hs.set j r),List.getD_eq_getElem?_getD (l:=hs.set j ri),List.getElem?_set_ne (Ne.symm e),List.getElem?_set_ne (Ne.symm e)]
  rw [e1] at hlt
  obtain ⟨co,fo⟩:=bool_at s2 (k:=k) (by rw [List.getElem?_set_self hkl]) (ms:=r) (j:=t) (by omega)
  have hrt:r[t]'(by omega)=ri.getD t false:=by
   have:=hru t p1
   rw [if_neg (by omega),List.getD_eq_getElem?_getD,List.getElem?_eq_getElem (by omega)] at this
   exact this
  rw [hrt] at co
  obtain ⟨rb,hrt2⟩:∃b,ri.getD t false=b:=⟨_,rfl⟩
  obtain ⟨lb,hl⟩:∃b,li.getD t false=b:=⟨_,rfl⟩
  rw [hrt2] at co
  rw [hl] at hlt
  have hup:∀w' (fr':Bool) r',r'.length=nT→(∀u,u<nT→r'.getD u false=if u<t+1 then ri.getD u false || li.getD u false else ri.getD u false)→(fr'=false→r'=r0)→cntF r'+(if fr' then 1 else 0)≤cntF r0→St G W w' (L.set k (rowC 4 1 (some ⟨o,0,none⟩) nT nT (boolV r')))→ref07_Begin_lay.b20 R C6 C (.bool fr') (.int .i64 t) w':=by
   intro w' fr' r' h1 h2 h3 h4 h5
   unfold ref07_Begin_lay.b20
   simp -dsimp [go_sem,wt]
   exact hC _ _ _ ⟨fr',t+1,r',rfl,by simp,by omega,h1,h2,h3,h4,h5⟩ (by simp [iv];omega)
  have hkeep:(li.getD t false=true→ri.getD t false=true)→∀u,u<nT→r.getD u false=if u<t+1 then ri.getD u false || li.getD u false else ri.getD u false:=by
   intro h u hu
   rw [hru u hu]
   by_cases e:u=t
   ·subst e
    rw [if_neg (by omega),if_pos (by omega)]
    cases h2:li.getD u false with
    | true=>rw [h h2];rfl
    | false=>rw [Bool.or_false]
   ·by_cases e2:u<t
    ·rw [if_pos e2,if_pos (by omega)]
    ·rw [if_neg e2,if_neg (by omega)]
  unfold ref07_Begin_lay.b22
  simp -dsimp [go_sem,p1,hlt]
  cases lb with
  | false =>
   simp -dsimp [go_sem]
   unfold ref07_Begin_lay.b23
   simp -dsimp [go_sem]
   exact hup _ _ _ hr (hkeep fun h=>by rw [hl] at h;cases h) hfr2 hcnt2 s2
  | true =>
   simp -dsimp [go_sem]
   unfold ref07_Begin_lay.b22_1
   simp -dsimp [go_sem,p1,co]
   unfold ref07_Begin_lay.b23
   cases rb with
   | true =>
    simp -dsimp [go_sem]
    exact hup _ _ _ hr (hkeep fun h=>hrt2) hfr2 hcnt2 s2
   | false =>
    simp -dsimp [go_sem]
    unfold ref07_Begin_lay.b23_1
    simp -dsimp [go_sem,p1,co,fo]
    have s3:=bool_set s2 (k:=k) (by rw [List.getElem?_set_self hkl]) (ms:=r) t true
    rw [List.set_set] at s3
    have hcs:=cntF_set (ms:=r) (j:=t) (by omega) (by rw [hrt,hrt2])
    refine hup _ true (r.set t true) (by simp [hr]) (fun u hu=>?_) (fun h=>by cases h) (by cases fr <;> simp at hcnt2 ⊢ <;> omega) s3
    by_cases e:u=t
    ·subst e
     rw [if_pos (by omega),hl,List.getD_eq_getElem?_getD,List.getElem?_set_self (by omega)];simp
    ·rw [List.getD_eq_getElem?_getD,List.getElem?_set_ne (Ne.symm e),←List.getD_eq_getElem?_getD,hru u hu]
     by_cases e2:u<t
     ·rw [if_pos e2,if_pos (by omega)]
     ·rw [if_neg e2,if_neg (by omega)]
 ·have hte:t=nT:=by omega
  subst hte
  exact hgo _ _ _ hr (fun u hu=>by rw [hru u hu,if_pos hu]) hfr2 hcnt2 s2
end
end Go.Proofs.Ytmoepnfobnpdiaa

/-
  The document's answer for first: lay, whole; Of.
-/
namespace Go.Proofs.Ytmoepnfobnpdiaa
open Go.Px Go.Px.Scan Go.Px.Cn Go.RowKit
attribute [-go_sem] Builtin.append_ ref07_Begin_lay.b3 ref07_Begin_lay.b9 ref07_Begin_lay.b14 ref07_Begin_lay.b13_1 ref07_Begin_lay.b13 ref07_Begin_lay.b20 ref07_Begin_lay.b23_1 ref07_Begin_lay.b23 ref07_Begin_lay.b22_1 ref07_Begin_lay.b22 ref07_Begin_lay.b15 ref07_Begin_lay.b11 ref07_Begin_Of.b1_1
section
variable {A1 A2 A3 A4:Option Addr} {c1 c2 c3 c4 n2 n3 n4 nT mN cN mH cH bb o j:Nat} {ga:Nat→Nat} {st:Int} {G:Nat→Prop} {W w:World} {L:List Ch} {k B:Nat} {null r0:List Bool} {hs:List (List Bool)} {vr:Value} {row:List Int}
theorem lay_ct (hk:L[k]?=some (rowC 4 1 (some ⟨o,0,none⟩) nT nT (boolV r0))) (s:St G W w L)
  (hrd:LayRd G W L k bb o j nT mN cN mH cH ga [.slice A1 nT c1,.slice A2 n2 c2,.slice A3 n3 c3,.int .i64 st,.slice A4 n4 c4] null hs B vr row)
  (hr0:r0.length=nT) (hj:∀h:j<hs.length,hs[j]=r0) (hnc:null.length≤cN) (hhc:hs.length≤cH) (hT:nT≤65) (hN:null.length≤1000) (hx:∀x∈row,0≤x∧x<hs.length∧x<nT+null.length) :
  Ct Try.prog ref07_Begin_lay.id #[.pointer (some ⟨bb,0,none⟩),vr,.slice (some ⟨o,0,none⟩) nT nT] w fun v w'=>∃(fr:Bool) (r':List Bool),v = .bool fr∧r'.length=nT∧(∀u,u<nT→r'.getD u false=(r0.getD u false || fstB nT null hs row u))∧(fr=false→r'=r0)∧cntF r'+(if fr then 1 else 0)≤cntF r0 ∧
   St G W w' (L.set k (rowC 4 1 (some ⟨o,0,none⟩) nT nT (boolV r'))):=by
 refine ref07_Begin_lay.ct fun R hR=>?_
 have hkl:=(List.getElem?_eq_some_iff.1 hk).1
 have hLk:L.set k (rowC 4 1 (some ⟨o,0,none⟩) nT nT (boolV r0))=L:=by
  rw [←(List.getElem?_eq_some_iff.1 hk).2,List.set_getElem_self]
 have s0:St G W w (L.set k (rowC 4 1 (some ⟨o,0,none⟩) nT nT (boolV r0))):=by rw [hLk];exact s
 obtain ⟨A,c,rfl,hl,hm,_⟩:=slice_form (hrd w r0 hr0 s0).2
 unfold ref07_Begin_lay.run
 simp -dsimp [go_sem]
 refine ref07_Begin_lay.l6_intro _ _ _ _ _ _ _ (fun x y w'=>∃(fr:Bool) (i:Nat) (r:List Bool),x = .bool fr∧y = .int .i64 i∧i≤row.length∧r.length=nT∧(row.take i).all (vanS nT null)=true∧(∀u,u<nT→r.getD u false=(r0.getD u false || fstB nT null hs (row.take i) u))∧(fr=false→r=r0)∧cntF r+(if fr then 1 else 0)≤cntF r0∧St G W w' (L.set k (rowC 4 1 (some ⟨o,0,none⟩) nT nT (boolV r)))) (fun _ y _=>row.length-iv y)
  ⟨false,0,r0,rfl,rfl,by omega,hr0,by simp,fun u hu=>by simp [fstB],by simp,by simp,s0⟩ ?_
 rintro _ _ w2 ⟨fr,i,ri,rfl,rfl,hi,hri,hall,hru,hfr,hcnt,s2⟩ C hC
 simp -dsimp [go_sem]
 refine SPL_intro (fun p1=>?_) (fun p1=>?_) <;> simp at p1
 ·have wi:IntKind.i64.wrap ((i:Int)+1)=(i:Int)+1:=wrap_succ p1 (by omega)
  obtain ⟨hbg,hrow⟩:=hrd w2 ri hri s2
  obtain ⟨b,of,rfl,hb,ck,hin⟩:=Go.Px.ints_at hrow p1
  have hxi:=hx row[i] (List.getElem_mem p1)
  have et:row.take (i+1)=row.take i++[row[i]]:=List.take_succ_eq_append_getElem p1
  have edr:row=row.take i++row[i]::row.drop (i+1):=by rw [←List.drop_eq_getElem_cons p1,List.take_append_drop]
  obtain ⟨x,hxe⟩:∃x,row[i]=x:=⟨_,rfl⟩
  rw [hxe] at ck hxi et edr
  obtain ⟨sx,hsx⟩:∃n:Nat,x=n:=⟨x.toNat,by omega⟩
  subst hsx
  have hsl:sx<hs.length:=by omega
  have hsl':sx<(hs.set j ri).length:=by simpa using hsl
  obtain ⟨hgc,hgt⟩:=hbg.has sx hsl'
  have s3:=s2.old ((Chg.refl noB w2).drew)
  have hfst:∀u,fstB nT null hs (row.take (i+1)) u=(fstB nT null hs (row.take i) u || (hs.getD sx []).getD u false):=fun u=>by
   rw [et,fstB_one,hall,Bool.true_and];rfl
  have hjs:sx=j→∀u,((hs.set j ri).getD sx []).getD u false=ri.getD u false:=fun e u=>by
   subst e
   rw [List.getD_eq_getElem?_getD (l:=hs.set sx ri),List.getElem?_set_self hsl];rfl
  have hlo:∀u,u<nT→(ri.getD u false || ((hs.set j ri).getD sx []).getD u false)=(r0.getD u false || fstB nT null hs (row.take (i+1)) u):=fun u hu=>by
   rw [hfst u]
   by_cases e:sx=j
   ·rw [hjs e u,Bool.or_self,hru u hu]
    subst e
    have h9:hs.getD sx []=r0:=by
     have:=hj hsl
     rw [List.getD_eq_getElem?_getD,List.getElem?_eq_getElem hsl,this];rfl
    rw [h9]
    cases r0.getD u false <;> cases fstB nT null hs (row.take i) u <;> rfl
   ·rw [List.getD_eq_getElem?_getD (l:=hs.set j ri),List.getElem?_set_ne (Ne.symm e),←List.getD_eq_getElem?_getD,hru u hu,Bool.or_assoc]
  have hgs:∀w' r',r'.length=nT→St G W w' (L.set k (rowC 4 1 (some ⟨o,0,none⟩) nT nT (boolV r')))→∀t,t<nT→w'.cell? ⟨ga sx,t,none⟩=some (.bool (((hs.set j r').getD sx []).getD t false)):=by
   intro w' r' h1 h2
   exact ((hrd w' r' h1 h2).1.has sx (by simpa using hsl)).2
  have bx:=hbg.box
  simp [boxAt] at bx
  unfold ref07_Begin_lay.b11
  simp -dsimp [go_sem,p1,ck,bx,hsl,hgc]
  refine lay_in hk hrd hT hsl hri rfl hjs hgs s3 hfr hcnt fun w3 fr3 r3 h1 h2 h3 h4 s4=>?_
  have h2':∀u,u<nT→r3.getD u false=(r0.getD u false || fstB nT null hs (row.take (i+1)) u):=fun u hu=>by rw [h2 u hu,hlo u hu]
  obtain ⟨hbg4,hrow4⟩:=hrd w3 r3 h1 s4
  obtain ⟨b4,of4,e4,_,ck4,_⟩:=Go.Px.ints_at hrow4 p1
  injection e4 with e4;injection e4 with e4a e4b
  subst e4a e4b
  rw [hxe] at ck4
  have bx4:=hbg4.box
  simp [boxAt] at bx4
  have s5:=s4.old ((Chg.refl noB w3).drew)
  have hstop:vanS nT null sx=false→∀u,u<nT→r3.getD u false=(r0.getD u false || fstB nT null hs row u):=fun hv u hu=>by
   rw [h2' u hu,et]
   conv=>rhs;rw [edr,fstB_app,fstB,hv,Bool.false_and,Bool.or_false]
   rw [fstB_one]
  unfold ref07_Begin_lay.b13
  simp -dsimp [go_sem,p1,ck4,bx4]
  refine SPL_intro (fun p2=>?_) (fun p2=>?_) <;> simp at p2
  ·have hv:vanS nT null sx=false:=by unfold vanS;rw [decide_eq_false (by omega)];rfl
   unfold ref07_Begin_lay.b14
   simp -dsimp [go_sem]
   unfold ref07_Begin_lay.b3
   exact hR _ _ ⟨fr3,r3,rfl,h1,hstop hv,h3,h4,s5⟩
  ·have hjn:(sx:Int)-(nT:Int)=((sx-nT:Nat):Int):=by omega
   have hjl:sx-nT<null.length:=by omega
   have wj:IntKind.i64.wrap ((sx:Int)-(nT:Int))=((sx-nT:Nat):Int):=by rw [hjn];exact IntWalk.i64_in _ (by omega)
   have cm:=hbg4.nul _ hjl
   obtain ⟨nb,hnb⟩:∃b,null[sx-nT]=b:=⟨_,rfl⟩
   rw [hnb] at cm
   have hok:vanS nT null sx=nb:=by
    unfold vanS
    rw [decide_eq_true (by omega),hjn,Bool.true_and,Int.toNat_natCast,List.getD_eq_getElem?_getD,List.getElem?_eq_getElem hjl,hnb];rfl
   unfold ref07_Begin_lay.b13_1
   simp -dsimp [go_sem,p1,ck4,bx4,wj,hjl,cm]
   unfold ref07_Begin_lay.b14
   cases nb with
   | true =>
    simp -dsimp [go_sem]
    unfold ref07_Begin_lay.b9
    simp -dsimp [go_sem,wi]
    exact hC _ _ _ ⟨fr3,i+1,r3,rfl,by simp,by omega,h1,by rw [et,List.all_append,hall];simp [hok],h2',h3,h4,s5⟩ (by simp [iv];omega)
   | false =>
    simp -dsimp [go_sem]
    unfold ref07_Begin_lay.b3
    exact hR _ _ ⟨fr3,r3,rfl,h1,hstop hok,h3,h4,s5⟩
 ·have:i=row.length:=by omega
  subst this
  rw [List.take_length] at hru
  unfold ref07_Begin_lay.b3
  exact hR _ _ ⟨fr,ri,rfl,hri,hru,hfr,hcnt,s2⟩
theorem Of_ct {W w:World} (hW:Chg noB W w) (hb:∀w',Chg noB W w'→BgAt w' bb [.slice A1 nT c1,.slice A2 n2 c2,.slice A3 n3 c3,.int .i64 st,.slice A4 n4 c4] nT mN cN mH cH ga null hs)
  (hrow:(rSlice rInt).at1 w B vr row) (hB:B≤w.heap.size) (hnc:null.length≤cN) (hhc:hs.length≤cH) (hT:nT≤65) (hN:null.length≤1000) (hx:∀x∈row,0≤x∧x<hs.length∧x<nT+null.length) :
  Ct Try.prog ref07_Begin_Of.id #[.pointer (some ⟨bb,0,none⟩),vr] w fun v w'=>∃(o:Nat) (out:List Bool),v = .tuple #[.slice (some ⟨o,0,none⟩) nT nT,.bool (row.all (vanS nT null))]∧out.length=nT∧(∀u,u<nT→out.getD u false=fstB nT null hs row u)∧St noB w w' [rowC 4 1 (some ⟨o,0,none⟩) nT nT (boolV out)]:=by
 refine ref07_Begin_Of.ct fun R hR=>?_
 have hb':∀w',Chg noB w w'→BgAt w' bb [.slice A1 nT c1,.slice A2 n2 c2,.slice A3 n3 c3,.int .i64 st,.slice A4 n4 c4] nT mN cN mH cH ga null hs:=fun w' hc=>hb w' (hW.trans hc)
 have bx:=(hb' w (Chg.refl _ _)).box
 simp [boxAt] at bx
 have s1:=(St.refl noB w).lit 4 1 nT (Array.replicate nT (Value.bool false)) (by unfold maxLen;omega) (by simp)
 have e0:(Array.replicate nT (Value.bool false)).toList=boolV (List.replicate nT false):=by simp [boolV]
 rw [e0] at s1
 have hmk:=mkFlags w nT (by unfold maxBytes;omega)
 generalize w.alloc (.cells (Array.replicate nT (Value.bool false)) 4)=w1 at s1 hmk
 generalize how:w.heap.size=o at s1 hmk hB
 unfold ref07_Begin_Of.run
 simp -dsimp [go_sem,bx,hmk]
 have hset:hs.set hs.length (List.replicate nT false)=hs:=List.set_eq_of_length_le (Nat.le_refl _)
 refine CALL_of (lay_ct (L:=[rowC 4 1 (some ⟨o,0,none⟩) nT nT (boolV (List.replicate nT false))]) (k:=0) (G:=noB) (W:=w) (j:=hs.length) (bb:=bb) (mN:=mN) (cN:=cN) (mH:=mH) (cH:=cH) (null:=null) (hs:=hs) (ga:=ga) (B:=B) (row:=row) (A1:=A1) (c1:=c1) (A2:=A2) (c2:=c2) (n2:=n2) (A3:=A3) (c3:=c3) (n3:=n3) (A4:=A4) (c4:=c4) (n4:=n4) (st:=st) rfl s1 (fun w' r' h1 h2=>?_) (by simp) (fun h=>absurd h (Nat.lt_irrefl _)) hnc hhc hT hN hx) ?_
 ·rw [List.set_eq_of_length_le (Nat.le_refl _)]
  exact ⟨hb' w' h2.chg,Rep.below hrow (h2.chg.below (by omega) fun _ _=>id)⟩
 ·rintro _ w2 ⟨fr,out,rfl,hlo,hu,_,_,s2⟩
  have s2:St noB w w2 [rowC 4 1 (some ⟨o,0,none⟩) nT nT (boolV out)]:=s2
  have hb2:=hb' w2 s2.chg
  have bx2:=hb2.box
  simp [boxAt] at bx2
  unfold ref07_Begin_Of.b1_1
  simp -dsimp [go_sem,bx2]
  have s3:=s2.old ((Chg.refl noB w2).drew)
  have hb3:=hb' _ s3.chg
  refine CALL_of (vanishes_ct hnc hb3.nul (Rep.below hrow (s3.chg.below (by omega) fun _ _=>id)) (by have:=s3.chg.size;omega) hT hN fun x hx'=>(hx x hx').2.2) ?_
  rintro _ w3 ⟨rfl,hc3⟩
  refine hR _ _ ⟨o,out,rfl,hlo,fun u hu'=>?_,s3.old hc3⟩
  rw [hu u hu',List.getD_eq_getElem?_getD,List.getElem?_replicate,if_pos hu'];simp
end
end Go.Proofs.Ytmoepnfobnpdiaa

/-
  The document's answer for first: Null.
-/
namespace Go.Px.Cn
open Go.Px Go.Px.Scan
def ClN (nT:Nat) (null:List Bool) (p:Int×List Int×Int):Prop:=p.2.1.all (vanS nT null)=true→vanS nT null p.1=true
end Go.Px.Cn
namespace Go.Proofs.Ytmoepnfobnpdiaa
open Go.Px Go.Px.Scan Go.Px.Cn Go.RowKit
attribute [-go_sem] Builtin.append_ ref07_Null.b3 ref07_Null.b13 ref07_Null.b12_1 ref07_Null.b12_2 ref07_Null.b12_3 ref07_Null.b9 ref07_Null.b4
theorem Null_ct {w:World} {B:Nat} {vg:Value} {g:Gr} (hg:rGram.atN w B vg g) (hB:B≤w.heap.size) (hcl:ClosedP g) :
  Ct Try.prog ref07_Null.id #[vg] w fun v w'=>∃m ms,v = .slice (some ⟨m,0,none⟩) ms.length ms.length∧ms.length=g.nons.length∧St noB w w' [rowC 4 1 (some ⟨m,0,none⟩) ms.length ms.length (boolV ms)]∧∀p∈g.prods,ClN g.terms.length ms p:=by
 refine ref07_Null.ct fun R hR=>?_
 obtain ⟨A1,c1,A2,c2,A3,c3,A4,c4,rfl,⟨m1,m2,m3,m4⟩,hst,hc0,hgr⟩:=box_all hg hB
 have hr4:(rSlice rPr).at1 w B (.slice A4 g.prods.length c4) g.prods:=by obtain ⟨_,_,_,_,_,_,_,_,e,_,_,_,_,h5,_⟩:=(rGram_open hg).ex;injection e with e;injection e with e;simp at e;rw [e.2.2.2.1,e.2.2.2.2];exact h5
 have hT:=hcl.syms.t1
 have hN:=hcl.syms.n1
 have s1:=(St.refl noB w).alloc #[.slice A1 g.terms.length c1,.slice A2 g.nons.length c2,.slice A3 g.levels.length c3,.int .i64 g.start,.slice A4 g.prods.length c4] 27
 unfold ref07_Null.run
 simp -dsimp [go_sem]
 generalize w.alloc (.cells #[.slice A1 g.terms.length c1,.slice A2 g.nons.length c2,.slice A3 g.levels.length c3,.int .i64 g.start,.slice A4 g.prods.length c4] 27)=w1 at s1 hc0 hgr ⊢
 generalize w.heap.size=q at s1 hgr ⊢
 have y1:=(hgr w1 (Chg.refl _ _)).k
 have s2:=s1.lit 4 1 g.nons.length (Array.replicate g.nons.length (Value.bool false)) (by unfold maxLen;omega) (by simp)
 simp -dsimp [go_sem,y1,mkFlags w1 g.nons.length (by unfold maxBytes;omega)]
 have e0:(Array.replicate g.nons.length (Value.bool false)).toList=boolV (List.replicate g.nons.length false):=by simp [boolV]
 rw [e0] at s2
 generalize w1.alloc (.cells (Array.replicate g.nons.length (Value.bool false)) 4)=w2 at s2 ⊢
 generalize w1.heap.size=m at s2 ⊢
 obtain ⟨N,hNe⟩:∃N,g.nons.length=N:=⟨_,rfl⟩
 rw [hNe] at s2 hg ⊢
 obtain ⟨CB,hCB⟩:∃CB,boxC q 27 [.slice A1 g.terms.length c1,.slice A2 N c2,.slice A3 g.levels.length c3,.int .i64 g.start,.slice A4 g.prods.length c4]=CB:=⟨_,rfl⟩
 have s2':St noB w w2 [CB,rowC 4 1 (some ⟨m,0,none⟩) N N (boolV (List.replicate N false))]:=by rw [←hCB];exact s2
 let J:Value→World→Nat→Prop:=fun y w' f=>∃(ag:Bool) (ms:List Bool),y = .bool ag∧ms.length=N∧(ag=false→∀p∈g.prods,ClN g.terms.length ms p)∧St noB w w' [CB,rowC 4 1 (some ⟨m,0,none⟩) N N (boolV ms)]∧f=2*cntF ms+(if ag then 1 else 0)
 unfold ref07_Null.b4
 refine ref07_Null.l6_intro _ _ _ _ _ (fun y w'=>∃f,J y w' f) (fun y w'=>muOf (J y) w') ⟨_,true,List.replicate N false,rfl,by simp,by simp,s2',rfl⟩ ?_
 rintro y3 w3 hJ C hC
 have hJm:=muOf_at hJ
 have hfin:∀y4 w4 f,J y4 w4 f→f<muOf (J y3) w3→C y4 w4:=fun y4 w4 f h1 h2=>hC _ _ ⟨f,h1⟩ (Nat.lt_of_le_of_lt (muOf_le h1) h2)
 obtain ⟨ag,ms0,rfl,hl0,hag,s3,hf⟩:=hJm
 rw [hf] at hfin
 clear hf hC hJ s2 s2'
 cases ag with
 | false =>
  simp -dsimp [go_sem]
  unfold ref07_Null.b3
  exact hR _ _ ⟨m,ms0,by rw [hl0],hl0.trans hNe.symm,by rw [hl0];exact s3.pick [1] (by simp) rfl,hag rfl⟩
 | true =>
 simp -dsimp [go_sem]
 unfold ref07_Null.b9
 refine ref07_Null.l11_intro _ _ _ _ _ _ _ (fun x y w'=>∃(ag:Bool) (i:Nat) (ms:List Bool),x = .bool ag∧y = .int .i64 i∧i≤g.prods.length∧ms.length=N∧(ag=false→∀p∈g.prods.take i,ClN g.terms.length ms p)∧St noB w w' [CB,rowC 4 1 (some ⟨m,0,none⟩) N N (boolV ms)]∧cntF ms+(if ag then 1 else 0)≤cntF ms0) (fun _ y _=>g.prods.length-iv y)
  ⟨false,0,ms0,rfl,rfl,by omega,hl0,by simp,s3,by simp⟩ ?_
 rintro _ _ w4 ⟨ag,i,ms,rfl,rfl,hi,hl,hcl4,s4,hcnt⟩ D hD
 have wi:IntKind.i64.wrap ((i:Int)+1)=(i:Int)+1:=IntWalk.i64_in _ (by have:=hcl.prods.c1;omega)
 have y4:=s4.box 0 (by rw [←hCB];rfl)
 simp [boxAt] at y4
 simp -dsimp [go_sem,y4]
 refine SPL_intro (fun p1=>?_) (fun p1=>?_) <;> simp at p1
 ·obtain ⟨b,o,vr,rfl,hb,x1,x2,x3,hr,_⟩:=prods_at (Rep.below hr4 (s4.chg.below hB fun _ _=>id)) p1
  have hx:=hcl.syms' g.prods[i] (List.getElem_mem p1)
  have et:g.prods.take (i+1)=g.prods.take i++[g.prods[i]]:=List.take_succ_eq_append_getElem p1
  obtain ⟨j,hj⟩:∃j:Nat,g.prods[i].1-(g.terms.length:Int)=j:=⟨(g.prods[i].1-(g.terms.length:Int)).toNat,by omega⟩
  have hjl:j<N:=by omega
  have wj:IntKind.i64.wrap (g.prods[i].1-(g.terms.length:Int))=(j:Int):=by rw [hj];exact IntWalk.i64_in _ (by omega)
  obtain ⟨nb,hnb⟩:∃b,ms[j]'(by omega)=b:=⟨_,rfl⟩
  have hok:vanS g.terms.length ms g.prods[i].1=nb:=by
   unfold vanS
   rw [decide_eq_true (by omega),hj,Bool.true_and,Int.toNat_natCast,List.getD_eq_getElem?_getD,List.getElem?_eq_getElem (by omega),hnb];rfl
  have hgo:∀w' (ag':Bool) (ms':List Bool),ms'.length=N→(ag'=false→∀p∈g.prods.take (i+1),ClN g.terms.length ms' p)→St noB w w' [CB,rowC 4 1 (some ⟨m,0,none⟩) N N (boolV ms')]→cntF ms'+(if ag' then 1 else 0)≤cntF ms0→ref07_Null.b13 R C D (.bool ag') (.int .i64 i) w':=by
   intro w' ag' ms' h1 h2 h3 h4
   unfold ref07_Null.b13
   simp -dsimp [go_sem,wi]
   exact hD _ _ _ ⟨ag',i+1,ms',rfl,by simp,by omega,h1,h2,h3,h4⟩ (by simp [iv];omega)
  obtain ⟨Ar,cr,rfl,hrl,hrm,_⟩:=slice_form hr
  obtain ⟨cm,fm⟩:=bool_at s4 (k:=1) rfl (ms:=ms) (j:=j) (by omega)
  rw [hnb] at cm
  have s5:=s4.old ((Chg.refl noB w4).drew)
  unfold ref07_Null.b12_3
  simp -dsimp [go_sem,y4,p1,x1,x2,x3,wj,hjl,cm]
  have hadd:(ag=false→ClN g.terms.length ms g.prods[i])→ag=false→∀p∈g.prods.take (i+1),ClN g.terms.length ms p:=by
   intro h0 h p hp
   rw [et] at hp
   rcases List.mem_append.1 hp with hp | hp
   ·exact hcl4 h p hp
   ·simp at hp;subst hp;exact h0 h
  cases nb with
  | true =>
   simp -dsimp [go_sem]
   exact hgo _ ag ms hl (hadd fun _ _=>hok) s5 hcnt
  | false =>
   simp -dsimp [go_sem]
   unfold ref07_Null.b12_2
   simp -dsimp [go_sem,y4,p1,x1,x2,x3]
   have s5:=s5.old ((Chg.refl noB w4.drew).drew)
   have hrd:=Rep.below hr ((Chg.refl noB w4).drew.drew.below (by have:=s4.chg.size;omega) fun _ _=>id)
   have hct:=vanishes_ct (A1:=A1) (nT:=g.terms.length) (c1:=c1) (A2:=A2) (n2:=N) (c2:=c2) (A3:=A3) (n3:=g.levels.length) (c3:=c3) (st:=g.start) (A4:=some ⟨b,o,none⟩) (n4:=g.prods.length) (c4:=c4) (w:=w4.drew.drew) (m:=m) (cN:=N) (null:=ms) (row:=g.prods[i].2.1) (by omega) (fun i h=>(bool_at s5 (k:=1) rfl (ms:=ms) (j:=i) h).1) hrd (by have:=s5.chg.size;omega) hT (by omega) (fun x hx2=>by have:=(hx.2 x hx2).2;omega)
   rw [hl] at hct
   refine CALL_of hct ?_
   rintro _ w6 ⟨rfl,hc6⟩
   have s6:=s5.old hc6
   cases hfit:g.prods[i].2.1.all (vanS g.terms.length ms) with
   | false =>
    simp -dsimp [go_sem]
    exact hgo _ ag ms hl (hadd fun _ h=>by rw [hfit] at h;cases h) s6 hcnt
   | true =>
    obtain ⟨cm6,fm6⟩:=bool_at s6 (k:=1) rfl (ms:=ms) (j:=j) (by omega)
    simp -dsimp [go_sem]
    unfold ref07_Null.b12_1
    simp -dsimp [go_sem,hjl,cm6,fm6]
    have s7:=bool_set s6 (k:=1) rfl (ms:=ms) j true
    have hcs:=cntF_set (ms:=ms) (j:=j) (by omega) hnb
    exact hgo _ true (ms.set j true) (by simp [hl]) (fun h=>by cases h) s7 (by cases ag <;> simp at hcnt ⊢ <;> omega)
 ·have hie:i=g.prods.length:=by omega
  subst hie
  rw [List.take_length] at hcl4
  refine hfin _ _ _ ⟨ag,ms,rfl,hl,hcl4,s4,rfl⟩ ?_
  cases ag <;> simp at hcnt ⊢ <;> omega
end Go.Proofs.Ytmoepnfobnpdiaa

/-
  lr0: intern.
-/
namespace Go.Px
/-- A piece is laid to several. -/
theorem St.into {G:Nat→Prop} {W w:World} {L L':List Ch} (h:St G W w L) (j k:Nat) {c:Ch} (hj:L[j]?=some c) (hk:L[k]?=some (Ch.all L')) (hjk:j≠k):St G W w ((L.set j Ch.emp).set k (Ch.all (L'++[c]))):=by
 obtain ⟨hc,T,ht,hL⟩:=h
 obtain ⟨T',ht',hL'⟩:=hL k _ hk
 refine ⟨hc,fun i=>if T i=j+1 then k+1 else T i,fun i hi=>?_,fun n x hn=>?_⟩
 ·by_cases e:T i=j+1
  ·exact ht i (by omega)
  ·dsimp only at hi;rw [if_neg e] at hi;exact ht i hi
 ·rw [List.getElem?_set] at hn
  by_cases e1:k=n
  ·subst e1
   have hkl:=(List.getElem?_eq_some_iff.1 hk).1
   rw [if_pos rfl,if_pos (by simpa using hkl)] at hn
   injection hn with hn;subst hn
   refine ⟨fun i=>if T i=j+1 then L'.length+1 else if T i=k+1 then T' i else 0,fun i hi=>?_,fun m d hd=>?_⟩
   ·by_cases e2:T i=j+1
    ·exact ⟨by dsimp only;rw [if_pos e2],(ht i (by omega)).2⟩
    ·dsimp only at hi;rw [if_neg e2] at hi
     by_cases e3:T i=k+1
     ·rw [if_pos e3] at hi
      exact ⟨by dsimp only;rw [if_neg e2];exact e3,(ht' i hi).2⟩
     ·rw [if_neg e3] at hi;exact absurd rfl hi
   ·by_cases hm:m<L'.length
    ·rw [List.getElem?_append_left hm] at hd
     refine d.keep (X:=noB) (hL' m d hd) (Chg.refl _ _) (fun _ _ _=>id) fun i _ e4=>?_
     have h3:=(ht' i (by omega)).1
     show (if T i=j+1 then L'.length+1 else if T i=k+1 then T' i else 0)=m+1
     rw [if_neg (by omega),if_pos h3];exact e4
    ·rw [List.getElem?_append_right (by omega)] at hd
     have hm0:m=L'.length:=by
      have:=(List.getElem?_eq_some_iff.1 hd).1;simp at this;omega
     subst hm0
     simp at hd
     subst hd
     refine Ch.keep _ (X:=noB) (hL j _ hj) (Chg.refl _ _) (fun _ _ _=>id) fun i _ e4=>?_
     show (if T i=j+1 then L'.length+1 else if T i=k+1 then T' i else 0)=L'.length+1
     rw [if_pos e4]
  ·rw [if_neg e1,List.getElem?_set] at hn
   by_cases e2:j=n
   ·subst e2
    have hjl:=(List.getElem?_eq_some_iff.1 hj).1
    rw [if_pos rfl,if_pos hjl] at hn
    injection hn with hn
    subst hn;trivial
   ·rw [if_neg e2] at hn
    refine x.keep (X:=noB) (hL n x hn) (Chg.refl _ _) (fun _ _ _=>id) fun i hi e=>?_
    dsimp only;rw [if_neg (by omega)];exact e
end Go.Px
namespace Go.Px.Cn
open Go.Px
/-- A state: where its kernel is, the kernel, its edges. -/
abbrev SR:=Addr×Nat×List It×Value
def kerV (x:SR):Value := .slice (some x.1) x.2.2.1.length x.2.1
def stV (x:SR):List Value:=[kerV x,x.2.2.2]
def fK (K:List SR) (s:ByteArray):Option Value:=(K.findIdx? fun x=>decide (BA (keyB x.2.2.1)=s)).map fun j=>Value.int .i64 ((j:Int)+1)
/-- The table in which kernels are interned. -/
def tabL (P:Program) (tb:Nat) (Ast:Option Addr) (cst:Nat) (vat:Value) (m:Nat) (asked:Int) (K:List SR):List Ch :=
 [boxC tb 54 [.slice Ast K.length cst,.int .i64 asked,.int .i64 K.length,vat],mapVC P kStr 9 vat m (fK K),rowC 48 2 Ast K.length cst (K.flatMap stV),Ch.all (K.map fun x=>qC 2 x.1 x.2.2.1.length x.2.1 (x.2.2.1.flatMap itV))]
theorem keyB_len (l:List It):(keyB l).length=l.length*3:=by
 induction l with
 | nil=>rfl
 | cons x r ih =>
  unfold keyB at ih ⊢
  rw [List.flatMap_cons,List.length_append,ih,List.length_cons];simp;omega
/-- Kernels whose keys tell them apart. -/
def Sml (l:List It):Prop:=∀x∈l,x.1<256∧x.2<65536
theorem fK_none {K:List SR} {l:List It} (hK:∀x∈K,Sml x.2.2.1) (hl:Sml l) (h:∀x∈K,x.2.2.1≠l):fK K (BA (keyB l))=none:=by
 unfold fK
 rw [List.findIdx?_eq_none_iff.2]
 ·rfl
 ·intro x hx
  rw [decide_eq_false]
  intro e
  exact h x hx (keyB_inj (hK x hx) hl (BA_inj e))
theorem fK_some {K:List SR} {l:List It} (hK:∀x∈K,Sml x.2.2.1) (hl:Sml l) {j:Nat} {x:SR} (hj:K[j]?=some x) (hx:x.2.2.1=l) (hnd:(K.map fun x=>x.2.2.1).Nodup):fK K (BA (keyB l))=some (.int .i64 ((j:Int)+1)):=by
 unfold fK
 have hjl:=(List.getElem?_eq_some_iff.1 hj).1
 have e:K.findIdx? (fun x=>decide (BA (keyB x.2.2.1)=BA (keyB l)))=some j:=by
  rw [List.findIdx?_eq_some_iff_getElem]
  refine ⟨hjl,by rw [(List.getElem?_eq_some_iff.1 hj).2,hx];simp,fun i hi=>?_⟩
  have hil:i<K.length:=by omega
  have:K[i].2.2.1≠l:=fun e=>by
   have h9:=(List.pairwise_iff_getElem.1 hnd) i j (by simpa using hil) (by simpa using hjl) hi
   simp only [List.getElem_map] at h9
   rw [e,(List.getElem?_eq_some_iff.1 hj).2,hx] at h9
   exact h9 rfl
  simp only [decide_eq_true_eq]
  exact fun e=>this (keyB_inj (hK _ (List.getElem_mem hil)) hl (BA_inj e))
 rw [e];rfl
theorem fK_snoc {K:List SR} {y:SR} (hK:∀x∈K,Sml x.2.2.1) (hy:Sml y.2.2.1) (h:∀x∈K,x.2.2.1≠y.2.2.1):fK (K++[y]) (BA (keyB y.2.2.1))=some (.int .i64 ((K.length:Int)+1))∧∀s,s≠BA (keyB y.2.2.1)→fK (K++[y]) s=fK K s:=by
 refine ⟨?_,fun s hs=>?_⟩
 ·unfold fK
  have e:(K++[y]).findIdx? (fun x=>decide (BA (keyB x.2.2.1)=BA (keyB y.2.2.1)))=some K.length:=by
   rw [List.findIdx?_eq_some_iff_getElem]
   refine ⟨by simp,by simp,fun i hi=>?_⟩
   rw [List.getElem_append_left hi]
   simp only [decide_eq_true_eq]
   exact fun e=>h _ (List.getElem_mem hi) (keyB_inj (hK _ (List.getElem_mem hi)) hy (BA_inj e))
  rw [e];rfl
 ·unfold fK
  rw [List.findIdx?_append]
  have:List.findIdx? (fun x:SR=>decide (BA (keyB x.2.2.1)=s)) [y]=none:=by
   rw [List.findIdx?_eq_none_iff]
   intro x hx
   rw [List.mem_singleton] at hx;subst hx
   exact decide_eq_false fun e=>hs e.symm
  rw [this]
  simp
end Go.Px.Cn
namespace Go.Proofs.Ytmoepnfobnpdiaa
open Go.Px Go.Px.Scan Go.Px.Cn Go.RowKit
attribute [-go_sem] Builtin.append_ lr0_table_intern.b3 lr0_table_intern.b5_1 lr0_table_intern.b5 lr0_table_intern.b4_1 lr0_table_intern.b4
theorem mAt:MapTv Try.prog kStr 52 9 3 (.int .i64 0) where
 tm:=Try.underlying52
 keyed:=Maps.string_keyed Try.underlying9
 key a ha:=mStr.key a ha
 zero w:=Try.zeroValue3 w
theorem uStates:Try.prog.underlying 28=some (.slice 48):=Try.underlying28
theorem iState:(Try.prog.info? 48).map (fun i=>(i.zero,i.size,i.bytes))=some (some (.agg #[.slice none 0 0,.slice none 0 0]),2,48):=by kernel_rfl
theorem bState (a:Option Addr) (n c:Nat) (w:World):(Instr.build 48 #[(0,.slice a n c)]).run Try.prog w = .ok (.agg #[.slice a n c,.slice none 0 0]) w:=by simp [go_sem]
attribute [go_sem ↓] bState
theorem intern_ct {G:Nat→Prop} {W w:World} {M:List Ch} {tb:Nat} {Ast:Option Addr} {cst:Nat} {vat:Value} {m:Nat} {asked:Int} {K:List SR} {jm:Nat} {a:Addr} {c:Nat} {l:List It}
  (s:St G W w (tabL Try.prog tb Ast cst vat m asked K++M)) (hM:M[jm]?=some (qC 2 a l.length c (l.flatMap itV))) (hK:∀x∈K,Sml x.2.2.1) (hKne:∀x∈K,x.2.2.1≠[]) (hnd:(K.map fun x=>x.2.2.1).Nodup) (hl:Sml l) (hne:l≠[]) (hll:l.length≤1000000) (hm:m≤100000000) (hKl:K.length≤1000) :
  Ct Try.prog lr0_table_intern.id #[.pointer (some ⟨tb,0,none⟩),.slice (some a) l.length c] w fun v w'=>∃(Ast':Option Addr) (cst' m':Nat) (asked':Int) (K':List SR),m'≤m+1∧(∃j:Nat,v = .int .i64 j)∧St G W w' (tabL Try.prog tb Ast' cst' vat m' asked' K'++M.set jm Ch.emp) ∧
   ((K'=K∧∃x∈K,x.2.2.1=l)∨(K'=K++[(a,c,l,.slice none 0 0)]∧∀x∈K,x.2.2.1≠l)):=by
 refine lr0_table_intern.ct fun R hR=>?_
 have y1:=(s.box 0 rfl).1
 have f1:=(s.box 0 rfl).2.1
 have y11:=y1.2.1
 have s2:=s.set 0 rfl 1 (.int .i64 (IntKind.i64.wrap (asked+1)))
 obtain ⟨asked',hasked⟩:∃q,IntKind.i64.wrap (asked+1)=q:=⟨_,rfl⟩
 unfold lr0_table_intern.run
 simp -dsimp [go_sem,y11,f1,hasked]
 rw [hasked] at s2
 have s2:St G W (w.setCell ⟨tb,1,none⟩ (.int .i64 asked')) (tabL Try.prog tb Ast cst vat m asked' K++M):=s2
 clear s y1 f1 y11
 generalize w.setCell ⟨tb,1,none⟩ (.int .i64 asked')=w2 at s2 ⊢
 have hk4:∀(m':Nat) (cst':Nat) (Ast':Option Addr) (asked':Int) (K':List SR),(tabL Try.prog tb Ast' cst' vat m' asked' K'++M)[jm+4]?=some (qC 2 a l.length c (l.flatMap itV)):=fun m' cst' Ast' asked' K'=>hM
 have hrd:=q_at1 s2 (jm+4) (hk4 _ _ _ _ _)
 refine CALL_of (key_ct hrd (Nat.le_refl _) hll fun x hx=>by have:=hl x hx;omega) ?_
 rintro _ w3 ⟨rfl,hc3⟩
 have s3:=s2.old hc3
 obtain ⟨key,hkey⟩:∃key,BA (keyB l)=key:=⟨_,rfl⟩
 have hgood:kStr.good key:=by
  rw [←hkey]
  show (BA (keyB l)).size≤maxLen
  rw [BA_size]
  rw [keyB_len];unfold maxLen;omega
 have y3:=(s3.box 0 rfl).1
 have y30:=y3.1
 have y33:=y3.2.2.2.1
 have hl3:(Instr.lookup 52 vat (.string key) false).run Try.prog w3=_:=s3.mapVGet mAt 1 rfl key hgood
 have s3d:=s3.old ((Chg.refl noB w3).drew)
 have hl3d:(Instr.lookup 52 vat (.string key) false).run Try.prog w3.drew=_:=s3d.mapVGet mAt 1 rfl key hgood
 rw [hkey]
 unfold lr0_table_intern.b4
 by_cases hex:∃x∈K,x.2.2.1=l
 ·obtain ⟨x,hx,hxl⟩:=hex
  obtain ⟨j,hj⟩:=List.mem_iff_getElem?.1 hx
  have hjl:=(List.getElem?_eq_some_iff.1 hj).1
  have hf:fK K key=some (.int .i64 ((j:Int)+1)):=by rw [←hkey];exact fK_some hK hl hj hxl hnd
  rw [hf] at hl3 hl3d
  simp only [Option.getD_some] at hl3 hl3d
  have wj:IntKind.i64.wrap ((j:Int)+1-1)=(j:Int):=by rw [IntWalk.i64_in _ (by omega)];omega
  have hj0:(0:Int)<(j:Int)+1:=by omega
  simp -dsimp [go_sem,y33,hl3,hl3d,hj0]
    -- the kernel that is there
  obtain ⟨F2,ho2,_⟩:=s3.get (k:=2) rfl
  obtain ⟨gs,es,hst,_⟩:=row_elem ho2 (fun _ _=>rfl) (by decide) hj
  have st0:=hst 0 _ rfl
  subst es
  obtain ⟨F3,s3k,_⟩:=s3.inAll' 3 rfl
  obtain ⟨hlen',_,_,hsp',hcl'⟩:=q_it s3k j (a:=x.1) (n:=x.2.2.1.length) (c:=x.2.1) (l:=x.2.2.1) (by rw [List.getElem?_map,hj];rfl)
  obtain ⟨_,_,_,hsp,hcl⟩:=q_it s3 (jm+4) (hk4 _ _ _ _ _)
  obtain ⟨ag,ao,asp⟩:=a
  simp only at hsp
  subst hsp
  obtain ⟨⟨xg,xo,xsp⟩,xc,xl,xe⟩:=x
  simp only at hxl hsp' hcl' st0
  subst hsp' hxl
  have hpos:0<xl.length:=List.length_pos_iff.2 hne
  obtain ⟨p1,p2⟩:=hcl' 0 _ (List.getElem?_eq_getElem hpos)
  obtain ⟨r1,r2⟩:=hcl 0 _ (List.getElem?_eq_getElem hpos)
  simp only [Nat.zero_mul,Nat.add_zero] at p1 p2 r1 r2
  simp only [Nat.add_zero,kerV] at st0
  have e00:(((xl[0].1:Nat):Int) == ((xl[0].1:Nat):Int) && ((xl[0].2:Nat):Int) == ((xl[0].2:Nat):Int))=true:=by simp
  unfold lr0_table_intern.b4_1
  have wj2:IntKind.i64.wrap (j:Int)=(j:Int):=IntWalk.i64_in _ (by omega)
  have hjK:(0:Int)≤(j:Int)∧(j:Int)<(K.length:Int):=⟨by omega,by omega⟩
  simp -dsimp [go_sem,y30,y33,hl3,hl3d,wj,wj2,hjK,hjl,st0,hpos,p1,p2,r1,r2,e00]
  unfold lr0_table_intern.b5
  simp -dsimp [go_sem]
  unfold lr0_table_intern.b5_1
  simp -dsimp [go_sem,y33,hl3d,wj,wj2]
  refine hR _ _ ⟨some ⟨gs,0,none⟩,cst,m,asked',K,by omega,⟨j,rfl⟩,?_,Or.inl ⟨rfl,_,List.mem_of_getElem? hj,rfl⟩⟩
  have:=s3d.turn (k:=jm+4) (hk4 _ _ _ _ _) (d:=Ch.emp) fun _ _=>trivial
  exact this
 ·have hno:∀x∈K,x.2.2.1≠l:=fun x hx e=>hex ⟨x,hx,e⟩
  have hf:fK K key=none:=by rw [←hkey];exact fK_none hK hl hno
  rw [hf] at hl3 hl3d
  simp only [Option.getD_none] at hl3 hl3d
  simp -dsimp [go_sem,y33,hl3,hl3d]
  clear hl3 hl3d y30 y33 y3
  generalize w3.drew=w4 at s3d ⊢
  clear s3
  have y4:=(s3d.box 0 rfl).1
  have f4:=(s3d.box 0 rfl).2.1
  have y42:=y4.2.2.1
  have wK:IntKind.i64.wrap ((K.length:Int)+1)=(K.length:Int)+1:=IntWalk.i64_in _ (by omega)
  have s5:=s3d.set 0 rfl 2 (.int .i64 ((K.length:Int)+1))
  unfold lr0_table_intern.b5
  simp -dsimp [go_sem]
  unfold lr0_table_intern.b3
  have y50:=(s5.box 0 rfl).1.1
  have hsz5:(w4.setCell ⟨tb,2,none⟩ (.int .i64 ((K.length:Int)+1))).heap.size=w4.heap.size:=by simp
  simp -dsimp [go_sem,y42,f4,wK,y50]
  have s5:St G W (w4.setCell ⟨tb,2,none⟩ (.int .i64 ((K.length:Int)+1))) ([boxC tb 54 [.slice Ast K.length cst,.int .i64 asked',.int .i64 ((K.length:Int)+1),vat],mapVC Try.prog kStr 9 vat m (fK K),rowC 48 2 Ast K.length cst (K.flatMap stV),Ch.all (K.map fun x=>qC 2 x.1 x.2.2.1.length x.2.1 (x.2.2.1.flatMap itV))]++M):=s5
  rw [←hsz5]
  clear y50 y4 f4 y42 hsz5 s3d
  generalize w4.setCell ⟨tb,2,none⟩ (.int .i64 ((K.length:Int)+1))=w5 at s5 ⊢
  refine s5.append1 2 rfl uStates iState rfl (by decide) (news:=stV (a,c,l,.slice none 0 0)) rfl (by simp [stV,kerV,Value.oneCell']) (by unfold maxLen;omega) (by unfold maxBytes;omega) ?_
  intro gs cap w6 s6
  have f6:=(s6.box 0 rfl).2.1
  have y60:=(s6.box 0 rfl).1.1
  have y63:=(s6.box 0 rfl).1.2.2.2.1
  have s7:=s6.set 0 rfl 0 (.slice (some ⟨gs,0,none⟩) (K.length+1) cap)
  have s7:=s7.old ((Chg.refl noB _).drew)
  have c70:=(s7.box 0 rfl).1.1
  simp -dsimp [go_sem,f6,y60,y63]
  generalize (w6.setCell ⟨tb,0,none⟩ (.slice (some ⟨gs,0,none⟩) (K.length+1) cap)).drew=w7 at s7 ⊢
  have hKK:(K.length:Int)+1=((K++[((a,c,l,Value.slice none 0 0):SR)]).length:Nat):=by simp
  obtain ⟨hk1,hk2⟩:=fK_snoc (K:=K) (y:=(a,c,l,.slice none 0 0)) hK hl hno
  rw [hkey] at hk1 hk2
  obtain ⟨w8,hrun,s8⟩:=s7.mapVPut mAt 1 rfl key hgood (by unfold maxLen;omega) (.int .i64 ((K.length:Int)+1)) (fK (K++[(a,c,l,.slice none 0 0)])) hk1 hk2
  have hrun:(Instr.mapUpdate 52 vat (.string key) (.int .i64 ((K.length:Int)+1))).run Try.prog w7 = .ok () w8:=hrun
  have y83:=(s8.box 0 rfl).1.2.2.2.1
  have hl8:(Instr.lookup 52 vat (.string key) false).run Try.prog w8=_:=s8.mapVGet mAt 1 rfl key hgood
  rw [hk1] at hl8
  simp only [Option.getD_some] at hl8
  have wj:IntKind.i64.wrap ((K.length:Int)+1-1)=(K.length:Int):=by rw [IntWalk.i64_in _ (by omega)];omega
  have wj2:IntKind.i64.wrap (K.length:Int)=(K.length:Int):=IntWalk.i64_in _ (by omega)
  simp -dsimp [go_sem,hrun,y83,hl8,wj,wj2]
  have eS:(K++[((a,c,l,Value.slice none 0 0):SR)]).flatMap stV=K.flatMap stV++stV (a,c,l,.slice none 0 0):=by simp
  have s9:St G W w8 ([boxC tb 54 [.slice (some ⟨gs,0,none⟩) (K.length+1) cap,.int .i64 asked',.int .i64 ((K.length:Int)+1),vat],mapVC Try.prog kStr 9 vat (m+1) (fK (K++[(a,c,l,.slice none 0 0)])),rowC 48 2 (some ⟨gs,0,none⟩) (K.length+1) cap (K.flatMap stV++stV (a,c,l,.slice none 0 0)),Ch.all (K.map fun x=>qC 2 x.1 x.2.2.1.length x.2.1 (x.2.2.1.flatMap itV))]++M):=s8
  have s10:=s9.into (jm+4) 3 hM rfl (by omega)
  refine hR _ _ ⟨some ⟨gs,0,none⟩,cap,m+1,asked',K++[(a,c,l,.slice none 0 0)],by omega,⟨K.length,rfl⟩,?_,Or.inr ⟨rfl,hno⟩⟩
  unfold tabL
  rw [eS,List.length_append,List.map_append]
  exact s10
end Go.Proofs.Ytmoepnfobnpdiaa

/-
  The document's answer for first: Table, its rows.
-/
namespace Go.Px.Cn
open Go.Px Go.Px.Scan
abbrev BK:=Nat×List Bool
def rowF (nT:Nat) (x:BK):Ch:=rowC 4 1 (some ⟨x.1,0,none⟩) nT nT (boolV x.2)
def valF (nT:Nat) (x:BK):Value := .slice (some ⟨x.1,0,none⟩) nT nT
def cntK (K:List BK):Nat:=(K.map fun x=>cntF x.2).sum
theorem sum_set {α:Type} {f:α→Nat} {l:List α} {j:Nat} {y x:α} (h:l[j]?=some y):((l.set j x).map f).sum+f y=(l.map f).sum+f x:=by
 induction l generalizing j with
 | nil=>simp at h
 | cons a r ih =>
  match j,h with
  | 0,h=>simp at h;subst h;simp;omega
  | j+1,h =>
   have:=ih (j:=j) (by simpa using h)
   simp only [List.set_cons_succ,List.map_cons,List.sum_cons]
   omega
def rowI (nT i:Nat):List Bool:=if i<nT then (List.replicate nT false).set i true else List.replicate nT false
theorem rowI_len (nT i:Nat):(rowI nT i).length=nT:=by unfold rowI;split <;> simp
theorem fstB_out {nT:Nat} {null:List Bool} {has:List (List Bool)} {u:Nat} (h:∀s,(has.getD s []).getD u false=false):∀r,fstB nT null has r u=false
 | []=>rfl
 | s::r=>by rw [fstB,h,fstB_out h r];simp
end Go.Px.Cn
namespace Go.Proofs.Ytmoepnfobnpdiaa
open Go.Px Go.Px.Scan Go.Px.Cn Go.RowKit
attribute [-go_sem] Builtin.append_ ref07_Table.b4 ref07_Table.b14 ref07_Table.b13_1 ref07_Table.b10 ref07_Table.b5 ref07_Table.b20 ref07_Table.b23 ref07_Table.b22_1 ref07_Table.b22 ref07_Table.b15 ref07_Table.b1_1
theorem uHas:Try.prog.underlying 101=some (.slice 69):=Try.underlying101
theorem iHas:(Try.prog.info? 69).map (fun i=>(i.zero,i.size,i.bytes))=some (some (.slice none 0 0),1,24):=by kernel_rfl
theorem bBeg (a b c d m:Option Addr) (n1 n2 n3 n4 n5 d1 d2 d3 d4 d5:Nat) (x:Int) (w:World):(Instr.build 103 #[(0,.agg #[.slice a n1 d1,.slice b n2 d2,.slice c n3 d3,.int .i64 x,.slice d n4 d4]),(1,.slice m n5 d5)]).run Try.prog w = .ok (.agg #[.slice a n1 d1,.slice b n2 d2,.slice c n3 d3,.int .i64 x,.slice d n4 d4,.slice m n5 d5,.slice none 0 0]) w:=by simp [go_sem]
section
variable {A1 A2 A3 A4:Option Addr} {c1 c2 c3 c4 n2 n3 n4 nT N mN bb q:Nat} {st:Int}
def tabB (A1 A2 A3 A4:Option Addr) (c1 c2 c3 c4 n2 n3 n4 nT N mN bb q:Nat) (st:Int) (null:List Bool) (aH:Option Addr) (cH:Nat) (K:List BK):List Ch :=
 [boxC q 27 [.slice A1 nT c1,.slice A2 n2 c2,.slice A3 n3 c3,.int .i64 st,.slice A4 n4 c4],boxC bb 103 [.slice A1 nT c1,.slice A2 n2 c2,.slice A3 n3 c3,.int .i64 st,.slice A4 n4 c4,.slice (some ⟨mN,0,none⟩) N N,.slice aH K.length cH],
   rowC 4 1 (some ⟨mN,0,none⟩) N N (boolV null),rowC 69 1 aH K.length cH (K.map (valF nT)),Ch.all (K.map (rowF nT))]
theorem rows_step {W w:World} {null:List Bool} {aH:Option Addr} {cH i:Nat} {K:List BK} {R:EP} {C17:VP} (s:St noB W w (tabB A1 A2 A3 A4 c1 c2 c3 c4 n2 n3 n4 nT N mN bb q st null aH cH K)) (hT:nT≤65) (hi:i≤1000) (hK:K.length=i)
  (hgo:∀w' aH' cH' b,St noB W w' (tabB A1 A2 A3 A4 c1 c2 c3 c4 n2 n3 n4 nT N mN bb q st null aH' cH' (K++[(b,rowI nT i)]))→C17 (.int .i64 ((i:Int)+1)) w') :
  ref07_Table.b22 R C17 (.pointer (some ⟨q,0,none⟩)) (.pointer (some ⟨bb,0,none⟩)) (.int .i64 i) w:=by
 have wi:IntKind.i64.wrap ((i:Int)+1)=(i:Int)+1:=IntWalk.i64_in _ (by omega)
 have y1:=(s.box 0 rfl).1.1
 have s1:=s.lit 4 1 nT (Array.replicate nT (Value.bool false)) (by unfold maxLen;omega) (by simp)
 have e0:(Array.replicate nT (Value.bool false)).toList=boolV (List.replicate nT false):=by simp [boolV]
 rw [e0] at s1
 have hmk:=mkFlags w nT (by unfold maxBytes;omega)
 generalize w.alloc (.cells (Array.replicate nT (Value.bool false)) 4)=w1 at s1 hmk
 generalize w.heap.size=o at s1 hmk
 have y2:=(s1.box 0 rfl).1.1
 have hb23:∀w2,St noB W w2 (tabB A1 A2 A3 A4 c1 c2 c3 c4 n2 n3 n4 nT N mN bb q st null aH cH K++[rowC 4 1 (some ⟨o,0,none⟩) nT nT (boolV (rowI nT i))])→ref07_Table.b23 R C17 (.pointer (some ⟨bb,0,none⟩)) (.int .i64 i) (.slice (some ⟨o,0,none⟩) nT nT) w2:=by
  intro w2 s2
  have z2:=(s2.box 1 rfl).1
  simp [boxAt] at z2
  unfold ref07_Table.b23
  simp -dsimp [go_sem,z2]
  refine s2.append1 3 rfl uHas iHas rfl (by decide) (news:=[.slice (some ⟨o,0,none⟩) nT nT]) rfl (by simp [Value.oneCell']) (by unfold maxLen;omega) (by unfold maxBytes;omega) ?_
  intro gH cap w4 s4
  have s5:=s4.into 5 4 rfl rfl (by decide)
  have z5:=(s5.box 1 rfl).1
  have f5:=(s5.box 1 rfl).2.1
  simp [boxAt] at z5
  have s6:=s5.set 1 rfl 6 (.slice (some ⟨gH,0,none⟩) (K.length+1) cap)
  simp -dsimp [go_sem,z5,f5]
  unfold ref07_Table.b20
  simp -dsimp [go_sem,wi]
  refine hgo _ (some ⟨gH,0,none⟩) cap o ?_
  have:=s6.take 5
  unfold tabB
  rw [List.length_append,List.map_append,List.map_append]
  exact this
 unfold ref07_Table.b22
 simp -dsimp [go_sem,y1,hmk,y2]
 refine SPL_intro (fun p1=>?_) (fun p1=>?_) <;> simp at p1
 ·obtain ⟨co,fo⟩:=bool_at s1 (k:=5) rfl (ms:=List.replicate nT false) (j:=i) (by simpa using p1)
  have s2:=bool_set s1 (k:=5) rfl (ms:=List.replicate nT false) i true
  unfold ref07_Table.b22_1
  simp -dsimp [go_sem,p1,co,fo]
  refine hb23 _ ?_
  have e:rowI nT i=(List.replicate nT false).set i true:=by unfold rowI;rw [if_pos p1]
  rw [e];exact s2
 ·refine hb23 _ ?_
  have e:rowI nT i=List.replicate nT false:=by unfold rowI;rw [if_neg (by omega)]
  rw [e];exact s1
end
end Go.Proofs.Ytmoepnfobnpdiaa

/-
  The document's answer for first: Table, its rounds.
-/
namespace Go.Proofs.Ytmoepnfobnpdiaa
open Go.Px Go.Px.Scan Go.Px.Cn Go.RowKit
attribute [-go_sem] Builtin.append_ ref07_Table.b4 ref07_Table.b14 ref07_Table.b13_1 ref07_Table.b10 ref07_Table.b5 ref07_Table.b20 ref07_Table.b23 ref07_Table.b22_1 ref07_Table.b22 ref07_Table.b15 ref07_Table.b1_1
section
variable {A1 A2 A3 A4:Option Addr} {c1 c2 c3 c4 n2 n3 n4 nT N mN bb q mH cH:Nat} {st:Int}
theorem getD_set {α:Type} {l:List α} {j:Nat} {x d:α} (s:Nat) (h:s<l.length):(l.set j x).getD s d=if s=j then x else l.getD s d:=by
 by_cases e:s=j
 ·subst e;rw [if_pos rfl,List.getD_eq_getElem?_getD,List.getElem?_set_self h];rfl
 ·rw [if_neg e,List.getD_eq_getElem?_getD,List.getElem?_set_ne (Ne.symm e),←List.getD_eq_getElem?_getD]
/-- What can be read of the table. -/
theorem tab_at {W w:World} {null:List Bool} {K:List BK} (s:St noB W w (tabB A1 A2 A3 A4 c1 c2 c3 c4 n2 n3 n4 nT N mN bb q st null (some ⟨mH,0,none⟩) cH K)) (hN:null.length=N) (hK:∀x∈K,x.2.length=nT) :
  BgAt w bb [.slice A1 nT c1,.slice A2 n2 c2,.slice A3 n3 c3,.int .i64 st,.slice A4 n4 c4] nT mN N mH cH (fun s=>(K.getD s (0,[])).1) null (K.map (·.2)) where
 box:=by
  have:=(s.box 1 rfl).1
  rw [hN,List.length_map];exact this
 nul i h:=(bool_at s (k:=2) rfl (ms:=null) (j:=i) h).1
 has i h:=by
  have hi:i<K.length:=by simpa using h
  obtain ⟨g,eg,cg,_⟩:=s.rowAt 3 rfl (j:=i) (by simpa using hi)
  injection eg with eg;injection eg with eg;subst eg
  have ek:K.getD i (0,[])=K[i]:=by rw [List.getD_eq_getElem?_getD,List.getElem?_eq_getElem hi];rfl
  rw [ek]
  refine ⟨by rw [cg,List.getElem_map];rfl,fun t ht=>?_⟩
  obtain ⟨F,s4,_⟩:=s.inAll' 4 rfl
  have hkl:K[i].2.length=nT:=hK _ (List.getElem_mem hi)
  have:=(bool_at s4 (k:=i) (m:=K[i].1) (N:=nT) (ms:=K[i].2) (by rw [List.getElem?_map,List.getElem?_eq_getElem hi];rfl) (j:=t) (by omega)).1
  rw [this]
  congr 2
  rw [List.getD_eq_getElem?_getD (l:=K.map (·.2)),List.getElem?_map,List.getElem?_eq_getElem hi]
  show _=K[i].2.getD t false
  rw [List.getD_eq_getElem?_getD,List.getElem?_eq_getElem (by omega)];rfl
/-- A production's row is laid. -/
theorem lay_tab {W w:World} {null:List Bool} {K:List BK} {B j:Nat} {vr:Value} {row:List Int} (s:St noB W w (tabB A1 A2 A3 A4 c1 c2 c3 c4 n2 n3 n4 nT N mN bb q st null (some ⟨mH,0,none⟩) cH K)) (hN:null.length=N) (hK:∀x∈K,x.2.length=nT)
  (hT:nT≤65) (hNN:N≤1000) (hrow:(rSlice rInt).at1 W B vr row) (hB:B≤W.heap.size) (hx:∀x∈row,0≤x∧x<K.length∧x<nT+N) (hj:j<K.length) :
  Ct Try.prog ref07_Begin_lay.id #[.pointer (some ⟨bb,0,none⟩),vr,valF nT K[j]] w fun v w'=>∃(fr:Bool) (r':List Bool),v = .bool fr∧r'.length=nT∧(∀u,u<nT→r'.getD u false=(K[j].2.getD u false || fstB nT null (K.map (·.2)) row u))∧(fr=false→r'=K[j].2)∧cntF r'+(if fr then 1 else 0)≤cntF K[j].2 ∧
   St noB W w' (tabB A1 A2 A3 A4 c1 c2 c3 c4 n2 n3 n4 nT N mN bb q st null (some ⟨mH,0,none⟩) cH (K.set j (K[j].1,r'))):=by
 obtain ⟨F,sF,hback⟩:=s.inAll' 4 rfl
 obtain ⟨_,hhc,_⟩:=s.rowSize 3 rfl
 have hKj:K[j]?=some K[j]:=List.getElem?_eq_getElem hj
 have hset:∀r',(K.map (rowF nT)).set j (rowF nT (K[j].1,r'))=(K.set j (K[j].1,r')).map (rowF nT):=fun r'=>by rw [List.map_set]
 have hval:∀r',(K.set j (K[j].1,r')).map (valF nT)=K.map (valF nT):=fun r'=>by
  rw [List.map_set]
  have h9:j<(K.map (valF nT)).length:=by simpa using hj
  have:=List.set_getElem_self h9
  rw [List.getElem_map] at this
  exact this
 have hup:∀w' r',St F w w' ((K.map (rowF nT)).set j (rowF nT (K[j].1,r')))→St noB W w' (tabB A1 A2 A3 A4 c1 c2 c3 c4 n2 n3 n4 nT N mN bb q st null (some ⟨mH,0,none⟩) cH (K.set j (K[j].1,r'))):=by
  intro w' r' h
  rw [hset] at h
  have:=hback w' _ h
  unfold tabB
  rw [hval,List.length_set]
  exact this
 have hlen:∀r':List Bool,r'.length=nT→∀x∈K.set j (K[j].1,r'),x.2.length=nT:=fun r' hr x hx=>by
  rcases List.mem_or_eq_of_mem_set hx with h | h
  ·exact hK x h
  ·rw [h];exact hr
 have hga:∀r':List Bool,(fun s=>((K.set j (K[j].1,r')).getD s (0,[])).1)=fun s=>(K.getD s (0,[])).1:=fun r'=>by
  funext s
  by_cases hs:s<K.length
  ·rw [getD_set s hs]
   split
   ·next e=>subst e;rw [List.getD_eq_getElem?_getD,hKj];rfl
   ·rfl
  ·rw [List.getD_eq_getElem?_getD,List.getD_eq_getElem?_getD,List.getElem?_eq_none (by simpa using hs),List.getElem?_eq_none (by omega)]
 have hhs:∀r':List Bool,(K.set j (K[j].1,r')).map (·.2)=(K.map (·.2)).set j r':=fun r'=>by rw [List.map_set]
 refine Ct.mono (lay_ct (L:=K.map (rowF nT)) (k:=j) (G:=F) (W:=w) (j:=j) (o:=K[j].1) (r0:=K[j].2) (bb:=bb) (mN:=mN) (cN:=N) (mH:=mH) (cH:=cH) (null:=null) (hs:=K.map (·.2)) (ga:=fun s=>(K.getD s (0,[])).1) (B:=B) (row:=row) (A1:=A1) (c1:=c1) (A2:=A2) (c2:=c2) (n2:=n2) (A3:=A3) (c3:=c3) (n3:=n3) (A4:=A4) (c4:=c4) (n4:=n4) (st:=st)
  (by rw [List.getElem?_map,hKj];rfl) sF (fun w' r' h1 h2=>?_) (hK _ (List.getElem_mem hj)) (fun h=>by rw [List.getElem_map]) (by omega) (by rw [List.length_map];exact hhc) hT (by omega) (fun x hx'=>by have:=hx x hx';rw [List.length_map];omega)) ?_
 ·have s2:=hup w' r' h2
  have:=tab_at s2 hN (hlen r' h1)
  rw [hga,hhs] at this
  exact ⟨this,Rep.below hrow (s2.chg.below hB fun _ _=>id)⟩
 ·rintro v w' ⟨fr,r',h1,h2,h3,h4,h5,h6⟩
  exact ⟨fr,r',h1,h2,h3,h4,h5,hup w' r' h6⟩
end
end Go.Proofs.Ytmoepnfobnpdiaa

/-
  The document's answer for first: Table, whole.
-/
namespace Go.Proofs.Ytmoepnfobnpdiaa
open Go.Px Go.Px.Scan Go.Px.Cn Go.RowKit
attribute [-go_sem] Builtin.append_ ref07_Table.b4 ref07_Table.b14 ref07_Table.b13_1 ref07_Table.b10 ref07_Table.b5 ref07_Table.b20 ref07_Table.b23 ref07_Table.b22_1 ref07_Table.b22 ref07_Table.b15 ref07_Table.b1_1
/-- A production's row is in the table. -/
def RwOk (nT:Nat) (null:List Bool) (K:List BK) (p:Int×List Int×Int):Prop:=∀u,u<nT→fstB nT null (K.map (·.2)) p.2.1 u=true→((K.map (·.2)).getD p.1.toNat []).getD u false=true
/-- What is known of the rows. -/
structure KRows (nT nS:Nat) (K:List BK):Prop where
 len:K.length=nS
 row:∀x∈K,x.2.length=nT
 term:∀i:Nat,i<nT→i<nS→((K.map (·.2)).getD i []).getD i false=true
theorem Table_ct {w:World} {B:Nat} {vg:Value} {g:Gr} (hg:rGram.atN w B vg g) (hB:B≤w.heap.size) (hcl:ClosedP g) :
  Ct Try.prog ref07_Table.id #[vg] w fun v w'=>∃A1 A2 A3 A4 c1 c2 c3 c4 bb mN mH cH ga null hs,vg = .agg #[.slice A1 g.terms.length c1,.slice A2 g.nons.length c2,.slice A3 g.levels.length c3,.int .i64 g.start,.slice A4 g.prods.length c4]∧v = .pointer (some ⟨bb,0,none⟩)∧Chg noB w w' ∧
   null.length=g.nons.length∧hs.length=g.terms.length+g.nons.length∧hs.length≤cH∧TabOk g.terms.length g.prods null hs∧(∀s u,¬u<g.terms.length→(hs.getD s []).getD u false=false) ∧
   ∀w'',Chg noB w' w''→BgAt w'' bb [.slice A1 g.terms.length c1,.slice A2 g.nons.length c2,.slice A3 g.levels.length c3,.int .i64 g.start,.slice A4 g.prods.length c4] g.terms.length mN g.nons.length mH cH ga null hs:=by
 refine ref07_Table.ct fun R hR=>?_
 obtain ⟨A1,c1,A2,c2,A3,c3,A4,c4,rfl,⟨m1,m2,m3,m4⟩,hst,hc0,hgr⟩:=box_all hg hB
 have hr4:(rSlice rPr).at1 w B (.slice A4 g.prods.length c4) g.prods:=by obtain ⟨_,_,_,_,_,_,_,_,e,_,_,_,_,h5,_⟩:=(rGram_open hg).ex;injection e with e;injection e with e;simp at e;rw [e.2.2.2.1,e.2.2.2.2];exact h5
 have hT:=hcl.syms.t1
 have hN:=hcl.syms.n1
 have hn0:=hcl.syms.n0
 have hPl:=hcl.prods.c1
 obtain ⟨nT,hnT⟩:∃n,g.terms.length=n:=⟨_,rfl⟩
 obtain ⟨N,hNe⟩:∃N,g.nons.length=N:=⟨_,rfl⟩
 have s1:=(St.refl noB w).alloc #[.slice A1 g.terms.length c1,.slice A2 g.nons.length c2,.slice A3 g.levels.length c3,.int .i64 g.start,.slice A4 g.prods.length c4] 27
 unfold ref07_Table.run
 have y1:=(hgr _ (Chg.refl _ _)).k
 simp -dsimp [go_sem,y1]
 have hbl:Below B w (w.alloc (.cells #[.slice A1 g.terms.length c1,.slice A2 g.nons.length c2,.slice A3 g.levels.length c3,.int .i64 g.start,.slice A4 g.prods.length c4] 27)).drew:=s1.chg.drew.below hB fun _ _=>id
 have hg1:=rGram_below hg hbl
 have hB1:B≤(w.alloc (.cells #[.slice A1 g.terms.length c1,.slice A2 g.nons.length c2,.slice A3 g.levels.length c3,.int .i64 g.start,.slice A4 g.prods.length c4] 27)).drew.heap.size:=by have:=hbl.size;omega
 have s2:=s1.old (Chg.refl noB _).drew
 clear y1 s1 hgr hc0
 generalize (w.alloc (.cells #[.slice A1 g.terms.length c1,.slice A2 g.nons.length c2,.slice A3 g.levels.length c3,.int .i64 g.start,.slice A4 g.prods.length c4] 27)).drew=w1 at s2 hg1 hB1 ⊢
 generalize w.heap.size=q at s2 ⊢
 refine CALL_of (Null_ct hg1 hB1 hcl) ?_
 rintro _ w2 ⟨mN,null,rfl,hnl,sn,hnul⟩
 have s3:=s2.seq sn
 have y3:=(s3.box 0 rfl).1
 simp [boxAt] at y3
 have s4:=((s3.alloc #[.slice A1 g.terms.length c1,.slice A2 g.nons.length c2,.slice A3 g.levels.length c3,.int .i64 g.start,.slice A4 g.prods.length c4,.slice (some ⟨mN,0,none⟩) null.length null.length,.slice none 0 0] 103).nilRow 69 1).push (c:=Ch.all (([]:List BK).map (rowF g.terms.length))) ⟨fun _=>0,fun i h=>absurd rfl h,fun k c h=>by simp at h⟩
 unfold ref07_Table.b1_1
 simp -dsimp [go_sem,y3,↓bBeg]
 generalize w2.alloc (.cells #[.slice A1 g.terms.length c1,.slice A2 g.nons.length c2,.slice A3 g.levels.length c3,.int .i64 g.start,.slice A4 g.prods.length c4,.slice (some ⟨mN,0,none⟩) null.length null.length,.slice none 0 0] 103)=w3 at s4 ⊢
 generalize w2.heap.size=bb at s4 ⊢
 rw [hnl] at s4
 rw [hnT,hNe] at s4 hg
 rw [hNe] at hnl
 rw [hnT] at hnul hT
 rw [hNe] at hN hn0
 let TB:Option Addr→Nat→List BK→List Ch:=fun aH cH K=>tabB A1 A2 A3 A4 c1 c2 c3 c4 N g.levels.length g.prods.length nT N mN bb q g.start null aH cH K
 have s5:St noB w w3 (TB none 0 []):=s4.pick [0,2,1,3,4] (by decide) rfl
 clear s4 s3 s2 sn y3
 unfold ref07_Table.b15
 refine ref07_Table.l17_intro _ _ _ _ _ (fun y w'=>∃(i:Nat) (aH:Option Addr) (cH:Nat) (K:List BK),y = .int .i64 i∧i≤nT+N∧K.length=i∧K.map (·.2)=(List.range i).map (rowI nT)∧St noB w w' (TB aH cH K)) (fun y _=>nT+N-iv y)
  ⟨0,none,0,[],rfl,by omega,rfl,rfl,s5⟩ ?_
 rintro _ w4 ⟨i,aH,cH,K,rfl,hi,hKl,hKr,s6⟩ C hC
 have y6:=(s6.box 0 rfl).1
 simp [boxAt] at y6
 simp -dsimp [go_sem,y6]
 refine CALL_of (Symbols_ct (rGram_below hg (s6.chg.below hB fun _ _=>id)) (by have:=s6.chg.size;omega) (by omega)) ?_
 rintro _ w5 ⟨rfl,hc5⟩
 have s7:=s6.old hc5
 clear s6 y6
 rw [hnT,hNe]
 simp -dsimp [go_sem]
 refine SPL_intro (fun p1=>?_) (fun p1=>?_) <;> simp at p1
 ·refine rows_step s7 (by omega) (by omega) hKl fun w6 aH' cH' b s8=>?_
  exact hC _ _ ⟨i+1,aH',cH',K++[(b,rowI nT i)],by simp,by omega,by simp [hKl],by rw [List.map_append,hKr,List.range_succ,List.map_append];rfl,s8⟩ (by simp [iv];omega)
 have hie:i=nT+N:=by omega
 subst hie
 have hK0:KRows nT (nT+N) K:=by
  refine ⟨hKl,fun x hx=>?_,fun j hj hj2=>?_⟩
  ·have:x.2∈K.map (·.2):=List.mem_map.2 ⟨x,hx,rfl⟩
   rw [hKr] at this
   obtain ⟨a,_,e⟩:=List.mem_map.1 this
   rw [←e];exact rowI_len nT a
  ·rw [hKr,List.getD_eq_getElem?_getD (l:=(List.range (nT+N)).map (rowI nT)),List.getElem?_map,List.getElem?_range hj2]
   show (rowI nT j).getD j false=true
   unfold rowI
   rw [if_pos hj,List.getD_eq_getElem?_getD,List.getElem?_set_self (by simpa using hj)];rfl
 clear hKr
 obtain ⟨mH,hmH⟩:∃m,aH=some ⟨m,0,none⟩:=by
  obtain ⟨gm,em,_⟩:=s7.rowAt 3 rfl (j:=0) (by rw [List.length_map];omega)
  exact ⟨gm,em⟩
 subst hmH
 obtain ⟨_,hhc,_⟩:=s7.rowSize 3 rfl
 clear hKl
 let J:Value→World→Nat→Prop:=fun y w' f=>∃(ag:Bool) (K:List BK),y = .bool ag∧KRows nT (nT+N) K∧(ag=false→∀p∈g.prods,RwOk nT null K p)∧St noB w w' (TB (some ⟨mH,0,none⟩) cH K)∧f=2*cntK K+(if ag then 1 else 0)
 unfold ref07_Table.b5
 refine ref07_Table.l7_intro _ _ _ _ _ (fun y w'=>∃f,J y w' f) (fun y w'=>muOf (J y) w') ⟨_,true,K,rfl,hK0,by simp,s7,rfl⟩ ?_
 rintro y3 w6 hJ D hD
 have hJm:=muOf_at hJ
 have hfin:∀y4 w4 f,J y4 w4 f→f<muOf (J y3) w6→D y4 w4:=fun y4 w4 f h1 h2=>hD _ _ ⟨f,h1⟩ (Nat.lt_of_le_of_lt (muOf_le h1) h2)
 obtain ⟨ag,K6,rfl,hK6,hag,s8,hf⟩:=hJm
 rw [hf] at hfin
 have hhc6:(K6.map (·.2)).length≤cH:=by rw [List.length_map,hK6.len,←hK0.len];exact hhc
 clear hf hD hJ s7 hK0 hhc
 have hout:∀K:List BK,KRows nT (nT+N) K→∀u,¬u<nT→∀s,((K.map (·.2)).getD s []).getD u false=false:=by
  intro K hK u hu s
  by_cases hs:s<K.length
  ·have e:(K.map (·.2)).getD s []=K[s].2:=by rw [List.getD_eq_getElem?_getD,List.getElem?_map,List.getElem?_eq_getElem hs];rfl
   rw [e,List.getD_eq_getElem?_getD,List.getElem?_eq_none (by rw [hK.row _ (List.getElem_mem hs)];omega)];rfl
  ·have e:(K.map (·.2)).getD s []=[]:=by rw [List.getD_eq_getElem?_getD,List.getElem?_eq_none (by simpa using hs)];rfl
   rw [e];simp
 cases ag with
 | false =>
  simp -dsimp [go_sem]
  unfold ref07_Table.b4
  refine hR _ _ ⟨A1,A2,A3,A4,c1,c2,c3,c4,bb,mN,mH,cH,fun s=>(K6.getD s (0,[])).1,null,K6.map (·.2),by rw [hnT,hNe],rfl,s8.chg,by rw [hNe];exact hnl,by rw [List.length_map,hK6.len,hnT,hNe],hhc6,⟨fun p hp=>by rw [hnT];exact hnul p hp,fun i hi=>hK6.term i (by omega) (by omega),fun p hp u hu=>?_⟩,fun s u hu=>hout K6 hK6 u (by omega) s,fun w'' hc=>?_⟩
  ·rw [hnT] at hu
   by_cases h:u<nT
   ·exact hag rfl p hp u h hu
   ·rw [fstB_out (hout K6 hK6 u h)] at hu;cases hu
  ·rw [hnT,hNe];exact tab_at (s8.old hc) hnl hK6.row
 | true =>
 simp -dsimp [go_sem]
 unfold ref07_Table.b10
 refine ref07_Table.l12_intro _ _ _ _ _ _ _ (fun x y w'=>∃(ag:Bool) (i:Nat) (K:List BK),x = .bool ag∧y = .int .i64 i∧i≤g.prods.length∧KRows nT (nT+N) K∧(ag=false→∀p∈g.prods.take i,RwOk nT null K p)∧St noB w w' (TB (some ⟨mH,0,none⟩) cH K)∧cntK K+(if ag then 1 else 0)≤cntK K6) (fun _ y _=>g.prods.length-iv y)
  ⟨false,0,K6,rfl,rfl,by omega,hK6,by simp,s8,by simp⟩ ?_
 rintro _ _ w7 ⟨ag,i,K7,rfl,rfl,hi7,hK7,hcl7,s9,hcnt⟩ E hE
 have wi:IntKind.i64.wrap ((i:Int)+1)=(i:Int)+1:=IntWalk.i64_in _ (by omega)
 have y9:=(s9.box 0 rfl).1
 have z9:=(s9.box 1 rfl).1
 simp [boxAt] at y9 z9
 simp -dsimp [go_sem,y9]
 refine SPL_intro (fun p2=>?_) (fun p2=>?_) <;> simp at p2
 ·obtain ⟨b,o,vr,rfl,hb,x1,x2,x3,hr,_⟩:=prods_at hr4 p2
  have x1:=s9.chg.at x1 id
  have x2:=s9.chg.at x2 id
  have hx:=hcl.syms' g.prods[i] (List.getElem_mem p2)
  rw [hnT,hNe] at hx
  have et:g.prods.take (i+1)=g.prods.take i++[g.prods[i]]:=List.take_succ_eq_append_getElem p2
  obtain ⟨j,hj⟩:∃j:Nat,g.prods[i].1=j:=⟨g.prods[i].1.toNat,by omega⟩
  have hjl:j<K7.length:=by rw [hK7.len];omega
  rw [hj] at x1
  obtain ⟨gm,em,cm,_⟩:=s9.rowAt 3 rfl (j:=j) (by rw [List.length_map];exact hjl)
  injection em with em;injection em with em;subst em
  rw [List.getElem_map] at cm
  have hvk:valF nT K7[j] = .slice (some ⟨K7[j].1,0,none⟩) nT nT:=rfl
  rw [hvk] at cm
  obtain ⟨Ar,cr,rfl,hrl,hrm,_⟩:=slice_form hr
  have s10:=s9.old ((Chg.refl noB w7).drew)
  unfold ref07_Table.b13_1
  simp -dsimp [go_sem,y9,z9,p2,x1,x2,hjl,cm]
  refine CALL_of (lay_tab s10 hnl hK7.row (by omega) (by omega) hr hB (fun x hx'=>by have:=hx.2 x hx';rw [hK7.len];omega) hjl) ?_
  rintro _ w8 ⟨fr,r',rfl,hrl',hru,hfr,hcf,s11⟩
  have hcs:cntK (K7.set j (K7[j].1,r'))+cntF K7[j].2=cntK K7+cntF r':=sum_set (f:=fun x:BK=>cntF x.2) (List.getElem?_eq_getElem hjl)
  have hgd:(K7.map (·.2)).getD j []=K7[j].2:=by rw [List.getD_eq_getElem?_getD,List.getElem?_map,List.getElem?_eq_getElem hjl];rfl
  have hK8:KRows nT (nT+N) (K7.set j (K7[j].1,r')):=by
   refine ⟨by rw [List.length_set];exact hK7.len,fun x hx'=>?_,fun a ha ha2=>?_⟩
   ·rcases List.mem_or_eq_of_mem_set hx' with h | h
    ·exact hK7.row x h
    ·rw [h];exact hrl'
   ·have h1:=hK7.term a ha ha2
    rw [List.map_set,getD_set a (by rw [List.length_map,hK7.len];exact ha2)]
    split
    ·next e=>subst e;rw [hgd] at h1;rw [hru a ha,h1];rfl
    ·exact h1
  have hsame:fr=false→K7.set j (K7[j].1,r')=K7:=fun h=>by rw [hfr h];exact List.set_getElem_self hjl
  have hfin2:∀ag':Bool,(ag'=(ag || fr))→ref07_Table.b14 R D E (.bool ag') (.int .i64 i) w8:=by
   intro ag' e
   unfold ref07_Table.b14
   simp -dsimp [go_sem,wi]
   refine hE _ _ _ ⟨ag',i+1,K7.set j (K7[j].1,r'),rfl,by simp,by omega,hK8,fun h=>?_,s11,?_⟩ (by simp [iv];omega)
   ·rw [e,Bool.or_eq_false_iff] at h
    rw [hsame h.2,et]
    intro p hp
    rcases List.mem_append.1 hp with hp | hp
    ·exact hcl7 h.1 p hp
    ·simp at hp;subst hp
     intro u hu hf
     have:=hru u hu
     rw [hfr h.2,hf,Bool.or_true] at this
     rw [hj,Int.toNat_natCast,hgd];exact this
   ·rw [e];cases ag <;> cases fr <;> simp at hcnt hcf ⊢ <;> omega
  cases ag with
  | true=>simp -dsimp [go_sem];exact hfin2 true rfl
  | false=>simp -dsimp [go_sem];exact hfin2 fr (by simp)
 ·have hie:i=g.prods.length:=by omega
  subst hie
  rw [List.take_length] at hcl7
  refine hfin _ _ _ ⟨ag,K7,rfl,hK7,hcl7,s9,rfl⟩ ?_
  cases ag <;> simp at hcnt ⊢ <;> omega
end Go.Proofs.Ytmoepnfobnpdiaa
