/-
  Texts of this claim: Lb1, LbW, Lb2, Lb3, Lb4, Lb5, RwReads.
-/
import Derived.Test.YtckbgeedlobfaaaDoorY21
import Derived.Test.YtckbgeedlobfaaaDoorY11
import Derived.Test.YtckbgeedlobfaaaDoorY03
import Derived.Test.YtckbgeedlobfaaaDoorCards
import Derived.Test.YtckbgeedlobfaaaDoorTie
import Derived.WalkKit
import Derived.ProofKit
import Derived.OpenShut
import Derived.Deep.DeepHandedRow
import Derived.Lib.LaidTab
import Derived.Deep.DeepWitnessRowRef
set_option maxHeartbeats 1000000
set_option linter.unusedSimpArgs false
set_option linter.unusedVariables false
set_option maxRecDepth 100000
/-
  Chapter 04's laws: what Read tells, taken; the document's Same; alike; awake.
-/
namespace Go.Proofs.YtckbgeedlobfaaaDoor
open Go.Px Go.Px.Scan Go.Px.Spec Go.RowKit
attribute [-go_sem] Builtin.append_

/-- What is told, as data. -/
def AsG (s:ByteArray) (w:World) (v:Value) (w':World):Prop :=
 ∃vg,v = .tuple #[vg,mishV (refG s).2.1 (refG s).2.2]∧rGram.atN w' w'.heap.size vg (refG s).1∧Chg noB w w'
theorem RfAns.asG {s:ByteArray} {w w':World} {v:Value} (h:RfAns s w v w'):AsG s w v w':=by
 obtain ⟨vg,h1,h2⟩:=h;exact ⟨vg,h1,h2.read,h2.chg⟩
theorem Read_rf {s:ByteArray} {w:World} {B:Nat} (hs:s.size≤maxLen) (hO:Ord w B) (hB:B≤w.heap.size):Ct Tryd.prog spec_Read.id #[.string s] w (RfAns s w) :=
 (Read_ct hs hO hB).mono fun v w' h=>by
  obtain ⟨vg,h1,h2⟩:=h
  rw [readG_ref] at h1 h2
  exact ⟨vg,h1,h2⟩
theorem Read_as {s:ByteArray} {w:World} {B:Nat} (hs:s.size≤maxLen) (hO:Ord w B) (hB:B≤w.heap.size):Ct Tryd.prog spec_Read.id #[.string s] w (AsG s w):=(Read_rf hs hO hB).mono fun _ _ h=>h.asG
theorem refRead_as {s:ByteArray} (hs:s.size≤maxLen) (w:World):Ct Tryd.prog ref04_Read.id #[.string s] w (AsG s w):=(refRead_ct' hs w).mono fun _ _ h=>h.asG

section
variable {X:Pan} {G:Nat→Prop} {W w:World} {L:List Ch}
def mB (c a:Int):List Value:=[.int .i64 c,.int .i64 a,.slice none 0 0]
/-- Two results, stored. -/
theorem take2 {A1 A2 A3 A4:Option Addr} {n1 n2 n3 n4 c1 c2 c3 c4:Nat} {x c a:Int} {K:Value→Value→World→Prop} (s:St G W w L)
  (hK:∀q1 q2 w',Chg noB w w'→St G W w' (L++[boxC q1 28 [.slice A1 n1 c1,.slice A2 n2 c2,.slice A3 n3 c3,.int .i64 x,.slice A4 n4 c4],boxC q2 31 (mB c a)])→K (.pointer (some ⟨q1,0,none⟩)) (.pointer (some ⟨q2,0,none⟩)) w') :
  RUN Tryd.prog X (Instr.extract (.tuple #[.agg #[.slice A1 n1 c1,.slice A2 n2 c2,.slice A3 n3 c3,.int .i64 x,.slice A4 n4 c4],mishV c a]) 0) w fun v3 w4 =>
  RUN Tryd.prog X (Instr.extract (.tuple #[.agg #[.slice A1 n1 c1,.slice A2 n2 c2,.slice A3 n3 c3,.int .i64 x,.slice A4 n4 c4],mishV c a]) 1) w4 fun v5 w6 =>
  RUN Tryd.prog X (Instr.alloc 28 true (.tuple #[])) w6 fun v7 w8 =>
  RUN Tryd.prog X (Instr.alloc 31 true (.tuple #[])) w8 fun v9 w10 =>
  RUNU Tryd.prog X (Instr.storeAt 28 v7 v3) w10 fun w11 =>
  RUNU Tryd.prog X (Instr.storeAt 31 v9 v5) w11 fun w12=>K v7 v9 w12:=by
 have s1:=(s.alloc zG.toArray 28).alloc zM.toArray 31
 have al1:(Instr.alloc 28 true (.tuple #[])).run Tryd.prog w = .ok (.pointer (some ⟨w.heap.size,0,none⟩)) (w.alloc (.cells zG.toArray 28)):=by simp -dsimp [go_sem,zG]
 have al2:∀w1:World,(Instr.alloc 31 true (.tuple #[])).run Tryd.prog w1 = .ok (.pointer (some ⟨w1.heap.size,0,none⟩)) (w1.alloc (.cells zM.toArray 31)):=fun w1=>by simp -dsimp [go_sem,zM]
 have hc0:Chg noB w ((w.alloc (.cells zG.toArray 28)).alloc (.cells zM.toArray 31)):=((Chg.refl noB w).alloc _).alloc _
 have t1:=(((St.refl noB w).alloc zG.toArray 28).alloc zM.toArray 31)
 rw [RUN_eq,xt0,RES_ok,RUN_eq,xt1,RES_ok,RUN_eq,al1,RES_ok,RUN_eq,al2,RES_ok]
 have e1:((w.alloc (.cells zG.toArray 28)).heap.size)=w.heap.size+1:=by simp
 rw [e1] at s1 t1 ⊢
 generalize (w.alloc (.cells zG.toArray 28)).alloc (.cells zM.toArray 31)=w1 at s1 t1 ⊢
 obtain ⟨w2,r2,s2⟩:=storeG (A1:=A1) (A2:=A2) (A3:=A3) (A4:=A4) (n1:=n1) (n2:=n2) (n3:=n3) (n4:=n4) (c1:=c1) (c2:=c2) (c3:=c3) (c4:=c4) (x:=x) (g:=zG) (q2:=w.heap.size) s1 (k:=L.length) (by simp) rfl
 obtain ⟨w2',r2',t2⟩:=storeG (A1:=A1) (A2:=A2) (A3:=A3) (A4:=A4) (n1:=n1) (n2:=n2) (n3:=n3) (n4:=n4) (c1:=c1) (c2:=c2) (c3:=c3) (c4:=c4) (x:=x) t1 (k:=0) rfl rfl
 obtain rfl:w2'=w2:=by rw [r2] at r2';injection r2' with _ h;exact h.symm
 obtain ⟨w3,r3,s3⟩:=storeM (c:=c) (a:=a) (g:=zM) (q3:=w.heap.size+1) s2 (k:=L.length+1) (by simp) rfl
 obtain ⟨w3',r3',t3⟩:=storeM (c:=c) (a:=a) t2 (k:=1) rfl rfl
 obtain rfl:w3'=w3:=by rw [r3] at r3';injection r3' with _ h;exact h.symm
 rw [RUNU_eq,r2,RESU_ok,RUNU_eq,r3,RESU_ok]
 refine hK _ _ _ t3.chg ?_
 have:((L++[boxC w.heap.size 28 zG.toArray.toList]++[boxC (w.heap.size+1) 31 zM.toArray.toList]).set L.length (boxC w.heap.size 28 [.slice A1 n1 c1,.slice A2 n2 c2,.slice A3 n3 c3,.int .i64 x,.slice A4 n4 c4])).set (L.length+1) (boxC (w.heap.size+1) 31 [.int .i64 c,.int .i64 a,.slice none 0 0])=L++[boxC w.heap.size 28 [.slice A1 n1 c1,.slice A2 n2 c2,.slice A3 n3 c3,.int .i64 x,.slice A4 n4 c4],boxC (w.heap.size+1) 31 (mB c a)]:=by
  rw [List.append_assoc,List.set_append_right _ _ (by omega),Nat.sub_self,List.set_append_right _ _ (by omega),show L.length+1-L.length=1 by omega];rfl
 rw [←this];exact s3
theorem loadM {q c a:_} {k:Nat} (s:St G W w L) (hk:L[k]?=some (boxC q 31 (mB c a))):(Instr.loadAt 31 (.pointer (some ⟨q,0,none⟩))).run Tryd.prog w = .ok (mishV c a) w:=by
 have y:=(s.box k hk).1
 simp [boxAt,mB] at y
 simp -dsimp [go_sem,y,mishV]
end
end Go.Proofs.YtckbgeedlobfaaaDoor

/-
  Reading the table scan.orders out of a row's condition; the rows of this seat in general.
-/
namespace Go.Proofs.YtckbgeedlobfaaaDoor
open Go.Px Go.Px.Scan Go.ChangeShapes Go.WideShapes Go.ChangeAt Go.RowKit

theorem own:ownKnob Tryd.prog.godebug=none:=by kernel_rfl
theorem gTab:Tryd.prog.globalNamed "presage/scan.orders" = some 0:=by kernel_rfl
theorem gTabType:(Tryd.prog.globals[0]?).map (·.type)=some 24:=by kernel_rfl
theorem cells9:Tryd.prog.cellsOf 9=1:=by kernel_rfl

theorem opens9:Opens Tryd.prog 9 rStr:=opens_str Tryd.underlying9 cells9 (by kernel_rfl)
theorem strs_inj:∀{a b:List ByteArray},(strs a:List (DataW Unit))=strs b→a=b:=by
 intro a
 induction a with
 | nil=>intro b h;cases b with
  | nil=>rfl
  | cons y b=>simp [strs] at h
 | cons x a ih=>intro b h;cases b with
  | nil=>simp [strs] at h
  | cons y b =>
   simp only [strs,List.map_cons,List.cons.injEq] at h
   obtain ⟨h1,h2⟩:=h
   have e:x=y:=by
    injection h1 with h1
    injection h1 with h1
    cases x;cases y
    simp at h1
    cases h1;rfl
   rw [e,ih h2]

theorem laid_strs:(Rows.laid_presage_scan_orders:DataW Unit) = .slice (strs ordersL) (strs []):=rfl

theorem ord_of_laid {W:World} (h:laidMetH Tryd.prog [("presage/scan.orders",Rows.laid_presage_scan_orders)] W):Ord W W.heap.size:=by
 have h':laidMet Tryd.prog [("presage/scan.orders",Rows.laid_presage_scan_orders)] W:=h
 obtain ⟨ps,⟨g,t,cs,fuel,p,q,hg,ht,hvar,hd,_,_⟩,_⟩:=h'
 obtain rfl:=Option.some.inj (gTab.symm.trans hg)
 obtain rfl:=Option.some.inj (gTabType.symm.trans ht)
 rcases open_strings Tryd.underlying24 Tryd.underlying9 cells9 hd with ⟨_,h0⟩ | ⟨a,len,cap,ss,hcs,_,hl,hm,hlen,hx,hcell,hsz⟩
 ·cases h0
 ·injection hx with hx _
  rw [laid_strs] at hx
  injection hx with h1 h2
  have e1:=strs_inj h1
  have e2:=strs_inj h2
  have hss:ss=ordersL:=by
   have:=List.take_append_drop len ss
   rw [←e1,←e2] at this
   rw [←this];simp
  subst hss
  have hl7:len=7:=by
   have h3:=congrArg List.length e1
   have h4:=congrArg List.length e2
   simp [ordersL] at h3 h4 hlen
   omega
  subst hl7
  have hc0:W.cell? ⟨0,0,none⟩=some (.slice (some a) 7 cap):=by
   rw [World.var?_cell hg hvar 0,←Array.getElem?_toList,hcs];rfl
  have key:∀i,i<7→W.cell? (a.add i)=some (.string (ordersL.getD i ByteArray.empty)):=fun i hi=>hcell i (by simpa [ordersL] using hi)
  have ha:a=⟨a.block,a.off,none⟩:=by
   have h0:=key 0 (by omega)
   simp only [Addr.add,if_pos] at h0
   unfold World.cell? at h0
   split at h0
   ·split at h0
    ·cases h0
    ·rename_i hsp
     cases a with
     | mk b o s=>cases s with
      | none=>rfl
      | some s=>simp at hsp
   ·cases h0
  have hlt:a.block<W.heap.size:=World.block_lt_of_cell? W _ (key 0 (by omega))
  refine ⟨Nat.lt_of_le_of_lt (Nat.zero_le _) hlt,some a,cap,hc0,?_⟩
  refine ⟨some a,cap,rfl,hl,hm,trivial,fun _=>⟨a.block,a.off,by rw [←ha],hlt,fun i x hi=>⟨[.string x],⟨rfl,?_⟩,fun j u hj=>?_⟩⟩⟩
  ·exact hsz x (List.mem_of_getElem? hi)
  ·have hi7:i<7:=by have:=(List.getElem?_eq_some_iff.1 hi).1;simpa [ordersL] using this
   have h1:=key i hi7
   rw [ha,Addr.add_lit] at h1
   have hj0:j=0:=by have:=(List.getElem?_eq_some_iff.1 hj).1;simp at this;omega
   subst hj0
   simp at hj
   subst hj
   simp only [List.getD_eq_getElem?_getD,hi,Option.getD_some] at h1
   simpa [rStr] using h1

/-- A world for the witness: the table lies behind everything. -/
noncomputable def laidWorld (os:Os):World :=
 let W:=World.holding Tryd.prog os ⟨#[],#[],[]⟩
 let W1:=W.alloc (.cells #[.string ⟨#[37,108,101,102,116]⟩,.string ⟨#[37,110,111,110,97,115,115,111,99]⟩,.string ⟨#[37,110,111,110,101]⟩,.string ⟨#[37,112,114,101,99]⟩,.string ⟨#[37,114,105,103,104,116]⟩,.string ⟨#[37,115,116,97,114,116]⟩,.string ⟨#[37,116,111,107,101,110]⟩] 9)
 {W1 with heap:=W1.heap.modify 0 fun
   | .cells _ t frozen => .cells #[.slice (some ⟨W.heap.size,0,none⟩) 7 7] t frozen
   | o=>o }

theorem laid_met (os:Os) (args:Array Value):laidMet Tryd.prog [("presage/scan.orders",Rows.laid_presage_scan_orders)] ((laidWorld os).forCall (fun _ _=>0) ⟨#[],args,[]⟩).memory :=
 laidMet_of_run' 8 (by kernel_rfl) (by kernel_rfl)
end Go.Proofs.YtckbgeedlobfaaaDoor

/-
  Chapter 04's laws: same, alike, awake.
-/
namespace Go.Proofs.YtckbgeedlobfaaaDoor
open Go.Px Go.Px.Scan Go.Px.Spec Go.RowKit
attribute [-go_sem] Builtin.append_ law04_same.b1_3 law04_alike.b1_4 law04_alike.b1_3 law04_alike.b1_2 law04_awake.b1_7 law04_awake.b1_6 law04_awake.b1_5 law04_awake.b1_3

open Classical in
noncomputable def eqB {α:Type} (a b:α):Bool:=decide (a=b)
theorem eqB_iff {α:Type} {a b:α}:eqB a b=true↔a=b:=@decide_eq_true_iff _ (_)
theorem eqB_no {α:Type} {a b:α} (h:a≠b):eqB a b=false:=by rw [Bool.eq_false_iff];exact fun h'=>h (eqB_iff.1 h')
theorem eqB_of {α:Type} {a b:α} (h:a=b):eqB a b=true:=eqB_iff.2 h

theorem same_ct {w:World} {B:Nat} {va vb:Value} {x y:Gr×Int×Int} (ha:rGram.atN w B va x.1) (hb:rGram.atN w B vb y.1) (hB:B≤w.heap.size) :
  Ct Tryd.prog law04_same.id #[va,mishV x.2.1 x.2.2,vb,mishV y.2.1 y.2.2] w fun v w'=>v = .bool (eqB x y)∧Chg noB w w':=by
 obtain ⟨A1,c1,A2,c2,A3,c3,A4,c4,rfl,h1,h2,h3,h4,h5,⟨l1,m1⟩,⟨l2,m2⟩,⟨l3,m3⟩,⟨l4,m4⟩⟩:=(rGram_open ha).ex
 obtain ⟨B1,d1,B2,d2,B3,d3,B4,d4,rfl,g1,g2,g3,g4,g5,_⟩:=(rGram_open hb).ex
 refine law04_same.ct fun R hR=>?_
 unfold law04_same.run
 have s1:=(((St.refl noB w).alloc #[.slice A1 x.1.terms.length c1,.slice A2 x.1.nons.length c2,.slice A3 x.1.levels.length c3,.int .i64 x.1.start,.slice A4 x.1.prods.length c4] 28).alloc (mB x.2.1 x.2.2).toArray 31).alloc #[.slice B1 y.1.terms.length d1,.slice B2 y.1.nons.length d2,.slice B3 y.1.levels.length d3,.int .i64 y.1.start,.slice B4 y.1.prods.length d4] 28
 have s2:=s1.alloc (mB y.2.1 y.2.2).toArray 31
 simp [mB] at s2
 have k0:=(s2.box 0 rfl).1
 have k1:=(s2.box 1 rfl).1
 have k2:=(s2.box 2 rfl).1
 have k3:=(s2.box 3 rfl).1
 simp [boxAt] at k0 k1 k2 k3
 simp -dsimp [go_sem,k0,k1,k2,k3,mishV]
 generalize (((w.alloc (.cells _ 28)).alloc (.cells _ 31)).alloc (.cells _ 28)).alloc (.cells _ 31)=w2 at s2 ⊢
 have hbl:=s2.chg.below hB fun _ _=>id
 refine CALL_of (refSame_ct (rGram_below ha hbl) (rGram_below hb hbl) (by have:=s2.chg.size;omega)) ?_
 rintro _ w3 ⟨rfl,hc3⟩
 have s3:=s2.old hc3
 have k1:=(s3.box 1 rfl).1
 have k3:=(s3.box 3 rfl).1
 simp [boxAt] at k1 k3
 refine SPL_intro (fun p=>?_) (fun p=>?_)
 ·unfold law04_same.b1_3
  have q1:=sameB_iff.1 p
  simp -dsimp [go_sem,k1,k3]
  refine SPL_intro (fun q2=>?_) (fun q2=>?_) <;> simp at q2
  ·simp -dsimp [go_sem,k1,k3]
   refine SPL_intro (fun q3=>?_) (fun q3=>?_) <;> simp at q3
   ·simp -dsimp [go_sem,k1,k3]
    exact hR _ _ ⟨by rw [eqB_of (Prod.ext q1 (Prod.ext q2 q3))],s3.chg⟩
   ·exact hR _ _ ⟨by rw [eqB_no fun e=>q3 (by rw [e])],s3.chg⟩
  ·exact hR _ _ ⟨by rw [eqB_no fun e=>q2 (by rw [e])],s3.chg⟩
 ·have hn:x≠y:=fun e=>by rw [sameB_iff.2 (by rw [e])] at p;cases p
  exact hR _ _ ⟨by rw [eqB_no hn],s3.chg⟩

end Go.Proofs.YtckbgeedlobfaaaDoor

/-
  Chapter 04's laws: awake.
-/
namespace Go.Proofs.YtckbgeedlobfaaaDoor
open Go.Px Go.Px.Scan Go.Px.Spec Go.RowKit
attribute [-go_sem] Builtin.append_ law04_awake.b1_7 law04_awake.b1_6 law04_awake.b1_1

def awkA:ByteArray:=⟨#[101,32,58,32,101,32,39,43,39,32,110,32,124,32,110,32,59]⟩
def awkB:ByteArray:=⟨#[115,32,58]⟩
theorem awkA_is:(refG awkA).2.1=0∧(refG awkA).1.prods.length=2∧(refG awkA).1.terms.length=3:=by decide +kernel
theorem awkB_is:(refG awkB).2.1=10∧(refG awkB).2.2=3:=by decide +kernel
theorem awkC_is:badS ⟨#[]⟩=0:=by decide +kernel
theorem awk_le:awkA.size≤maxLen∧awkB.size≤maxLen∧(⟨#[]⟩:ByteArray).size≤maxLen:=by decide

theorem awake_ct {w:World} {B:Nat} (hO:Ord w B) (hB:B≤w.heap.size):Ct Tryd.prog law04_awake.id #[] w fun v w'=>v = .bool true∧Chg noB w w':=by
 refine law04_awake.ct fun R hR=>?_
 unfold law04_awake.run law04_awake.b1
 refine CALL_of (Read_as (s:=awkA) awk_le.1 hO hB) ?_
 rintro _ w1 ⟨vg,rfl,hr,hc⟩
 obtain ⟨a1,a2,a3⟩:=awkA_is
 generalize refG awkA=x at *
 obtain ⟨A1,c1,A2,c2,A3,c3,A4,c4,rfl,_⟩:=(rGram_open hr).ex
 unfold law04_awake.b1_7
 refine take2 (L:=[]) (St.refl noB w1) fun q1 q2 w2 hc2 s2=>?_
 have hO2:=hO.chg (hc.trans hc2) hB fun _ _=>id
 have hB2:B≤w2.heap.size:=by have:=(hc.trans hc2).size;omega
 refine CALL_of (Read_as (s:=awkB) awk_le.2.1 hO2 hB2) ?_
 rintro _ w3 ⟨vh,rfl,hr3,hc3⟩
 obtain ⟨b1,b2⟩:=awkB_is
 generalize refG awkB=y at *
 obtain ⟨B1,d1,B2,d2,B3,d3,B4,d4,rfl,_⟩:=(rGram_open hr3).ex
 unfold law04_awake.b1_6
 refine take2 (s2.old hc3) fun q3 q4 w4 hc4 s4=>?_
 have hcc:Chg noB w w4:=hc.trans (hc2.trans (hc3.trans hc4))
 have k0:=(s4.box 0 rfl).1
 have k1:=(s4.box 1 rfl).1
 have k3:=(s4.box 3 rfl).1
 simp [boxAt,mB,a1,a2,a3,b1,b2] at k0 k1 k3
 simp -dsimp [go_sem,k0,k1,k3,a1,a2,a3,b1,b2]
 unfold law04_awake.b1_1
 refine CALL_of (Bad_ct awk_le.2.2 (hO.chg hcc hB fun _ _=>id) (by have:=hcc.size;omega)) ?_
 rintro _ w5 ⟨rfl,hc5⟩
 rw [awkC_is]
 simp -dsimp [go_sem]
 exact hR _ _ ⟨rfl,hcc.trans hc5⟩
end Go.Proofs.YtckbgeedlobfaaaDoor

/-
  SpecReads: what was told is turned.
-/
namespace Go.Proofs.YtckbgeedlobfaaaDoor
open Go.Px Go.Px.Scan Go.Px.Spec Go.RowKit
attribute [-go_sem] Builtin.append_ law04_SpecReads.b4 law04_SpecReads.b5 law04_SpecReads.b8_1 law04_SpecReads.b14 law04_SpecReads.b16 law04_SpecReads.b19_1

section
variable {W w:World} {R:EP} {T:List Ch} {q:Nat} {A1 A2 A3 A4:Option Addr} {nT n2 n3 np c1 c2 c3 c4:Nat} {st:Int} {vs:List Value} {ps:List (Int×List Int×Int)} {x0 x1 x5 x8 x9 x10 x11:Value}
def muL (q:Nat) (A1 A2 A3 A4:Option Addr) (nT n2 n3 np c1 c2 c3 c4:Nat) (st:Int) (vs:List Value) (ps:List (Int×List Int×Int)) (xt:List Value) (T:List Ch):List Ch :=
 [rowC 39 2 A1 nT c1 xt,rowC 37 3 A4 np c4 ((ps.zip vs).flatMap prodE),rowsN vs (ps.map fun p=>p.2.1.length),boxC q 28 [.slice A1 nT c1,.slice A2 n2 c2,.slice A3 n3 c3,.int .i64 st,.slice A4 np c4]]++T

/-- The terminals' names are turned. -/
theorem mut_terms (xt:List Value) (s:St noB W w (muL q A1 A2 A3 A4 nT n2 n3 np c1 c2 c3 c4 st vs ps xt T))
  (hK:∀w' xt',St noB W w' (muL q A1 A2 A3 A4 nT n2 n3 np c1 c2 c3 c4 st vs ps xt' T)→law04_SpecReads.b4 R x0 x1 x5 x8 x9 x10 x11 w') :
  law04_SpecReads.b5 R x0 x1 x5 (.pointer (some ⟨q,0,none⟩)) x8 x9 x10 x11 w:=by
 unfold law04_SpecReads.b5
 refine law04_SpecReads.l7_intro _ _ _ _ _ _ _ _ _ _ _ (fun y w'=>∃(i:Nat) (xt:List Value),y = .int .i64 i∧i≤nT∧St noB W w' (muL q A1 A2 A3 A4 nT n2 n3 np c1 c2 c3 c4 st vs ps xt T)) (fun y _=>nT-iv y) ⟨0,xt,rfl,by omega,s⟩ ?_
 rintro _ w1 ⟨i,xt,rfl,hi,s1⟩ C7 hC
 have y1:=(s1.box 3 rfl).1
 simp [boxAt] at y1
 have hz:=s1.rowSize 0 rfl
 unfold law04_SpecReads.b8
 simp -dsimp [go_sem,y1]
 refine SPL_intro (fun p1=>?_) (fun p1=>?_) <;> simp at p1
 ·obtain ⟨g,rfl,cc,cf⟩:=s1.rowAt 0 rfl (j:=i*2) (by omega)
  have hm:nT≤maxLen:=by omega
  have wi:IntKind.i64.wrap ((i:Int)+1)=(i:Int)+1:=IntWalk.i64_in _ (by unfold maxLen at hm;omega)
  have s2:=s1.setRow 0 rfl (i*2) (.string ⟨#[109,105,110,101]⟩)
  unfold law04_SpecReads.b8_1
  simp -dsimp [go_sem,y1,p1,Nat.not_le.2 p1,cc,cf,wi]
  exact hC _ _ ⟨i+1,_,by simp,p1,s2⟩ (by simp [iv];omega)
 ·exact hK _ _ s1

/-- The rows are turned. -/
theorem mut_rows (xt:List Value) (hps:ps.length=np) (hvs:vs.length=np) (s:St noB W w (muL q A1 A2 A3 A4 nT n2 n3 np c1 c2 c3 c4 st vs ps xt T))
  (hK:∀w' xt',St noB W w' (muL q A1 A2 A3 A4 nT n2 n3 np c1 c2 c3 c4 st vs ps xt' T)→law04_SpecReads.b4 R x0 x1 x5 x8 x9 x10 x11 w') :
  law04_SpecReads.b9 R x0 x1 x5 (.pointer (some ⟨q,0,none⟩)) x8 x9 x10 x11 w:=by
 unfold law04_SpecReads.b9
 refine law04_SpecReads.l11_intro _ _ _ _ _ _ _ _ _ _ _ (fun y w'=>∃(i:Nat),y = .int .i64 i∧i≤np∧St noB W w' (muL q A1 A2 A3 A4 nT n2 n3 np c1 c2 c3 c4 st vs ps xt T)) (fun y _=>np-iv y) ⟨0,rfl,by omega,s⟩ ?_
 rintro _ w1 ⟨i,rfl,hi,s1⟩ C11 hC
 have y1:=(s1.box 3 rfl).1
 simp [boxAt] at y1
 have hz:=s1.rowSize 1 rfl
 unfold law04_SpecReads.b12
 simp -dsimp [go_sem,y1]
 refine SPL_intro (fun p1=>?_) (fun p1=>?_) <;> simp at p1
 ·have hm:np≤maxLen:=by omega
  have hiv:i<vs.length:=by omega
  have hip:i<ps.length:=by omega
  have hzi:(ps.zip vs)[i]?=some (ps[i],vs[i]):=by rw [List.getElem?_zip_eq_some];exact ⟨List.getElem?_eq_getElem hip,List.getElem?_eq_getElem hiv⟩
  unfold law04_SpecReads.b16
  refine law04_SpecReads.l18_intro _ _ _ _ _ _ (fun y w'=>∃(k:Nat),y = .int .i64 k∧k≤ps[i].2.1.length∧St noB W w' (muL q A1 A2 A3 A4 nT n2 n3 np c1 c2 c3 c4 st vs ps xt T)) (fun y _=>ps[i].2.1.length-iv y) ⟨0,rfl,by omega,s1⟩ ?_
  rintro _ w2 ⟨k,rfl,hk,s2⟩ C18 hC2
  have y2:=(s2.box 3 rfl).1
  simp [boxAt] at y2
  obtain ⟨F,ho,_⟩:=s2.get (k:=1) rfl
  obtain ⟨g,rfl,hc,_⟩:=row_elem ho (fun _ _=>rfl) (by omega) hzi
  have hc1:=hc 1 _ rfl
  obtain ⟨F2,ho2,_⟩:=s2.get (k:=2) rfl
  obtain ⟨a,c,xs,hv,hr⟩:=ho2.2 i vs[i] ps[i].2.1.length (List.getElem?_eq_getElem hiv) (by simp [hip])
  rw [hv] at hc1
  have hsz:=row_size hr
  have wi:IntKind.i64.wrap ((i:Int)+1)=(i:Int)+1:=IntWalk.i64_in _ (by unfold maxLen at hm;omega)
  unfold law04_SpecReads.b19
  simp -dsimp [go_sem,y2,p1,Nat.not_le.2 p1,hc1]
  refine SPL_intro (fun p2=>?_) (fun p2=>?_) <;> simp at p2
  ·have wk:IntKind.i64.wrap ((k:Int)+1)=(k:Int)+1:=IntWalk.i64_in _ (by have:=hsz.2;unfold maxLen at this;omega)
   obtain ⟨g2,rfl,cc,cf,_⟩:=row_at hr (j:=k) (by omega)
   have s3:=s2.setRowsN 2 rfl (i:=i) (g:=g2) (n:=ps[i].2.1.length) (c:=c) (by rw [List.getElem?_eq_getElem hiv,hv]) k (.int .i64 99)
   unfold law04_SpecReads.b19_1
   simp -dsimp [go_sem,y2,p1,Nat.not_le.2 p1,hc1,p2,Nat.not_le.2 p2,cc,cf,wk]
   exact hC2 _ _ ⟨k+1,by simp,p2,s3⟩ (by simp [iv];omega)
  ·unfold law04_SpecReads.b14
   simp -dsimp [go_sem,wi]
   exact hC _ _ ⟨i+1,by simp,p1,s2⟩ (by simp [iv];omega)
 ·exact mut_terms xt s1 hK
end
end Go.Proofs.YtckbgeedlobfaaaDoor

/-
  SpecReads.
-/
namespace Go.Proofs.YtckbgeedlobfaaaDoor
open Go.Px Go.Px.Scan Go.Px.Spec Go.RowKit
attribute [-go_sem] Builtin.append_ law04_SpecReads.b4 law04_SpecReads.b4_1 law04_SpecReads.b4_2 law04_SpecReads.b4_3 law04_SpecReads.b9 law04_SpecReads.b1_1 law04_SpecReads.b1_2 law04_SpecReads.b1_3

/-- What always holds of a grammar in new memory. -/
def Gd (g:Gr):Prop:=(∀t∈g.terms,t.1.size≤maxLen∧inI64 t.2)∧(∀s∈g.nons,s.size≤maxLen)∧(∀x∈g.levels,inI64 x)∧inI64 g.start∧∀p∈g.prods,inI64 p.1∧(∀x∈p.2.1,inI64 x)∧inI64 p.2.2

def gL (g:Gr) (A1 A2 A3 A4:Option Addr) (c1 c2 c3 c4:Nat) (vs:List Value):List Ch :=
 [rowC 39 2 A1 g.terms.length c1 (g.terms.flatMap termE),rowC 9 1 A2 g.nons.length c2 (g.nons.map Value.string),rowC 3 1 A3 g.levels.length c3 (g.levels.map (.int .i64 ·)),
   rowC 37 3 A4 g.prods.length c4 ((g.prods.zip vs).flatMap prodE),rowsC 3 1 vs (g.prods.map fun p=>p.2.1.map (.int .i64 ·))]
theorem read5 {W w:World} {g:Gr} {A1 A2 A3 A4:Option Addr} {c1 c2 c3 c4:Nat} {vs:List Value} (gd:Gd g) (s:St noB W w (gL g A1 A2 A3 A4 c1 c2 c3 c4 vs)) :
  rGram.atN w w.heap.size (.agg #[.slice A1 g.terms.length c1,.slice A2 g.nons.length c2,.slice A3 g.levels.length c3,.int .i64 g.start,.slice A4 g.prods.length c4]) g :=
 GrNew.read (w:=W) ⟨A1,c1,A2,c2,A3,c3,A4,c4,vs,rfl,s,gd⟩

def hL (x:Gr×Int×Int) (q3 q4:Nat) (B1 B2 B3 B4:Option Addr) (d1 d2 d3 d4:Nat) (us:List Value):List Ch :=
 gL x.1 B1 B2 B3 B4 d1 d2 d3 d4 us++[boxC q3 28 [.slice B1 x.1.terms.length d1,.slice B2 x.1.nons.length d2,.slice B3 x.1.levels.length d3,.int .i64 x.1.start,.slice B4 x.1.prods.length d4],boxC q4 31 (mB x.2.1 x.2.2)]

theorem reads_tail {s t:ByteArray} {w1 w11:World} {B:Nat} {R:EP} {x:Gr×Int×Int} {q1 q3 q4:Nat} {A1 A2 A3 A4 B1 B2 B3 B4:Option Addr} {c1 c2 c3 c4 d1 d2 d3 d4 n1 n2 n3 n4:Nat} {st:Int} {vs us:List Value} {ps:List (Int×List Int×Int)} {xt:List Value}
  (hs:s.size≤maxLen) (ht:t.size≤maxLen) (hx:refG s=x) (ord:∀w',Chg noB w1 w'→Ord w' B∧B≤w'.heap.size) (gh:Gd x.1)
  (s11:St noB w1 w11 (muL q1 A1 A2 A3 A4 n1 n2 n3 n4 c1 c2 c3 c4 st vs ps xt (hL x q3 q4 B1 B2 B3 B4 d1 d2 d3 d4 us)))
  (hR:∀w',Chg noB w1 w'→R (.returned (.bool true)) w') :
  law04_SpecReads.b4 R (.string s) (.string t) (.bool true) (.pointer (some ⟨q3,0,none⟩)) (.pointer (some ⟨q4,0,none⟩)) (.bool true) (.bool true) w11:=by
 unfold law04_SpecReads.b4
 have o11:=ord w11 s11.chg
 refine CALL_of (Read_as ht o11.1 o11.2) ?_
 rintro _ w12 ⟨vy,rfl,hy,hc12⟩
 generalize hyt:refG t=y at *
 obtain ⟨D1,e1,D2,e2,D3,e3,D4,e4,rfl,_⟩:=(rGram_open hy).ex
 unfold law04_SpecReads.b4_3
 refine take2 (s11.old hc12) fun q5 q6 w13 hc13 s13=>?_
 refine CALL_of (refRead_as ht w13) ?_
 rintro _ w14 ⟨vz,rfl,hz,hc14⟩
 rw [hyt] at hz ⊢
 obtain ⟨E1,f1,E2,f2,E3,f3,E4,f4,rfl,_⟩:=(rGram_open hz).ex
 unfold law04_SpecReads.b4_2
 refine take2 (s13.old hc14) fun q7 q8 w15 hc15 s15=>?_
 have m1:=loadG s15 (k:=11) rfl
 have m2:=loadM s15 (k:=12) rfl
 have m3:=loadG s15 (k:=13) rfl
 have m4:=loadM s15 (k:=14) rfl
 rw [RUN_eq,m1,RES_ok,RUN_eq,m2,RES_ok,RUN_eq,m3,RES_ok,RUN_eq,m4,RES_ok]
 have b1:=(hc13.trans (hc14.trans hc15)).below (Nat.le_refl _) fun _ _=>id
 have b2:=hc15.below (Nat.le_refl _) fun _ _=>id
 have z1:w12.heap.size≤w14.heap.size:=(hc13.trans hc14).size
 refine CALL_of (same_ct (x:=y) (y:=y) (rGram_up (rGram_below hy b1) z1) (rGram_below hz b2) hc15.size) ?_
 rintro _ w16 ⟨rfl,hc16⟩
 rw [eqB_of rfl]
 have s16:=s15.old hc16
 have o16:=ord w16 s16.chg
 refine CALL_of (Read_rf hs o16.1 o16.2) ?_
 rintro _ w17 ⟨vz,rfl,hz2⟩
 rw [hx] at hz2 ⊢
 have hz3:=hz2.read
 have hc17:=hz2.chg
 obtain ⟨F1,f1,F2,f2,F3,f3,F4,f4,rfl,_⟩:=(rGram_open hz3).ex
 unfold law04_SpecReads.b4_1
 refine take2 (s16.old hc17) fun q9 q10 w18 hc18 s18=>?_
 have n1:=loadG s18 (k:=15) rfl
 have n2:=loadM s18 (k:=16) rfl
 have n3:=loadG s18 (k:=9) rfl
 have n4:=loadM s18 (k:=10) rfl
 rw [RUN_eq,n1,RES_ok,RUN_eq,n2,RES_ok,RUN_eq,n3,RES_ok,RUN_eq,n4,RES_ok]
 refine CALL_of (same_ct (x:=x) (y:=x) (rGram_up (rGram_below hz3 (hc18.below (Nat.le_refl _) fun _ _=>id)) hc18.size) (read5 gh (vs:=us) (s18.pick [4,5,6,7,8] (by decide) rfl)) (Nat.le_refl _)) ?_
 rintro _ w19 ⟨rfl,hc19⟩
 rw [eqB_of rfl]
 simp -dsimp [go_sem]
 exact hR _ (s18.chg.trans hc19)

theorem SpecReads_ct {s t:ByteArray} {w:World} {B:Nat} (hs:s.size≤maxLen) (ht:t.size≤maxLen) (hO:Ord w B) (hB:B≤w.heap.size) :
  Ct Tryd.prog law04_SpecReads.id #[.string s,.string t] w fun v w'=>v = .bool true∧Chg noB w w':=by
 refine law04_SpecReads.ct fun R hR=>?_
 unfold law04_SpecReads.run law04_SpecReads.b1
 refine CALL_of (awake_ct hO hB) ?_
 rintro _ w1 ⟨rfl,hc1⟩
 have ord:∀w',Chg noB w1 w'→Ord w' B∧B≤w'.heap.size:=fun w' hc=>⟨hO.chg (hc1.trans hc) hB fun _ _=>id,by have:=(hc1.trans hc).size;omega⟩
 have o1:=ord w1 (Chg.refl _ _)
 refine CALL_of (Read_rf hs o1.1 o1.2) ?_
 rintro _ w2 ⟨vg,rfl,hg⟩
 obtain ⟨A1,c1,A2,c2,A3,c3,A4,c4,vs,rfl,s2,gg⟩:=hg
 generalize hx:refG s=x at *
 unfold law04_SpecReads.b1_3
 refine take2 s2 fun q1 q2 w3 hc3 s3=>?_
 refine CALL_of (refRead_ct' hs w3) ?_
 rintro _ w4 ⟨vh,rfl,hh⟩
 rw [hx] at hh ⊢
 obtain ⟨B1,d1,B2,d2,B3,d3,B4,d4,us,rfl,t4,gh⟩:=hh
 unfold law04_SpecReads.b1_2
 refine take2 (s3.seq t4) fun q3 q4 w5 hc5 s5=>?_
 have l1:=loadG s5 (k:=5) rfl
 have l2:=loadM s5 (k:=6) rfl
 have l3:=loadG s5 (k:=12) rfl
 have l4:=loadM s5 (k:=13) rfl
 rw [RUN_eq,l1,RES_ok,RUN_eq,l2,RES_ok,RUN_eq,l3,RES_ok,RUN_eq,l4,RES_ok]
 refine CALL_of (same_ct (x:=x) (y:=x) (read5 gg (vs:=vs) (s5.pick [0,1,2,3,4] (by decide) rfl)) (read5 gh (vs:=us) (s5.pick [7,8,9,10,11] (by decide) rfl)) (Nat.le_refl _)) ?_
 rintro _ w6 ⟨rfl,hc6⟩
 have s6:=s5.old hc6
 have o6:=ord w6 s6.chg
 refine CALL_of (Bad_ct hs o6.1 o6.2) ?_
 rintro _ w7 ⟨rfl,hc7⟩
 have s7:=s6.old hc7
 unfold law04_SpecReads.b1_1
 refine CALL_of (refBad_ct hs w7) ?_
 rintro _ w8 ⟨rfl,hc8⟩
 have s8:=s7.old hc8
 rw [eqB_of rfl]
 simp -dsimp [go_sem]
 have hsz:=s8.rowSize 3 rfl
 have hvl:vs.length=x.1.prods.length:=by obtain ⟨F,ho,_⟩:=s8.get (k:=4) rfl;simpa using ho.1
 have s9:=s8.turn (k:=4) (d:=rowsN vs (x.1.prods.map fun p=>p.2.1.length)) rfl (fun F h=>by
  have:=rowsN_of (ls:=x.1.prods.map fun p=>p.2.1) (by simpa [List.map_map,Function.comp_def] using h)
  simpa [List.map_map,Function.comp_def] using this)
 have s10:St noB w1 w8 (muL q1 A1 A2 A3 A4 x.1.terms.length x.1.nons.length x.1.levels.length x.1.prods.length c1 c2 c3 c4 x.1.start vs x.1.prods (x.1.terms.flatMap termE)
   [rowC 39 2 B1 x.1.terms.length d1 (x.1.terms.flatMap termE),rowC 9 1 B2 x.1.nons.length d2 (x.1.nons.map Value.string),rowC 3 1 B3 x.1.levels.length d3 (x.1.levels.map (.int .i64 ·)),rowC 37 3 B4 x.1.prods.length d4 ((x.1.prods.zip us).flatMap prodE),rowsC 3 1 us (x.1.prods.map fun p=>p.2.1.map (.int .i64 ·)),
    boxC q3 28 [.slice B1 x.1.terms.length d1,.slice B2 x.1.nons.length d2,.slice B3 x.1.levels.length d3,.int .i64 x.1.start,.slice B4 x.1.prods.length d4],boxC q4 31 (mB x.2.1 x.2.2)]):=s9.pick [0,3,4,5,7,8,9,10,11,12,13] (by decide) rfl
 refine mut_rows _ rfl hvl s10 fun w11 xt s11=>?_
 exact reads_tail hs ht hx ord gh s11 fun w' hc=>hR _ _ ⟨rfl,hc1.trans hc⟩
end Go.Proofs.YtckbgeedlobfaaaDoor

/-
  The law SpecReads returns true for every two texts, and nothing that was there before the call has turned: the tied card; its condition is that scan.orders holds its seven texts when the call begins, and no argument takes more than a machine has.
-/
namespace Go.Proofs.YtckbgeedlobfaaaDoor.specReads
open Go.Px Go.ChangeShapes Go.WideShapes Go.ChangeAt Go.RowKit Go.Px.Scan

set_option maxRecDepth 100000 in
theorem contract (H:Type) (enc:TypeId×Value→H) (W:World) (base:Nat) (args:Array Value) (ds gs:List (DataW H)) (before:List MemPlace)
  (hval:∀(j:Nat) t v,Tryd.f3.params[j]?=some t→args[j]?=some v→Value.okWide Tryd.prog W .any base t v)
  (hW:DataW.Whole enc Tryd.prog Tryd.f3.params.toList Rows.specReadsSpec.vars false W args.toList ds gs before)
  (hwt:(DataW.weightsEach Tryd.prog (Tryd.f3.params.toList++(OpenSpec.ofChange Rows.specReadsSpec).bare.plain.varTypes Tryd.prog) (ds++gs)).all (·≤reachBytes)=true) (hL:laidMetH Tryd.prog Rows.specReadsRow.laid W) :
  Calls Tryd.prog 3 args W fun e W'=>∃v,e = .returned v∧Rows.specReadsSpec.post enc Tryd.prog Tryd.f3 false true false false W args v W':=by
 have hW':=hW
 obtain ⟨p,q,hA0,hV,rfl,hfz,hnd⟩:=hW
 have hA:DataW.TrodAll enc Tryd.prog W 0 (fun _=>true) true Tryd.f3.params.toList args.toList ds p:=hA0
 rw [Tryd.params3] at hA hval hwt
 obtain ⟨v0,vs0,d0,ds0,p0,q0,hargs0,rfl,rfl,h0,r0⟩:=trodAll_cons hA
 obtain ⟨v1,vs1,d1,ds1,p1,q1,hargs1,rfl,rfl,h1,r1⟩:=trodAll_cons r0
 obtain ⟨rfl,rfl,rfl⟩:=trodAll_nil r1
 obtain rfl:args=#[v0,v1]:=by cases args;simp_all
 obtain ⟨rfl,rfl⟩:=trodVars_none hV
 have hwt':(DataW.weightsEach Tryd.prog ([9,9]++[]) ([d0,d1]++[])).all (·≤reachBytes)=true:=hwt
 simp only [List.append_nil,DataW.weightsEach,List.all_append,Bool.and_eq_true] at hwt'
 have ec0:v0.cells=#[v0]:=by obtain ⟨_,rfl⟩:=okWide_string Tryd.underlying9 (hval 0 9 v0 rfl rfl);rfl
 obtain ⟨a0,ha0,hf0,hb0⟩:=open_arg1 opens9 ec0 h0
 have hf0:=hf0 hwt'.1
 obtain ⟨rfl,hs0⟩:=str_at1 ha0
 have ec1:v1.cells=#[v1]:=by obtain ⟨_,rfl⟩:=okWide_string Tryd.underlying9 (hval 1 9 v1 rfl rfl);rfl
 obtain ⟨a1,ha1,hf1,hb1⟩:=open_arg1 opens9 ec1 h1
 have hf1:=hf1 hwt'.2
 obtain ⟨rfl,hs1⟩:=str_at1 ha1
 have hO:=ord_of_laid hL
 refine (SpecReads_ct hs0 hs1 hO (Nat.le_refl _)).2.mono fun e W' he=>?_
 cases e with
 | returned v =>
  obtain ⟨rfl,hb⟩:=he
  exact ⟨_,rfl,law_post (t:=4) (by kernel_rfl) (fun t ht=>by
   rw [Tryd.params3] at ht
   simp only [List.mem_cons,List.not_mem_nil,or_false] at ht
   rcases ht with rfl | rfl <;> exact ⟨by kernel_rfl,by decide +kernel⟩) rfl Tryd.underlying4 rfl hW' rfl rfl rfl (hb.below (Nat.le_refl _) fun _ _=>id)⟩
 | _=>exact he.elim

theorem reads (os:Os) {H:Type} (enc:TypeId×Value→H):∃places,DataW.whole enc Tryd.prog ((laidWorld os).forCall (fun _ _=>0) ⟨#[],#[.string ⟨#[]⟩,.string ⟨#[]⟩],[]⟩).memory Tryd.f3.params.toList Rows.specReadsSpec.vars false #[.string ⟨#[]⟩,.string ⟨#[]⟩].toList 8=some ([.lit (.string []),.lit (.string [])],[],places) :=
 ⟨[],by kernel_rfl⟩

set_option maxRecDepth 100000 in
theorem lifted (os:Os) (started:os.Started) (H:Type) (enc:TypeId×Value→H) (F:Stop.Interp) :
  ReturnsInHanded {} Tryd.checked os 3 .any ((OpenSpec.ofChange Rows.specReadsSpec).preRow enc Tryd.prog Tryd.f3 Rows.specReadsRow.domain false Rows.specReadsRow.laid) (((OpenSpec.ofChange Rows.specReadsSpec).at F).post enc Tryd.prog Tryd.f3 false true false false):=by
 obtain ⟨places,hx⟩:=reads os enc
 refine returnsInHanded_of_row (C:=Tryd.checked) (s:=OpenSpec.ofChange Rows.specReadsSpec) own started (by kernel_rfl) Tryd.func3
  (witness_row_atRef (enc:=enc) (C:=Tryd.checked) false (laidWorld os) #[.string ⟨#[]⟩,.string ⟨#[]⟩] rfl (by kernel_rfl) (by kernel_rfl) (by kernel_rfl)
   (OpenSpec.preRow_of_cond 8 hx (by kernel_rfl) (fun k hk=>by cases hk) (by kernel_rfl) (laid_met os _))) ?_
 intro W base args ds gs before hval hW _ _ hwt hL _ _
 exact contract H enc W base args ds gs before hval hW hwt hL

theorem said:Rows.SpecReadsSaid :=
 OpenClaim.holds_of_cond 3 Tryd.f3 rfl rfl rfl rfl rfl rfl rfl ⟨rfl,rfl,rfl,rfl,rfl⟩ rfl rfl rfl rfl rfl (by kernel_rfl) Tryd.func3 (by kernel_rfl)
  (of_decide_eq_true (by kernel_rfl)) (by unfold Func.isWrapper;first | (rw [if_pos (by decide +kernel)];kernel_rfl) | (rw [if_neg (by decide +kernel)];exact ⟨rfl,rfl⟩))
  (fun os started H enc _ F=>by rw [OpenClaim.pre_eq_preRow];exact lifted os started H enc F)

theorem plain (f:FuncId) (fn:Func) (hf:Tryd.pinned.checked.prog.funcNamed "presage/presagelaw04.SpecReads" = some f) (hfn:Tryd.pinned.checked.prog.funcs[f]?=some fn) :
  true=Tryd.pinned.checked.prog.looks []∧∀(j:Nat) t,fn.params[j]?=some t→Tryd.pinned.checked.prog.wantsStandIn t=false:=by
 obtain rfl:f=3:=Option.some.inj ((show Tryd.prog.funcNamed "presage/presagelaw04.SpecReads" = some 3 by kernel_rfl).symm.trans hf) |>.symm
 obtain rfl:fn=Tryd.f3:=(Option.some.inj (Tryd.func3.symm.trans hfn)).symm
 refine ⟨by kernel_rfl,fun j t ht=>?_⟩
 rw [Tryd.params3] at ht
 have hm:=Array.mem_of_getElem? ht
 simp only [List.mem_toArray,List.mem_cons,List.not_mem_nil,or_false] at hm
 rcases hm with rfl | rfl
 all_goals first | exact (show Tryd.prog.wantsStandIn 9=false by kernel_rfl) | exact (show Tryd.prog.wantsStandIn 9=false by kernel_rfl)

theorem card:Rows.SpecReadsCardSaid :=
 Claim7.holds_tied_plain_at .later [] _ _ _ _ said (fun _ h=>by cases h) (by kernel_rfl) (fun _ h=>by cases h) specReads_row_tie rfl ⟨rfl,rfl⟩ (by kernel_rfl) rfl plain (by kernel_rfl)

end Go.Proofs.YtckbgeedlobfaaaDoor.specReads

namespace Go.Proofs.YtckbgeedlobfaaaDoor
theorem SpecReads_holds:Rows.SpecReadsCardSaid:=specReads.card
end Go.Proofs.YtckbgeedlobfaaaDoor
#print axioms Go.Proofs.YtckbgeedlobfaaaDoor.SpecReads_holds
