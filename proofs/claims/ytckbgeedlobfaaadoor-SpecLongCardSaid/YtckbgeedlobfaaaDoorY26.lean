/-
  Texts of this claim: Lb1, LbW, Lb2, Lb3, ScSpec4, ScSpec5, ScSpec6, Ld0, Pl8, Lc0, Le0, Le1, RwLong.
-/
import Derived.Test.YtckbgeedlobfaaaDoorY25
import Derived.Test.YtckbgeedlobfaaaDoorY15
import Derived.Test.YtckbgeedlobfaaaDoorY03
import Derived.Test.YtckbgeedlobfaaaDoorCards
import Derived.Test.YtckbgeedlobfaaaDoorTie
import Derived.WalkKit
import Derived.ProofKit
import Derived.OpenShut
import Derived.Deep.DeepHandedRow
import Derived.Lib.LaidTab
import Derived.Deep.DeepWitnessRowRef
import Derived.Test.YtckbgeedlobfaaaDoorY16
set_option maxHeartbeats 1000000
set_option linter.unusedSimpArgs false
set_option linter.unusedVariables false
set_option maxRecDepth 100000
/-
  Chapter 04's laws: what Read tells, taken; the document's Same; alike; awake.
-/
namespace Go.Proofs.YtckbgeedlobfaaaDoor
open Go.Px Go.Px.Scan Go.Px.Spec Go.RowKit
attribute [-go_sem] Builtin.append_

/-- What is told, as data. -/
def AsG (s:ByteArray) (w:World) (v:Value) (w':World):Prop :=
 ∃vg,v = .tuple #[vg,mishV (refG s).2.1 (refG s).2.2]∧rGram.atN w' w'.heap.size vg (refG s).1∧Chg noB w w'
theorem RfAns.asG {s:ByteArray} {w w':World} {v:Value} (h:RfAns s w v w'):AsG s w v w':=by
 obtain ⟨vg,h1,h2⟩:=h;exact ⟨vg,h1,h2.read,h2.chg⟩
theorem Read_rf {s:ByteArray} {w:World} {B:Nat} (hs:s.size≤maxLen) (hO:Ord w B) (hB:B≤w.heap.size):Ct Tryd.prog spec_Read.id #[.string s] w (RfAns s w) :=
 (Read_ct hs hO hB).mono fun v w' h=>by
  obtain ⟨vg,h1,h2⟩:=h
  rw [readG_ref] at h1 h2
  exact ⟨vg,h1,h2⟩
theorem Read_as {s:ByteArray} {w:World} {B:Nat} (hs:s.size≤maxLen) (hO:Ord w B) (hB:B≤w.heap.size):Ct Tryd.prog spec_Read.id #[.string s] w (AsG s w):=(Read_rf hs hO hB).mono fun _ _ h=>h.asG

section
variable {X:Pan} {G:Nat→Prop} {W w:World} {L:List Ch}
def mB (c a:Int):List Value:=[.int .i64 c,.int .i64 a,.slice none 0 0]
/-- Two results, stored. -/
theorem take2 {A1 A2 A3 A4:Option Addr} {n1 n2 n3 n4 c1 c2 c3 c4:Nat} {x c a:Int} {K:Value→Value→World→Prop} (s:St G W w L)
  (hK:∀q1 q2 w',Chg noB w w'→St G W w' (L++[boxC q1 28 [.slice A1 n1 c1,.slice A2 n2 c2,.slice A3 n3 c3,.int .i64 x,.slice A4 n4 c4],boxC q2 31 (mB c a)])→K (.pointer (some ⟨q1,0,none⟩)) (.pointer (some ⟨q2,0,none⟩)) w') :
  RUN Tryd.prog X (Instr.extract (.tuple #[.agg #[.slice A1 n1 c1,.slice A2 n2 c2,.slice A3 n3 c3,.int .i64 x,.slice A4 n4 c4],mishV c a]) 0) w fun v3 w4 =>
  RUN Tryd.prog X (Instr.extract (.tuple #[.agg #[.slice A1 n1 c1,.slice A2 n2 c2,.slice A3 n3 c3,.int .i64 x,.slice A4 n4 c4],mishV c a]) 1) w4 fun v5 w6 =>
  RUN Tryd.prog X (Instr.alloc 28 true (.tuple #[])) w6 fun v7 w8 =>
  RUN Tryd.prog X (Instr.alloc 31 true (.tuple #[])) w8 fun v9 w10 =>
  RUNU Tryd.prog X (Instr.storeAt 28 v7 v3) w10 fun w11 =>
  RUNU Tryd.prog X (Instr.storeAt 31 v9 v5) w11 fun w12=>K v7 v9 w12:=by
 have s1:=(s.alloc zG.toArray 28).alloc zM.toArray 31
 have al1:(Instr.alloc 28 true (.tuple #[])).run Tryd.prog w = .ok (.pointer (some ⟨w.heap.size,0,none⟩)) (w.alloc (.cells zG.toArray 28)):=by simp -dsimp [go_sem,zG]
 have al2:∀w1:World,(Instr.alloc 31 true (.tuple #[])).run Tryd.prog w1 = .ok (.pointer (some ⟨w1.heap.size,0,none⟩)) (w1.alloc (.cells zM.toArray 31)):=fun w1=>by simp -dsimp [go_sem,zM]
 have hc0:Chg noB w ((w.alloc (.cells zG.toArray 28)).alloc (.cells zM.toArray 31)):=((Chg.refl noB w).alloc _).alloc _
 have t1:=(((St.refl noB w).alloc zG.toArray 28).alloc zM.toArray 31)
 rw [RUN_eq,xt0,RES_ok,RUN_eq,xt1,RES_ok,RUN_eq,al1,RES_ok,RUN_eq,al2,RES_ok]
 have e1:((w.alloc (.cells zG.toArray 28)).heap.size)=w.heap.size+1:=by simp
 rw [e1] at s1 t1 ⊢
 generalize (w.alloc (.cells zG.toArray 28)).alloc (.cells zM.toArray 31)=w1 at s1 t1 ⊢
 obtain ⟨w2,r2,s2⟩:=storeG (A1:=A1) (A2:=A2) (A3:=A3) (A4:=A4) (n1:=n1) (n2:=n2) (n3:=n3) (n4:=n4) (c1:=c1) (c2:=c2) (c3:=c3) (c4:=c4) (x:=x) (g:=zG) (q2:=w.heap.size) s1 (k:=L.length) (by simp) rfl
 obtain ⟨w2',r2',t2⟩:=storeG (A1:=A1) (A2:=A2) (A3:=A3) (A4:=A4) (n1:=n1) (n2:=n2) (n3:=n3) (n4:=n4) (c1:=c1) (c2:=c2) (c3:=c3) (c4:=c4) (x:=x) t1 (k:=0) rfl rfl
 obtain rfl:w2'=w2:=by rw [r2] at r2';injection r2' with _ h;exact h.symm
 obtain ⟨w3,r3,s3⟩:=storeM (c:=c) (a:=a) (g:=zM) (q3:=w.heap.size+1) s2 (k:=L.length+1) (by simp) rfl
 obtain ⟨w3',r3',t3⟩:=storeM (c:=c) (a:=a) t2 (k:=1) rfl rfl
 obtain rfl:w3'=w3:=by rw [r3] at r3';injection r3' with _ h;exact h.symm
 rw [RUNU_eq,r2,RESU_ok,RUNU_eq,r3,RESU_ok]
 refine hK _ _ _ t3.chg ?_
 have:((L++[boxC w.heap.size 28 zG.toArray.toList]++[boxC (w.heap.size+1) 31 zM.toArray.toList]).set L.length (boxC w.heap.size 28 [.slice A1 n1 c1,.slice A2 n2 c2,.slice A3 n3 c3,.int .i64 x,.slice A4 n4 c4])).set (L.length+1) (boxC (w.heap.size+1) 31 [.int .i64 c,.int .i64 a,.slice none 0 0])=L++[boxC w.heap.size 28 [.slice A1 n1 c1,.slice A2 n2 c2,.slice A3 n3 c3,.int .i64 x,.slice A4 n4 c4],boxC (w.heap.size+1) 31 (mB c a)]:=by
  rw [List.append_assoc,List.set_append_right _ _ (by omega),Nat.sub_self,List.set_append_right _ _ (by omega),show L.length+1-L.length=1 by omega];rfl
 rw [←this];exact s3
end
end Go.Proofs.YtckbgeedlobfaaaDoor

/-
  Reading the table scan.orders out of a row's condition; the rows of this seat in general.
-/
namespace Go.Proofs.YtckbgeedlobfaaaDoor
open Go.Px Go.Px.Scan Go.ChangeShapes Go.WideShapes Go.ChangeAt Go.RowKit

theorem own:ownKnob Tryd.prog.godebug=none:=by kernel_rfl
theorem gTab:Tryd.prog.globalNamed "presage/scan.orders" = some 0:=by kernel_rfl
theorem gTabType:(Tryd.prog.globals[0]?).map (·.type)=some 24:=by kernel_rfl
theorem cells9:Tryd.prog.cellsOf 9=1:=by kernel_rfl

theorem opens9:Opens Tryd.prog 9 rStr:=opens_str Tryd.underlying9 cells9 (by kernel_rfl)
theorem opens3:Opens Tryd.prog 3 rInt:=opens_int Tryd.underlying3 (by kernel_rfl) (by kernel_rfl)
theorem strs_inj:∀{a b:List ByteArray},(strs a:List (DataW Unit))=strs b→a=b:=by
 intro a
 induction a with
 | nil=>intro b h;cases b with
  | nil=>rfl
  | cons y b=>simp [strs] at h
 | cons x a ih=>intro b h;cases b with
  | nil=>simp [strs] at h
  | cons y b =>
   simp only [strs,List.map_cons,List.cons.injEq] at h
   obtain ⟨h1,h2⟩:=h
   have e:x=y:=by
    injection h1 with h1
    injection h1 with h1
    cases x;cases y
    simp at h1
    cases h1;rfl
   rw [e,ih h2]

theorem laid_strs:(Rows.laid_presage_scan_orders:DataW Unit) = .slice (strs ordersL) (strs []):=rfl

theorem ord_of_laid {W:World} (h:laidMetH Tryd.prog [("presage/scan.orders",Rows.laid_presage_scan_orders)] W):Ord W W.heap.size:=by
 have h':laidMet Tryd.prog [("presage/scan.orders",Rows.laid_presage_scan_orders)] W:=h
 obtain ⟨ps,⟨g,t,cs,fuel,p,q,hg,ht,hvar,hd,_,_⟩,_⟩:=h'
 obtain rfl:=Option.some.inj (gTab.symm.trans hg)
 obtain rfl:=Option.some.inj (gTabType.symm.trans ht)
 rcases open_strings Tryd.underlying24 Tryd.underlying9 cells9 hd with ⟨_,h0⟩ | ⟨a,len,cap,ss,hcs,_,hl,hm,hlen,hx,hcell,hsz⟩
 ·cases h0
 ·injection hx with hx _
  rw [laid_strs] at hx
  injection hx with h1 h2
  have e1:=strs_inj h1
  have e2:=strs_inj h2
  have hss:ss=ordersL:=by
   have:=List.take_append_drop len ss
   rw [←e1,←e2] at this
   rw [←this];simp
  subst hss
  have hl7:len=7:=by
   have h3:=congrArg List.length e1
   have h4:=congrArg List.length e2
   simp [ordersL] at h3 h4 hlen
   omega
  subst hl7
  have hc0:W.cell? ⟨0,0,none⟩=some (.slice (some a) 7 cap):=by
   rw [World.var?_cell hg hvar 0,←Array.getElem?_toList,hcs];rfl
  have key:∀i,i<7→W.cell? (a.add i)=some (.string (ordersL.getD i ByteArray.empty)):=fun i hi=>hcell i (by simpa [ordersL] using hi)
  have ha:a=⟨a.block,a.off,none⟩:=by
   have h0:=key 0 (by omega)
   simp only [Addr.add,if_pos] at h0
   unfold World.cell? at h0
   split at h0
   ·split at h0
    ·cases h0
    ·rename_i hsp
     cases a with
     | mk b o s=>cases s with
      | none=>rfl
      | some s=>simp at hsp
   ·cases h0
  have hlt:a.block<W.heap.size:=World.block_lt_of_cell? W _ (key 0 (by omega))
  refine ⟨Nat.lt_of_le_of_lt (Nat.zero_le _) hlt,some a,cap,hc0,?_⟩
  refine ⟨some a,cap,rfl,hl,hm,trivial,fun _=>⟨a.block,a.off,by rw [←ha],hlt,fun i x hi=>⟨[.string x],⟨rfl,?_⟩,fun j u hj=>?_⟩⟩⟩
  ·exact hsz x (List.mem_of_getElem? hi)
  ·have hi7:i<7:=by have:=(List.getElem?_eq_some_iff.1 hi).1;simpa [ordersL] using this
   have h1:=key i hi7
   rw [ha,Addr.add_lit] at h1
   have hj0:j=0:=by have:=(List.getElem?_eq_some_iff.1 hj).1;simp at this;omega
   subst hj0
   simp at hj
   subst hj
   simp only [List.getD_eq_getElem?_getD,hi,Option.getD_some] at h1
   simpa [rStr] using h1

/-- A world for the witness: the table lies behind everything. -/
noncomputable def laidWorld (os:Os):World :=
 let W:=World.holding Tryd.prog os ⟨#[],#[],[]⟩
 let W1:=W.alloc (.cells #[.string ⟨#[37,108,101,102,116]⟩,.string ⟨#[37,110,111,110,97,115,115,111,99]⟩,.string ⟨#[37,110,111,110,101]⟩,.string ⟨#[37,112,114,101,99]⟩,.string ⟨#[37,114,105,103,104,116]⟩,.string ⟨#[37,115,116,97,114,116]⟩,.string ⟨#[37,116,111,107,101,110]⟩] 9)
 {W1 with heap:=W1.heap.modify 0 fun
   | .cells _ t frozen => .cells #[.slice (some ⟨W.heap.size,0,none⟩) 7 7] t frozen
   | o=>o }

theorem laid_met (os:Os) (args:Array Value):laidMet Tryd.prog [("presage/scan.orders",Rows.laid_presage_scan_orders)] ((laidWorld os).forCall (fun _ _=>0) ⟨#[],args,[]⟩).memory :=
 laidMet_of_run' 8 (by kernel_rfl) (by kernel_rfl)
end Go.Proofs.YtckbgeedlobfaaaDoor

/-
  Chapter 04's laws: same, alike, awake.
-/
namespace Go.Proofs.YtckbgeedlobfaaaDoor
open Go.Px Go.Px.Scan Go.Px.Spec Go.RowKit
attribute [-go_sem] Builtin.append_ law04_same.b1_3 law04_alike.b1_4 law04_alike.b1_3 law04_alike.b1_2 law04_awake.b1_7 law04_awake.b1_6 law04_awake.b1_5 law04_awake.b1_3

end Go.Proofs.YtckbgeedlobfaaaDoor

/-
  Chapter 04's laws: awake.
-/
namespace Go.Proofs.YtckbgeedlobfaaaDoor
open Go.Px Go.Px.Scan Go.Px.Spec Go.RowKit
attribute [-go_sem] Builtin.append_ law04_awake.b1_7 law04_awake.b1_6 law04_awake.b1_1

def awkA:ByteArray:=⟨#[101,32,58,32,101,32,39,43,39,32,110,32,124,32,110,32,59]⟩
def awkB:ByteArray:=⟨#[115,32,58]⟩
theorem awkA_is:(refG awkA).2.1=0∧(refG awkA).1.prods.length=2∧(refG awkA).1.terms.length=3:=by decide +kernel
theorem awkB_is:(refG awkB).2.1=10∧(refG awkB).2.2=3:=by decide +kernel
theorem awkC_is:badS ⟨#[]⟩=0:=by decide +kernel
theorem awk_le:awkA.size≤maxLen∧awkB.size≤maxLen∧(⟨#[]⟩:ByteArray).size≤maxLen:=by decide

theorem awake_ct {w:World} {B:Nat} (hO:Ord w B) (hB:B≤w.heap.size):Ct Tryd.prog law04_awake.id #[] w fun v w'=>v = .bool true∧Chg noB w w':=by
 refine law04_awake.ct fun R hR=>?_
 unfold law04_awake.run law04_awake.b1
 refine CALL_of (Read_as (s:=awkA) awk_le.1 hO hB) ?_
 rintro _ w1 ⟨vg,rfl,hr,hc⟩
 obtain ⟨a1,a2,a3⟩:=awkA_is
 generalize refG awkA=x at *
 obtain ⟨A1,c1,A2,c2,A3,c3,A4,c4,rfl,_⟩:=(rGram_open hr).ex
 unfold law04_awake.b1_7
 refine take2 (L:=[]) (St.refl noB w1) fun q1 q2 w2 hc2 s2=>?_
 have hO2:=hO.chg (hc.trans hc2) hB fun _ _=>id
 have hB2:B≤w2.heap.size:=by have:=(hc.trans hc2).size;omega
 refine CALL_of (Read_as (s:=awkB) awk_le.2.1 hO2 hB2) ?_
 rintro _ w3 ⟨vh,rfl,hr3,hc3⟩
 obtain ⟨b1,b2⟩:=awkB_is
 generalize refG awkB=y at *
 obtain ⟨B1,d1,B2,d2,B3,d3,B4,d4,rfl,_⟩:=(rGram_open hr3).ex
 unfold law04_awake.b1_6
 refine take2 (s2.old hc3) fun q3 q4 w4 hc4 s4=>?_
 have hcc:Chg noB w w4:=hc.trans (hc2.trans (hc3.trans hc4))
 have k0:=(s4.box 0 rfl).1
 have k1:=(s4.box 1 rfl).1
 have k3:=(s4.box 3 rfl).1
 simp [boxAt,mB,a1,a2,a3,b1,b2] at k0 k1 k3
 simp -dsimp [go_sem,k0,k1,k3,a1,a2,a3,b1,b2]
 unfold law04_awake.b1_1
 refine CALL_of (Bad_ct awk_le.2.2 (hO.chg hcc hB fun _ _=>id) (by have:=hcc.size;omega)) ?_
 rintro _ w5 ⟨rfl,hc5⟩
 rw [awkC_is]
 simp -dsimp [go_sem]
 exact hR _ _ ⟨rfl,hcc.trans hc5⟩
end Go.Proofs.YtckbgeedlobfaaaDoor

/-
  What a bad place hangs on.
-/
namespace Go.Px.Scan
open Go.Px

theorem skip_loc {s t:ByteArray} (cm:Bool) (i:Nat):(∀j,i≤j→j≤skipS s cm i→bt t j=bt s j)→skipS s cm i<s.size→skipS s cm i<t.size→skipS t cm i=skipS s cm i:=by
 induction cm,i using skipS.induct s with
 | case1 i h ih =>
  intro ha h1 h2
  have e:skipS s true i=skipS s (decide (bt s i≠10)) (i+1):=by conv=>lhs;unfold skipS;rw [if_pos h,if_pos rfl]
  rw [e] at ha h1 h2 ⊢
  have hg:=skip_ge s (decide (bt s i≠10)) (i+1)
  conv=>lhs;unfold skipS
  rw [if_pos (by omega),if_pos rfl,ha i (by omega) (by omega)]
  exact ih (fun j hj=>ha j (by omega)) h1 h2
 | case2 cm i h hc h1 ih =>
  intro ha h3 h2
  have e:skipS s cm i=skipS s true (i+1):=by conv=>lhs;unfold skipS;rw [if_pos h,if_neg hc,if_pos h1]
  rw [e] at ha h3 h2 ⊢
  have hg:=skip_ge s true (i+1)
  conv=>lhs;unfold skipS
  rw [if_pos (by omega),if_neg hc,if_pos (by rw [ha i (by omega) (by omega)];exact h1)]
  exact ih (fun j hj=>ha j (by omega)) h3 h2
 | case3 cm i h hc h1 hb ih =>
  intro ha h3 h2
  have e:skipS s cm i=skipS s false (i+1):=by conv=>lhs;unfold skipS;rw [if_pos h,if_neg hc,if_neg h1,if_pos hb]
  rw [e] at ha h3 h2 ⊢
  have hg:=skip_ge s false (i+1)
  conv=>lhs;unfold skipS
  rw [if_pos (by omega),if_neg hc,if_neg (by rw [ha i (by omega) (by omega)];exact h1),if_pos (by rw [ha i (by omega) (by omega)];exact hb)]
  exact ih (fun j hj=>ha j (by omega)) h3 h2
 | case4 cm i h hc h1 hb =>
  intro ha h3 h2
  have e:skipS s cm i=i:=by unfold skipS;rw [if_pos h,if_neg hc,if_neg h1,if_neg hb]
  rw [e] at ha h3 h2 ⊢
  unfold skipS
  rw [if_pos (by omega),if_neg hc,if_neg (by rw [ha i (by omega) (by omega)];exact h1),if_neg (by rw [ha i (by omega) (by omega)];exact hb)]
 | case5 cm i h =>
  intro ha h3 h2
  have:=skip_ge s cm i
  omega

/-- Where skipping has come to the text's end, it goes on behind it. -/
theorem skip_over {s t:ByteArray} (cm:Bool) (i:Nat):i≤s.size→s.size≤skipS s cm i→s.size≤t.size→(∀j,j<s.size→bt t j=bt s j)→∃cm',skipS t cm i=skipS t cm' s.size:=by
 induction cm,i using skipS.induct s with
 | case1 i h ih =>
  intro hi h1 hst ha
  have e:skipS s true i=skipS s (decide (bt s i≠10)) (i+1):=by conv=>lhs;unfold skipS;rw [if_pos h,if_pos rfl]
  rw [e] at h1
  obtain ⟨c,hc⟩:=ih h h1 hst ha
  refine ⟨c,?_⟩
  rw [←hc]
  conv=>lhs;unfold skipS
  rw [if_pos (by omega),if_pos rfl,ha i h]
 | case2 cm i h hc h0 ih =>
  intro hi h1 hst ha
  have e:skipS s cm i=skipS s true (i+1):=by conv=>lhs;unfold skipS;rw [if_pos h,if_neg hc,if_pos h0]
  rw [e] at h1
  obtain ⟨c,hc'⟩:=ih h h1 hst ha
  refine ⟨c,?_⟩
  rw [←hc']
  conv=>lhs;unfold skipS
  rw [if_pos (by omega),if_neg hc,if_pos (by rw [ha i h];exact h0)]
 | case3 cm i h hc h0 hb ih =>
  intro hi h1 hst ha
  have e:skipS s cm i=skipS s false (i+1):=by conv=>lhs;unfold skipS;rw [if_pos h,if_neg hc,if_neg h0,if_pos hb]
  rw [e] at h1
  obtain ⟨c,hc'⟩:=ih h h1 hst ha
  refine ⟨c,?_⟩
  rw [←hc']
  conv=>lhs;unfold skipS
  rw [if_pos (by omega),if_neg hc,if_neg (by rw [ha i h];exact h0),if_pos (by rw [ha i h];exact hb)]
 | case4 cm i h hc h0 hb =>
  intro hi h1 hst ha
  have e:skipS s cm i=i:=by unfold skipS;rw [if_pos h,if_neg hc,if_neg h0,if_neg hb]
  omega
 | case5 cm i h =>
  intro hi h1 hst ha
  have:i=s.size:=by omega
  exact ⟨cm,by rw [this]⟩

theorem run_loc (p:Nat→Bool) {s t:ByteArray}:∀(n i:Nat),(∀j,i≤j→j<runS p s i n→bt t j=bt s j)→runS p s i n≤t.size →
  (runS p s i n<t.size→(runS p s i n<s.size∧bt t (runS p s i n)=bt s (runS p s i n))∨p (bt t (runS p s i n))=false∨runS p s i n=i+n)→runS p t i n=runS p s i n
 | 0,i,_,_,_=>rfl
 | n+1,i,ha,h1,h2=>by
  by_cases hc:(i<s.size && p (bt s i))=true
  ·have e:runS p s i (n+1)=runS p s (i+1) n:=by conv=>lhs;unfold runS;rw [if_pos hc]
   rw [e] at ha h1 h2 ⊢
   have hg:=run_ge p s n (i+1)
   have hti:=ha i (by omega) (by omega)
   conv=>lhs;unfold runS
   simp at hc
   rw [if_pos (by simp [hti,hc.2];omega)]
   exact run_loc p n (i+1) (fun j hj=>ha j (by omega)) h1 (fun h=>by
    rcases h2 h with h3 | h3 | h3
    ·exact Or.inl h3
    ·exact Or.inr (Or.inl h3)
    ·exact Or.inr (Or.inr (by omega)))
  ·have e:runS p s i (n+1)=i:=by conv=>lhs;unfold runS;rw [if_neg hc]
   rw [e] at ha h1 h2 ⊢
   unfold runS
   rw [if_neg]
   intro hn
   simp at hn hc
   rcases h2 hn.1 with h3 | h3 | h3
   ·rw [h3.2] at hn;exact absurd hn.2 (by simp [hc h3.1])
   ·rw [h3] at hn;simp at hn
   ·omega

theorem extract_loc {s t:ByteArray} {a e:Nat} (hs:e≤s.size) (ht:e≤t.size) (h:∀j,a≤j→j<e→bt t j=bt s j):t.extract a e=s.extract a e:=by
 apply bs_ext
 have h1:=Lib.extract_toList t a e
 have h2:=Lib.extract_toList s a e
 rw [ByteArray.toList_eq] at h1 h2
 rw [h1,h2]
 apply List.ext_getElem?
 intro i
 simp only [List.getElem?_take,List.getElem?_drop]
 split
 ·rename_i hi
  have hj:=h (a+i) (by omega) (by omega)
  obtain ⟨c,hc,ec⟩:=list_bt (s:=s) (i:=a+i) (by omega)
  obtain ⟨d,hd,ed⟩:=list_bt (s:=t) (i:=a+i) (by omega)
  rw [hc,hd]
  congr 1
  apply UInt8.toNat_inj.1
  omega
 ·rfl

theorem ord_loc {s t:ByteArray} (a k:Nat):k≤s.size→(∀j,a≤j→j<(ordS s a k).1→bt t j=bt s j)→(ordS s a k).1≤t.size→a≤k →
  ((ordS s a k).1<t.size→((ordS s a k).1<s.size∧bt t (ordS s a k).1=bt s (ordS s a k).1)∨(letterN (bt t (ordS s a k).1)=false∧(ordS s a k).2=true))→((ordS s a k).2=false→(ordS s a k).1<t.size)→ordS t a k=ordS s a k:=by
 induction k using ordS.induct s a with
 | case1 k h h1 ih =>
  intro hk ha hle hak h2 h3
  have e:ordS s a k=ordS s a (k+1):=by conv=>lhs;unfold ordS;rw [if_pos h,if_pos h1]
  rw [e] at ha hle h2 h3 ⊢
  have hg:=ord_ge s a (k+1)
  conv=>lhs;unfold ordS
  rw [if_pos ⟨by omega,by rw [ha k hak (by omega)];exact h.2⟩,if_pos (by rw [extract_loc (s:=s) (by omega) (by omega) (fun j hj hj'=>ha j hj (by omega))];exact h1)]
  exact ih (by omega) ha hle (by omega) h2 h3
 | case2 k h h1 =>
  intro hk ha hle hak h2 h3
  have e:ordS s a k=(k,false):=by conv=>lhs;unfold ordS;rw [if_pos h,if_neg h1]
  rw [e] at ha hle h2 h3 ⊢
  have hlt:=h3 rfl
  have hb:bt t k=bt s k:=by
   rcases h2 hlt with h4 | h4
   ·exact h4.2
   ·cases h4.2
  unfold ordS
  rw [if_pos ⟨hlt,by rw [hb];exact h.2⟩,if_neg]
  rw [extract_loc (s:=s) (by omega) (by simp at hlt;omega) (fun j hj hj'=>by
   by_cases hjk:j<k
   ·exact ha j hj hjk
   ·have:j=k:=by omega
    rw [this,hb])]
  exact h1
 | case3 k h =>
  intro hk ha hle hak h2 h3
  have e:ordS s a k=(k,true):=by conv=>lhs;unfold ordS;rw [if_neg h]
  rw [e] at ha hle h2 h3 ⊢
  unfold ordS
  rw [if_neg]
  rintro ⟨h4,h5⟩
  rcases h2 h4 with h6 | h6
  ·simp at h6 h5
   exact h ⟨h6.1,by rw [←h6.2];exact h5⟩
  ·rw [h6.1] at h5;cases h5
end Go.Px.Scan

/-
  Words and bad places of texts that begin alike.
-/
namespace Go.Px.Scan
open Go.Px

theorem letter_of_inner {c:Nat} (h:innerN c=false):letterN c=false:=by
 simp [innerN] at h;exact h.1

theorem word_loc {s t:ByteArray} {j kd a b n:Nat} (hj:j<s.size) (h:oneS s j = .word kd a b n) (hA:∀i,j≤i→i<n→bt t i=bt s i) (hn:n≤t.size)
  (hE:n<t.size→(n<s.size∧bt t n=bt s n)∨innerN (bt t n)=false):oneS t j = .word kd a b n:=by
 have hw:=one_word hj h
 have h0:=hA j (Nat.le_refl _) hw.1
 unfold oneS at h ⊢
 rw [h0]
 split at h
 ·rename_i h1;rw [if_pos h1];exact h
 rename_i h1;rw [if_neg h1]
 split at h
 ·rename_i h2;rw [if_pos h2]
  split at h
  ·rename_i h3
   injection h with e1 e2 e3 e4
   simp only [Bool.and_eq_true] at h3
   have ho:ordS t j (j+1)=ordS s j (j+1):=by
    refine ord_loc j (j+1) hj ?_ (by rw [e3,];omega) (by omega) ?_ ?_
    ·intro i hi hi';exact hA i hi (by omega)
    ·intro hlt
     rw [e4] at hlt ⊢
     rcases hE hlt with h4 | h4
     ·exact Or.inl h4
     ·exact Or.inr ⟨letter_of_inner h4,h3.1⟩
    ·intro hf;rw [h3.1] at hf;cases hf
   rw [ho,extract_loc (s:=s) (by omega) (by omega) (fun i hi hi'=>hA i hi (by omega)),if_pos (by simp [h3]),e3,e1,e2]
   congr 1;omega
  ·cases h
 rename_i h2;rw [if_neg h2]
 split at h
 ·rename_i h3;rw [if_pos h3]
  split at h
  ·rename_i h4
   injection h with e1 e2 e3 e4
   have hr:runS plainN t (j+1) 16=runS plainN s (j+1) 16:=by
    refine run_loc plainN 16 (j+1) (fun i hi hi'=>hA i (by omega) (by omega)) (by omega) (fun _=>Or.inl ⟨h4.2.1,hA _ (by omega) (by omega)⟩)
   rw [hr,if_pos ⟨h4.1,by omega,by rw [hA _ (by omega) (by omega)];exact h4.2.2⟩]
   rw [←e1,←e2,←e3,←e4]
  ·cases h
 rename_i h3;rw [if_neg h3]
 split at h
 ·rename_i h4;rw [if_pos h4]
  split at h
  ·cases h
  ·rename_i h5
   injection h with e1 e2 e3 e4
   have hr:runS innerN t j 16=runS innerN s j 16:=by
    refine run_loc innerN 16 j (fun i hi hi'=>hA i (by omega) (by omega)) (by omega) (fun hlt=>?_)
    rw [e4] at hlt ⊢
    rcases hE hlt with h6 | h6
    ·exact Or.inl h6
    ·exact Or.inr (Or.inl h6)
   rw [hr,if_neg]
   ·rw [←e1,←e2,←e3,←e4]
   rintro ⟨h6,h7⟩
   rw [e4] at h6 h7
   rcases hE h6 with h8 | h8
   ·exact h5 (by rw [e4];exact ⟨h8.1,by rw [←h8.2];exact h7⟩)
   ·rw [h8] at h7;cases h7
 ·cases h

theorem bad_loc {s t:ByteArray} {j k:Nat} (hj:j<s.size) (h:oneS s j = .bad k) (hk:k<s.size) (hkt:k<t.size) (hA:∀i,j≤i→i≤k→bt t i=bt s i):oneS t j = .bad k:=by
 have hb:=one_bad hj h
 have h0:=hA j (Nat.le_refl _) hb.1
 unfold oneS at h ⊢
 rw [h0]
 split at h
 ·cases h
 rename_i h1;rw [if_neg h1]
 split at h
 ·rename_i h2;rw [if_pos h2]
  split at h
  ·cases h
  ·rename_i h3
   injection h with e1
   have ho:ordS t j (j+1)=ordS s j (j+1) :=
    ord_loc j (j+1) hj (fun i hi hi'=>hA i hi (by omega)) (by omega) (by omega) (fun _=>Or.inl ⟨by omega,hA _ (by omega) (by omega)⟩) (fun _=>by omega)
   rw [ho,extract_loc (s:=s) (by omega) (by omega) (fun i hi hi'=>hA i hi (by omega)),if_neg h3,e1]
 rename_i h2;rw [if_neg h2]
 split at h
 ·rename_i h3;rw [if_pos h3]
  split at h
  ·cases h
  ·rename_i h4
   injection h with e1
   have hr:runS plainN t (j+1) 16=runS plainN s (j+1) 16 :=
    run_loc plainN 16 (j+1) (fun i hi hi'=>hA i (by omega) (by omega)) (by omega) (fun _=>Or.inl ⟨by omega,hA _ (by have:=run_ge plainN s 16 (j+1);omega) (by omega)⟩)
   rw [hr,if_neg,e1]
   rintro ⟨h5,h6,h7⟩
   exact h4 ⟨h5,by omega,by rw [←hA _ (by omega) (by omega)];exact h7⟩
 rename_i h3;rw [if_neg h3]
 split at h
 ·rename_i h4;rw [if_pos h4]
  split at h
  ·rename_i h5
   injection h with e1
   have hr:runS innerN t j 16=runS innerN s j 16 :=
    run_loc innerN 16 j (fun i hi hi'=>hA i (by omega) (by omega)) (by omega) (fun _=>Or.inl ⟨by omega,hA _ (by have:=run_ge innerN s 16 j;omega) (by omega)⟩)
   rw [hr,if_pos ⟨by omega,by rw [hA _ (by have:=run_ge innerN s 16 j;omega) (by omega)];exact h5.2⟩,e1]
  ·cases h
 ·rename_i h4;rw [if_neg h4];exact h

theorem all_ge {s:ByteArray} (i:Nat):∀k,(allS s i).2=some k→i≤k∧k≤s.size:=by
 induction i using allS.induct s with
 | case1 i h k0 h1 =>
  intro k hk
  rw [all_bad h h1] at hk
  simp at hk
  have:=one_bad h h1
  have:=skip_ge s false i
  omega
 | case2 i h kd a b n h1 ih =>
  intro k hk
  rw [all_word h h1] at hk
  have:=ih k hk
  have:=one_word h h1
  have:=skip_ge s false i
  omega
 | case3 i h=>intro k hk;rw [all_end h] at hk;cases hk

end Go.Px.Scan

/-
  Words with blanks between them.
-/
namespace Go.Px.Scan
open Go.Px

/-! ### Blanks -/

theorem app_bt {s t:ByteArray} {i:Nat} (h:i<s.size):bt (s++t) i=bt s i:=by
 rw [bt_list,bt_list]
 simp only [ByteArray.data_append,Array.toList_append,List.getD_eq_getElem?_getD]
 rw [List.getElem?_append_left (by simpa using h)]
theorem app_bt2 {s t:ByteArray} (i:Nat):bt (s++t) (s.size+i)=bt t i:=by
 rw [bt_list,bt_list]
 simp only [ByteArray.data_append,Array.toList_append,List.getD_eq_getElem?_getD]
 rw [List.getElem?_append_right (by simp)]
 simp

end Go.Px.Scan

/-
  Texts that begin alike: their words.
-/
namespace Go.Px.Scan
open Go.Px

/-- Behind a bad place it does not matter what stands. -/
theorem all_bad_eq {s t:ByteArray} (i:Nat):∀k,(allS s i).2=some k→k<s.size→k<t.size→(∀j,j≤k→bt t j=bt s j)→allS t i=allS s i:=by
 induction i using allS.induct s with
 | case1 i h k0 h1 =>
  intro k hk hks hkt hA
  rw [all_bad h h1] at hk
  simp at hk
  subst hk
  have hb:=one_bad h h1
  have hsk:=skip_loc (t:=t) false i (fun j _ hj=>hA j (by omega)) h (by omega)
  rw [all_bad h h1,all_bad (by rw [hsk];omega) (by rw [hsk];exact bad_loc h h1 hks hkt (fun j _ hj=>hA j hj))]
 | case2 i h kd a b n h1 ih =>
  intro k hk hks hkt hA
  rw [all_word h h1] at hk
  have hg:=all_ge n k hk
  have hw:=one_word h h1
  have hsk:=skip_loc (t:=t) false i (fun j _ hj=>hA j (by omega)) h (by omega)
  rw [all_word h h1,all_word (by rw [hsk];omega) (by rw [hsk];exact word_loc h h1 (fun j _ hj=>hA j (by omega)) (by omega) (fun _=>Or.inl ⟨by omega,hA n (by omega)⟩)),
   ih k hk hks hkt hA,hsk,extract_loc (s:=s) (t:=t) (a:=a) (e:=b) (by omega) (by omega) (fun j _ hj=>hA j (by omega))]
 | case3 i h=>intro k hk;rw [all_end h] at hk;cases hk

/-- A text that goes on is read as far as it went. -/
theorem all_pre {s t:ByteArray} (hle:s.size≤t.size) (hA:∀j,j<s.size→bt t j=bt s j) (hE:s.size<t.size→innerN (bt t s.size)=false) (i:Nat):∃l,(allS t i).1=(allS s i).1++l:=by
 induction i using allS.induct s with
 | case1 i h k0 h1=>rw [all_bad h h1];exact ⟨_,(List.nil_append _).symm⟩
 | case2 i h kd a b n h1 ih =>
  have hw:=one_word h h1
  obtain ⟨l,hl⟩:=ih
  have hsk:=skip_loc (t:=t) false i (fun j _ hj=>hA j (by omega)) h (by omega)
  rw [all_word h h1,all_word (by rw [hsk];omega) (by
   rw [hsk]
   refine word_loc h h1 (fun j _ hj=>hA j (by omega)) (by omega) (fun hlt=>?_)
   by_cases hn:n<s.size
   ·exact Or.inl ⟨hn,hA n hn⟩
   ·have:n=s.size:=by omega
    rw [this];exact Or.inr (hE (by omega)))]
  rw [hl,hsk,extract_loc (s:=s) (t:=t) (a:=a) (e:=b) (by omega) (by omega) (fun j _ hj=>hA j (by omega))]
  exact ⟨l,by simp⟩
 | case3 i h=>rw [all_end h];exact ⟨_,(List.nil_append _).symm⟩

/-- New lines behind a text. -/
theorem skip_nl {t:ByteArray} {i:Nat} (h10:∀j,i≤j→j<t.size→bt t j=10):∀(n:Nat) (cm:Bool),i+n=t.size→skipS t cm i=t.size:=by
 have key:∀(n:Nat) (cm:Bool) (k:Nat),i≤k→k+n=t.size→skipS t cm k=t.size:=fun n=>by
  induction n with
  | zero=>intro cm k _ hk;rw [skip_end (by omega)];omega
  | succ n ih =>
   intro cm k hik hk
   unfold skipS
   rw [if_pos (by omega),h10 k hik (by omega)]
   cases cm with
   | true=>rw [if_pos rfl];exact ih _ _ (by omega) (by omega)
   | false=>simp [blankN];exact ih _ _ (by omega) (by omega)
 exact fun n cm h=>key n cm i (Nat.le_refl _) h
theorem all_nl {s t:ByteArray} (ht:s.size≤t.size) (hA:∀j,j<s.size→bt t j=bt s j) (h10:∀j,s.size≤j→j<t.size→bt t j=10) (i:Nat) :
  i≤s.size→(allS s i).2=none→allS t i=allS s i:=by
 induction i using allS.induct s with
 | case1 i h k0 h1=>intro _ hk;rw [all_bad h h1] at hk;cases hk
 | case2 i h kd a b n h1 ih =>
  intro hi hk
  rw [all_word h h1] at hk
  have hw:=one_word h h1
  have hsk:=skip_loc (t:=t) false i (fun j _ hj=>hA j (by omega)) h (by omega)
  rw [all_word h h1,all_word (by rw [hsk];omega) (by
   rw [hsk]
   refine word_loc h h1 (fun j _ hj=>hA j (by omega)) (by omega) (fun hlt=>?_)
   by_cases hn:n<s.size
   ·exact Or.inl ⟨hn,hA n hn⟩
   ·have:n=s.size:=by omega
    rw [this,h10 _ (by omega) (by omega)];exact Or.inr rfl),ih hw.2.1 hk,hsk,extract_loc (s:=s) (t:=t) (a:=a) (e:=b) (by omega) (by omega) (fun j _ hj=>hA j (by omega))]
 | case3 i h =>
  intro hi _
  obtain ⟨cm,hc⟩:=skip_over (t:=t) false i hi (by omega) ht hA
  rw [all_end h,all_end (by rw [hc,skip_nl h10 (t.size-s.size) cm (by omega)];omega)]
end Go.Px.Scan

/-
  What is told is plain.
-/
namespace Go.Px.Spec
open Go.Px Go.Px.Scan
end Go.Px.Spec
namespace Go.Proofs.YtckbgeedlobfaaaDoor
open Go.Px Go.Px.Scan Go.Px.Spec Go.RowKit

end Go.Proofs.YtckbgeedlobfaaaDoor

/-
  Where a bad place may be.
-/
namespace Go.Proofs.YtckbgeedlobfaaaDoor
open Go.Px Go.Px.Scan Go.Px.Spec Go.RowKit
theorem big_words {s:ByteArray} (h:8192<s.size):wordsS s=([],some 8192):=by unfold wordsS;rw [if_pos h]
theorem small_words {s:ByteArray} (h:¬8192<s.size):wordsS s=allS s 0:=by unfold wordsS;rw [if_neg h]
end Go.Proofs.YtckbgeedlobfaaaDoor

/-
  Bad places of texts that begin alike.
-/
namespace Go.Proofs.YtckbgeedlobfaaaDoor
open Go.Px Go.Px.Scan Go.Px.Spec Go.RowKit
theorem go_split {l:List Wd}:∀{m m':Mc} {x:Wd} {C:List Wd},goM m l=(m',x::C)→∃A,l=A++x::C∧goM m A=(m',[])∧stepM m' x=none:=by
 induction l with
 | nil=>intro m m' x C h;simp [goM] at h
 | cons w l ih =>
  intro m m' x C h
  cases hs:stepM m w with
  | none=>rw [goM_stuck hs] at h;injection h with h1 h2;injection h2 with h2 h3;subst h1 h2 h3;exact ⟨[],rfl,rfl,hs⟩
  | some m1 =>
   rw [goM_step hs] at h
   obtain ⟨A,h1,h2,h3⟩:=ih h
   exact ⟨w::A,by rw [h1];rfl,by rw [goM_step hs];exact h2,h3⟩
theorem go_app {A:List Wd}:∀{m m':Mc} (l:List Wd),goM m A=(m',[])→goM m (A++l)=goM m' l:=by
 induction A with
 | nil=>intro m m' l h;cases h;rfl
 | cons w A ih =>
  intro m m' l h
  cases hs:stepM m w with
  | none=>rw [goM_stuck hs] at h;cases h
  | some m1 =>
   rw [goM_step hs] at h
   rw [List.cons_append,goM_step hs]
   exact ih l h
theorem go_stuck_app {l l':List Wd} {m m':Mc} {x:Wd} {C:List Wd} (h:goM m l=(m',x::C)):goM m (l++l')=(m',x::(C++l')):=by
 obtain ⟨A,h1,h2,h3⟩:=go_split h
 rw [h1,List.append_assoc,go_app _ h2,List.cons_append,goM_stuck h3]
theorem bad_stuck {s:ByteArray} {m:Mc} {x:Wd} {C:List Wd} (h:goM m0 (wordsS s).1=(m,x::C)):badS s=x.2.2:=by unfold badS;rw [h]
theorem bad_big {s:ByteArray} (h:8192<s.size):badS s=8192:=by unfold badS;rw [big_words h];rfl

/-- New lines behind a text leave its bad place. -/
theorem bad_nl {s t:ByteArray} (hs:s.size≤t.size) (ht:t.size≤8192) (hA:∀j,j<s.size→bt t j=bt s j) (h10:∀j,s.size≤j→j<t.size→bt t j=10) (hne:badS s≠s.size):badS t=badS s:=by
 have w1:wordsS s=allS s 0:=small_words (by omega)
 have w2:wordsS t=allS t 0:=small_words (by omega)
 cases hb:(allS s 0).2 with
 | none =>
  have e:=all_nl hs hA h10 0 (Nat.zero_le _) hb
  unfold badS at hne ⊢
  rw [w1] at hne ⊢
  rw [w2,e]
  cases hg:goM m0 (allS s 0).1 with
  | mk m l =>
   rw [hg] at hne
   cases l with
   | cons x l=>rfl
   | nil =>
    simp only [hb] at hne ⊢
    by_cases he:endOk m=true
    ·rw [if_pos he,if_pos he]
    ·rw [if_neg he] at hne;exact absurd rfl hne
 | some k =>
  have hk:=all_ge 0 k hb
  by_cases hlt:k<s.size
  ·have e:=all_bad_eq 0 k hb hlt (by omega) fun j hj=>hA j (by omega)
   unfold badS
   rw [w1,w2,e]
   cases hg:goM m0 (allS s 0).1 with
   | mk m l=>cases l <;> simp [hb]
  ·have hks:k=s.size:=by omega
   cases hg:goM m0 (allS s 0).1 with
   | mk m l =>
    cases l with
    | nil =>
     refine absurd ?_ hne
     unfold badS
     rw [w1,hg]
     simp only [hb,hks]
    | cons x C =>
     obtain ⟨l',hl⟩:=all_pre (t:=t) hs hA (fun h=>by rw [h10 _ (Nat.le_refl _) h];rfl) 0
     rw [bad_stuck (s:=s) (by rw [w1];exact hg),bad_stuck (s:=t) (by rw [w2,hl];exact go_stuck_app hg)]

end Go.Proofs.YtckbgeedlobfaaaDoor

/-
  SpecLong; a word as it is written.
-/
namespace Go.Proofs.YtckbgeedlobfaaaDoor
open Go.Px Go.Px.Scan Go.Px.Spec Go.RowKit

theorem addS (o1 o2:Operand) {a b:ByteArray} (h:a.size+b.size≤maxLen) (w:World):(bins .add 9 o1 o2 (.string a) (.string b)).run Tryd.prog w = .ok (.string (a++b)) w:=by
 have:¬9223372036854775807<a.size+b.size:=by unfold maxLen at h;omega
 simp -dsimp [go_sem,this]

attribute [-go_sem] Builtin.append_ law04_written.b1_1 law04_written.b1_2 law04_SpecLong.b1_3 law04_SpecLong.b1_1 law04_SpecLong.b1_2 law04_SpecLong.b3 law04_SpecLong.b3_6 law04_SpecLong.b3_7 law04_SpecLong.b3_5 law04_SpecLong.b3_4 law04_SpecLong.b3_2 law04_SpecLong.b3_1

theorem SpecLong_ct {s:ByteArray} {n:Int} {w:World} {B:Nat} (hs:s.size≤maxLen) (hn:inI64 n) (hO:Ord w B) (hB:B≤w.heap.size) :
  Ct Tryd.prog law04_SpecLong.id #[.string s,.int .i64 n] w fun v w'=>v = .bool true∧Chg noB w w':=by
 refine law04_SpecLong.ct fun R hR=>?_
 unfold law04_SpecLong.run law04_SpecLong.b1
 refine CALL_of (awake_ct hO hB) ?_
 rintro _ w1 ⟨rfl,hc1⟩
 have ord:∀w',Chg noB w1 w'→Ord w' B∧B≤w'.heap.size:=fun w' hc=>⟨hO.chg (hc1.trans hc) hB fun _ _=>id,by have:=(hc1.trans hc).size;omega⟩
 have fin:∀w',Chg noB w1 w'→R (.returned (.bool true)) w':=fun w' hc=>hR _ _ ⟨rfl,hc1.trans hc⟩
 have o1:=ord w1 (Chg.refl _ _)
 unfold law04_SpecLong.b1_3
 simp -dsimp [go_sem]
 refine SPL_intro (fun h=>?_) (fun h=>?_) <;> simp at h
 ·unfold law04_SpecLong.b1_1
  simp -dsimp [go_sem]
  refine CALL_of (Bad_ct hs o1.1 o1.2) ?_
  rintro _ w2 ⟨rfl,hc2⟩
  rw [bad_big (by omega)]
  simp -dsimp [go_sem]
  exact fin _ hc2
 ·refine CALL_of (Bad_ct hs o1.1 o1.2) ?_
  rintro _ w2 ⟨rfl,hc2⟩
  unfold law04_SpecLong.b1_2
  simp -dsimp [go_sem]
  refine SPL_intro (fun h2=>?_) (fun h2=>?_) <;> simp at h2
  ·exact fin _ hc2
  refine law04_SpecLong.l5_intro _ _ _ _ _ _ (fun y w'=>∃t:ByteArray,y = .string t∧s.size≤t.size∧t.size≤8192∧(∀j,j<s.size→bt t j=bt s j)∧(∀j,s.size≤j→j<t.size→bt t j=10)∧Chg noB w1 w')
   (fun y _=>match y with | .string t=>8192-t.size | _=>0) ⟨s,rfl,by omega,by omega,fun _ _=>rfl,fun j h1 h2=>by omega,hc2⟩ ?_
  rintro _ w3 ⟨t,rfl,t1,t2,t3,t4,hc3⟩ C5 hC
  unfold law04_SpecLong.b6
  simp -dsimp [go_sem]
  refine SPL_intro (fun h3=>?_) (fun h3=>?_) <;> simp at h3
  ·have z1:(⟨#[10]⟩:ByteArray).size=1:=rfl
   rw [RUN_eq,addS _ _ (by rw [z1];unfold maxLen;omega),RES_ok]
   have hsz:(t++(⟨#[10]⟩:ByteArray)).size=t.size+1:=by rw [ByteArray.size_append,z1]
   refine hC _ _ ⟨_,rfl,by omega,by omega,fun j hj=>by rw [app_bt (by omega),t3 j hj],fun j h1 h2=>?_,hc3⟩ (by simp only [hsz];omega)
   by_cases hj:j<t.size
   ·rw [app_bt hj];exact t4 j h1 hj
   ·have:=app_bt2 (s:=t) (t:=(⟨#[10]⟩:ByteArray)) 0
    rw [show j=t.size+0 by omega,this];rfl
  ·have ht8:t.size=8192:=by omega
   have o3:=ord w3 hc3
   have htm:t.size≤maxLen:=by unfold maxLen;omega
   unfold law04_SpecLong.b3
   simp -dsimp [go_sem]
   refine SPL_intro (fun h4=>?_) (fun h4=>?_)
   ·have z1:(⟨#[32]⟩:ByteArray).size=1:=rfl
    have hsz:(t++(⟨#[32]⟩:ByteArray)).size=8193:=by rw [ByteArray.size_append,z1];omega
    have hadd:t.size+(⟨#[32]⟩:ByteArray).size≤maxLen:=by rw [z1];unfold maxLen;omega
    have hum:(t++(⟨#[32]⟩:ByteArray)).size≤maxLen:=by rw [hsz];unfold maxLen;omega
    unfold law04_SpecLong.b3_6
    rw [RUN_eq,addS _ _ hadd,RES_ok]
    refine CALL_of (Read_as hum o3.1 o3.2) ?_
    rintro _ w4 ⟨vg,rfl,hr,hc4⟩
    have hrf:refG (t++(⟨#[32]⟩:ByteArray))=(gz,10,8192):=by unfold refG;rw [bad_big (by omega),if_pos (by omega)];rfl
    rw [hrf] at hr ⊢
    obtain ⟨A1,c1,A2,c2,A3,c3,A4,c4,rfl,_⟩:=(rGram_open hr).ex
    unfold law04_SpecLong.b3_5
    refine take2 (L:=[]) (St.refl noB w4) fun q1 q2 w5 hc5 s5=>?_
    have k0:=(s5.box 0 rfl).1
    have k1:=(s5.box 1 rfl).1
    simp [boxAt,mB,gz] at k0 k1
    have hcc:=hc3.trans (hc4.trans hc5)
    simp -dsimp [go_sem]
    unfold law04_SpecLong.b3_4
    simp -dsimp [go_sem,k0,k1]
    unfold law04_SpecLong.b3_2
    simp -dsimp [go_sem,k0,k1]
    unfold law04_SpecLong.b3_1
    rw [RUN_eq,addS _ _ hadd,RES_ok]
    have o5:=ord w5 hcc
    refine CALL_of (Bad_ct hum o5.1 o5.2) ?_
    rintro _ w6 ⟨rfl,hc6⟩
    rw [bad_big (by omega)]
    simp -dsimp [go_sem]
    exact fin _ (hcc.trans hc6)
   ·simp -dsimp [go_sem]
    unfold law04_SpecLong.b3_7
    refine CALL_of (Bad_ct htm o3.1 o3.2) ?_
    rintro _ w4 ⟨rfl,hc4⟩
    rw [bad_nl t1 t2 t3 t4 h2]
    simp -dsimp [go_sem]
    exact fin _ (hc3.trans hc4)
end Go.Proofs.YtckbgeedlobfaaaDoor

/-
  The law SpecLong returns true for every text and number, and nothing that was there before the call has turned: the tied card; its condition is that scan.orders holds its seven texts when the call begins, and no argument takes more than a machine has.
-/
namespace Go.Proofs.YtckbgeedlobfaaaDoor.specLong
open Go.Px Go.ChangeShapes Go.WideShapes Go.ChangeAt Go.RowKit Go.Px.Scan

set_option maxRecDepth 100000 in
theorem contract (H:Type) (enc:TypeId×Value→H) (W:World) (base:Nat) (args:Array Value) (ds gs:List (DataW H)) (before:List MemPlace)
  (hval:∀(j:Nat) t v,Tryd.f6.params[j]?=some t→args[j]?=some v→Value.okWide Tryd.prog W .any base t v)
  (hW:DataW.Whole enc Tryd.prog Tryd.f6.params.toList Rows.specLongSpec.vars false W args.toList ds gs before)
  (hwt:(DataW.weightsEach Tryd.prog (Tryd.f6.params.toList++(OpenSpec.ofChange Rows.specLongSpec).bare.plain.varTypes Tryd.prog) (ds++gs)).all (·≤reachBytes)=true) (hL:laidMetH Tryd.prog Rows.specLongRow.laid W) :
  Calls Tryd.prog 6 args W fun e W'=>∃v,e = .returned v∧Rows.specLongSpec.post enc Tryd.prog Tryd.f6 false true false false W args v W':=by
 have hW':=hW
 obtain ⟨p,q,hA0,hV,rfl,hfz,hnd⟩:=hW
 have hA:DataW.TrodAll enc Tryd.prog W 0 (fun _=>true) true Tryd.f6.params.toList args.toList ds p:=hA0
 rw [Tryd.params6] at hA hval hwt
 obtain ⟨v0,vs0,d0,ds0,p0,q0,hargs0,rfl,rfl,h0,r0⟩:=trodAll_cons hA
 obtain ⟨v1,vs1,d1,ds1,p1,q1,hargs1,rfl,rfl,h1,r1⟩:=trodAll_cons r0
 obtain ⟨rfl,rfl,rfl⟩:=trodAll_nil r1
 obtain rfl:args=#[v0,v1]:=by cases args;simp_all
 obtain ⟨rfl,rfl⟩:=trodVars_none hV
 have hwt':(DataW.weightsEach Tryd.prog ([9,3]++[]) ([d0,d1]++[])).all (·≤reachBytes)=true:=hwt
 simp only [List.append_nil,DataW.weightsEach,List.all_append,Bool.and_eq_true] at hwt'
 have ec0:v0.cells=#[v0]:=by obtain ⟨_,rfl⟩:=okWide_string Tryd.underlying9 (hval 0 9 v0 rfl rfl);rfl
 obtain ⟨a0,ha0,hf0,hb0⟩:=open_arg1 opens9 ec0 h0
 have hf0:=hf0 hwt'.1
 obtain ⟨rfl,hs0⟩:=str_at1 ha0
 have ec1:v1.cells=#[v1]:=by obtain ⟨_,rfl⟩:=okWide_int Tryd.underlying3 (hval 1 3 v1 rfl rfl);rfl
 obtain ⟨a1,ha1,hf1,hb1⟩:=open_arg1 opens3 ec1 h1
 have hf1:=hf1 hwt'.2
 obtain ⟨rfl,hs1⟩:=int_at1 ha1
 have hO:=ord_of_laid hL
 refine (SpecLong_ct hs0 hs1 hO (Nat.le_refl _)).2.mono fun e W' he=>?_
 cases e with
 | returned v =>
  obtain ⟨rfl,hb⟩:=he
  exact ⟨_,rfl,law_post (t:=4) (by kernel_rfl) (fun t ht=>by
   rw [Tryd.params6] at ht
   simp only [List.mem_cons,List.not_mem_nil,or_false] at ht
   rcases ht with rfl | rfl <;> exact ⟨by kernel_rfl,by decide +kernel⟩) rfl Tryd.underlying4 rfl hW' rfl rfl rfl (hb.below (Nat.le_refl _) fun _ _=>id)⟩
 | _=>exact he.elim

theorem reads (os:Os) {H:Type} (enc:TypeId×Value→H):∃places,DataW.whole enc Tryd.prog ((laidWorld os).forCall (fun _ _=>0) ⟨#[],#[.string ⟨#[]⟩,.int .i64 0],[]⟩).memory Tryd.f6.params.toList Rows.specLongSpec.vars false #[.string ⟨#[]⟩,.int .i64 0].toList 8=some ([.lit (.string []),.lit (.int .i64 0)],[],places) :=
 ⟨[],by kernel_rfl⟩

set_option maxRecDepth 100000 in
theorem lifted (os:Os) (started:os.Started) (H:Type) (enc:TypeId×Value→H) (F:Stop.Interp) :
  ReturnsInHanded {} Tryd.checked os 6 .any ((OpenSpec.ofChange Rows.specLongSpec).preRow enc Tryd.prog Tryd.f6 Rows.specLongRow.domain false Rows.specLongRow.laid) (((OpenSpec.ofChange Rows.specLongSpec).at F).post enc Tryd.prog Tryd.f6 false true false false):=by
 obtain ⟨places,hx⟩:=reads os enc
 refine returnsInHanded_of_row (C:=Tryd.checked) (s:=OpenSpec.ofChange Rows.specLongSpec) own started (by kernel_rfl) Tryd.func6
  (witness_row_atRef (enc:=enc) (C:=Tryd.checked) false (laidWorld os) #[.string ⟨#[]⟩,.int .i64 0] rfl (by kernel_rfl) (by kernel_rfl) (by kernel_rfl)
   (OpenSpec.preRow_of_cond 8 hx (by kernel_rfl) (fun k hk=>by cases hk) (by kernel_rfl) (laid_met os _))) ?_
 intro W base args ds gs before hval hW _ _ hwt hL _ _
 exact contract H enc W base args ds gs before hval hW hwt hL

theorem said:Rows.SpecLongSaid :=
 OpenClaim.holds_of_cond 6 Tryd.f6 rfl rfl rfl rfl rfl rfl rfl ⟨rfl,rfl,rfl,rfl,rfl⟩ rfl rfl rfl rfl rfl (by kernel_rfl) Tryd.func6 (by kernel_rfl)
  (of_decide_eq_true (by kernel_rfl)) (by unfold Func.isWrapper;first | (rw [if_pos (by decide +kernel)];kernel_rfl) | (rw [if_neg (by decide +kernel)];exact ⟨rfl,rfl⟩))
  (fun os started H enc _ F=>by rw [OpenClaim.pre_eq_preRow];exact lifted os started H enc F)

theorem plain (f:FuncId) (fn:Func) (hf:Tryd.pinned.checked.prog.funcNamed "presage/presagelaw04.SpecLong" = some f) (hfn:Tryd.pinned.checked.prog.funcs[f]?=some fn) :
  true=Tryd.pinned.checked.prog.looks []∧∀(j:Nat) t,fn.params[j]?=some t→Tryd.pinned.checked.prog.wantsStandIn t=false:=by
 obtain rfl:f=6:=Option.some.inj ((show Tryd.prog.funcNamed "presage/presagelaw04.SpecLong" = some 6 by kernel_rfl).symm.trans hf) |>.symm
 obtain rfl:fn=Tryd.f6:=(Option.some.inj (Tryd.func6.symm.trans hfn)).symm
 refine ⟨by kernel_rfl,fun j t ht=>?_⟩
 rw [Tryd.params6] at ht
 have hm:=Array.mem_of_getElem? ht
 simp only [List.mem_toArray,List.mem_cons,List.not_mem_nil,or_false] at hm
 rcases hm with rfl | rfl
 ·exact (show Tryd.prog.wantsStandIn 9=false by kernel_rfl)
 ·exact (show Tryd.prog.wantsStandIn 3=false by kernel_rfl)

theorem card:Rows.SpecLongCardSaid :=
 Claim7.holds_tied_plain_at .later [] _ _ _ _ said (fun _ h=>by cases h) (by kernel_rfl) (fun _ h=>by cases h) specLong_row_tie rfl ⟨rfl,rfl⟩ (by kernel_rfl) rfl plain (by kernel_rfl)

end Go.Proofs.YtckbgeedlobfaaaDoor.specLong

namespace Go.Proofs.YtckbgeedlobfaaaDoor
theorem SpecLong_holds:Rows.SpecLongCardSaid:=specLong.card
end Go.Proofs.YtckbgeedlobfaaaDoor
#print axioms Go.Proofs.YtckbgeedlobfaaaDoor.SpecLong_holds
