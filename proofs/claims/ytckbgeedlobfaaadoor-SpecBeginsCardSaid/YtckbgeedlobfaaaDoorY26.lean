/-
  Texts of this claim: Lb1, LbW, Lb2, Lb3, ScSpec4, ScSpec5, ScSpec6, Ld0, Pl8, Lc0, Le0, Le1.
-/
import Derived.Test.YtckbgeedlobfaaaDoorY25
import Derived.Test.YtckbgeedlobfaaaDoorY15
import Derived.Test.YtckbgeedlobfaaaDoorY03
import Derived.Test.YtckbgeedlobfaaaDoorCards
import Derived.Test.YtckbgeedlobfaaaDoorTie
import Derived.WalkKit
import Derived.ProofKit
import Derived.OpenShut
import Derived.Deep.DeepHandedRow
import Derived.Lib.LaidTab
import Derived.Deep.DeepWitnessRowRef
import Derived.Test.YtckbgeedlobfaaaDoorY16
set_option maxHeartbeats 1000000
set_option linter.unusedSimpArgs false
set_option linter.unusedVariables false
set_option maxRecDepth 100000
/-
  Chapter 04's laws: what Read tells, taken; the document's Same; alike; awake.
-/
namespace Go.Proofs.YtckbgeedlobfaaaDoor
open Go.Px Go.Px.Scan Go.Px.Spec Go.RowKit
attribute [-go_sem] Builtin.append_

/-- What is told, as data. -/
def AsG (s:ByteArray) (w:World) (v:Value) (w':World):Prop :=
 ∃vg,v = .tuple #[vg,mishV (refG s).2.1 (refG s).2.2]∧rGram.atN w' w'.heap.size vg (refG s).1∧Chg noB w w'
theorem RfAns.asG {s:ByteArray} {w w':World} {v:Value} (h:RfAns s w v w'):AsG s w v w':=by
 obtain ⟨vg,h1,h2⟩:=h;exact ⟨vg,h1,h2.read,h2.chg⟩
theorem Read_rf {s:ByteArray} {w:World} {B:Nat} (hs:s.size≤maxLen) (hO:Ord w B) (hB:B≤w.heap.size):Ct Tryd.prog spec_Read.id #[.string s] w (RfAns s w) :=
 (Read_ct hs hO hB).mono fun v w' h=>by
  obtain ⟨vg,h1,h2⟩:=h
  rw [readG_ref] at h1 h2
  exact ⟨vg,h1,h2⟩
theorem Read_as {s:ByteArray} {w:World} {B:Nat} (hs:s.size≤maxLen) (hO:Ord w B) (hB:B≤w.heap.size):Ct Tryd.prog spec_Read.id #[.string s] w (AsG s w):=(Read_rf hs hO hB).mono fun _ _ h=>h.asG

section
variable {X:Pan} {G:Nat→Prop} {W w:World} {L:List Ch}
def mB (c a:Int):List Value:=[.int .i64 c,.int .i64 a,.slice none 0 0]
/-- Two results, stored. -/
theorem take2 {A1 A2 A3 A4:Option Addr} {n1 n2 n3 n4 c1 c2 c3 c4:Nat} {x c a:Int} {K:Value→Value→World→Prop} (s:St G W w L)
  (hK:∀q1 q2 w',Chg noB w w'→St G W w' (L++[boxC q1 28 [.slice A1 n1 c1,.slice A2 n2 c2,.slice A3 n3 c3,.int .i64 x,.slice A4 n4 c4],boxC q2 31 (mB c a)])→K (.pointer (some ⟨q1,0,none⟩)) (.pointer (some ⟨q2,0,none⟩)) w') :
  RUN Tryd.prog X (Instr.extract (.tuple #[.agg #[.slice A1 n1 c1,.slice A2 n2 c2,.slice A3 n3 c3,.int .i64 x,.slice A4 n4 c4],mishV c a]) 0) w fun v3 w4 =>
  RUN Tryd.prog X (Instr.extract (.tuple #[.agg #[.slice A1 n1 c1,.slice A2 n2 c2,.slice A3 n3 c3,.int .i64 x,.slice A4 n4 c4],mishV c a]) 1) w4 fun v5 w6 =>
  RUN Tryd.prog X (Instr.alloc 28 true (.tuple #[])) w6 fun v7 w8 =>
  RUN Tryd.prog X (Instr.alloc 31 true (.tuple #[])) w8 fun v9 w10 =>
  RUNU Tryd.prog X (Instr.storeAt 28 v7 v3) w10 fun w11 =>
  RUNU Tryd.prog X (Instr.storeAt 31 v9 v5) w11 fun w12=>K v7 v9 w12:=by
 have s1:=(s.alloc zG.toArray 28).alloc zM.toArray 31
 have al1:(Instr.alloc 28 true (.tuple #[])).run Tryd.prog w = .ok (.pointer (some ⟨w.heap.size,0,none⟩)) (w.alloc (.cells zG.toArray 28)):=by simp -dsimp [go_sem,zG]
 have al2:∀w1:World,(Instr.alloc 31 true (.tuple #[])).run Tryd.prog w1 = .ok (.pointer (some ⟨w1.heap.size,0,none⟩)) (w1.alloc (.cells zM.toArray 31)):=fun w1=>by simp -dsimp [go_sem,zM]
 have hc0:Chg noB w ((w.alloc (.cells zG.toArray 28)).alloc (.cells zM.toArray 31)):=((Chg.refl noB w).alloc _).alloc _
 have t1:=(((St.refl noB w).alloc zG.toArray 28).alloc zM.toArray 31)
 rw [RUN_eq,xt0,RES_ok,RUN_eq,xt1,RES_ok,RUN_eq,al1,RES_ok,RUN_eq,al2,RES_ok]
 have e1:((w.alloc (.cells zG.toArray 28)).heap.size)=w.heap.size+1:=by simp
 rw [e1] at s1 t1 ⊢
 generalize (w.alloc (.cells zG.toArray 28)).alloc (.cells zM.toArray 31)=w1 at s1 t1 ⊢
 obtain ⟨w2,r2,s2⟩:=storeG (A1:=A1) (A2:=A2) (A3:=A3) (A4:=A4) (n1:=n1) (n2:=n2) (n3:=n3) (n4:=n4) (c1:=c1) (c2:=c2) (c3:=c3) (c4:=c4) (x:=x) (g:=zG) (q2:=w.heap.size) s1 (k:=L.length) (by simp) rfl
 obtain ⟨w2',r2',t2⟩:=storeG (A1:=A1) (A2:=A2) (A3:=A3) (A4:=A4) (n1:=n1) (n2:=n2) (n3:=n3) (n4:=n4) (c1:=c1) (c2:=c2) (c3:=c3) (c4:=c4) (x:=x) t1 (k:=0) rfl rfl
 obtain rfl:w2'=w2:=by rw [r2] at r2';injection r2' with _ h;exact h.symm
 obtain ⟨w3,r3,s3⟩:=storeM (c:=c) (a:=a) (g:=zM) (q3:=w.heap.size+1) s2 (k:=L.length+1) (by simp) rfl
 obtain ⟨w3',r3',t3⟩:=storeM (c:=c) (a:=a) t2 (k:=1) rfl rfl
 obtain rfl:w3'=w3:=by rw [r3] at r3';injection r3' with _ h;exact h.symm
 rw [RUNU_eq,r2,RESU_ok,RUNU_eq,r3,RESU_ok]
 refine hK _ _ _ t3.chg ?_
 have:((L++[boxC w.heap.size 28 zG.toArray.toList]++[boxC (w.heap.size+1) 31 zM.toArray.toList]).set L.length (boxC w.heap.size 28 [.slice A1 n1 c1,.slice A2 n2 c2,.slice A3 n3 c3,.int .i64 x,.slice A4 n4 c4])).set (L.length+1) (boxC (w.heap.size+1) 31 [.int .i64 c,.int .i64 a,.slice none 0 0])=L++[boxC w.heap.size 28 [.slice A1 n1 c1,.slice A2 n2 c2,.slice A3 n3 c3,.int .i64 x,.slice A4 n4 c4],boxC (w.heap.size+1) 31 (mB c a)]:=by
  rw [List.append_assoc,List.set_append_right _ _ (by omega),Nat.sub_self,List.set_append_right _ _ (by omega),show L.length+1-L.length=1 by omega];rfl
 rw [←this];exact s3
end
end Go.Proofs.YtckbgeedlobfaaaDoor

/-
  Reading the table scan.orders out of a row's condition; the rows of this seat in general.
-/
namespace Go.Proofs.YtckbgeedlobfaaaDoor
open Go.Px Go.Px.Scan Go.ChangeShapes Go.WideShapes Go.ChangeAt Go.RowKit

theorem own:ownKnob Tryd.prog.godebug=none:=by kernel_rfl
theorem gTab:Tryd.prog.globalNamed "presage/scan.orders" = some 0:=by kernel_rfl
theorem gTabType:(Tryd.prog.globals[0]?).map (·.type)=some 24:=by kernel_rfl
theorem cells9:Tryd.prog.cellsOf 9=1:=by kernel_rfl

theorem opens9:Opens Tryd.prog 9 rStr:=opens_str Tryd.underlying9 cells9 (by kernel_rfl)
theorem strs_inj:∀{a b:List ByteArray},(strs a:List (DataW Unit))=strs b→a=b:=by
 intro a
 induction a with
 | nil=>intro b h;cases b with
  | nil=>rfl
  | cons y b=>simp [strs] at h
 | cons x a ih=>intro b h;cases b with
  | nil=>simp [strs] at h
  | cons y b =>
   simp only [strs,List.map_cons,List.cons.injEq] at h
   obtain ⟨h1,h2⟩:=h
   have e:x=y:=by
    injection h1 with h1
    injection h1 with h1
    cases x;cases y
    simp at h1
    cases h1;rfl
   rw [e,ih h2]

theorem laid_strs:(Rows.laid_presage_scan_orders:DataW Unit) = .slice (strs ordersL) (strs []):=rfl

theorem ord_of_laid {W:World} (h:laidMetH Tryd.prog [("presage/scan.orders",Rows.laid_presage_scan_orders)] W):Ord W W.heap.size:=by
 have h':laidMet Tryd.prog [("presage/scan.orders",Rows.laid_presage_scan_orders)] W:=h
 obtain ⟨ps,⟨g,t,cs,fuel,p,q,hg,ht,hvar,hd,_,_⟩,_⟩:=h'
 obtain rfl:=Option.some.inj (gTab.symm.trans hg)
 obtain rfl:=Option.some.inj (gTabType.symm.trans ht)
 rcases open_strings Tryd.underlying24 Tryd.underlying9 cells9 hd with ⟨_,h0⟩ | ⟨a,len,cap,ss,hcs,_,hl,hm,hlen,hx,hcell,hsz⟩
 ·cases h0
 ·injection hx with hx _
  rw [laid_strs] at hx
  injection hx with h1 h2
  have e1:=strs_inj h1
  have e2:=strs_inj h2
  have hss:ss=ordersL:=by
   have:=List.take_append_drop len ss
   rw [←e1,←e2] at this
   rw [←this];simp
  subst hss
  have hl7:len=7:=by
   have h3:=congrArg List.length e1
   have h4:=congrArg List.length e2
   simp [ordersL] at h3 h4 hlen
   omega
  subst hl7
  have hc0:W.cell? ⟨0,0,none⟩=some (.slice (some a) 7 cap):=by
   rw [World.var?_cell hg hvar 0,←Array.getElem?_toList,hcs];rfl
  have key:∀i,i<7→W.cell? (a.add i)=some (.string (ordersL.getD i ByteArray.empty)):=fun i hi=>hcell i (by simpa [ordersL] using hi)
  have ha:a=⟨a.block,a.off,none⟩:=by
   have h0:=key 0 (by omega)
   simp only [Addr.add,if_pos] at h0
   unfold World.cell? at h0
   split at h0
   ·split at h0
    ·cases h0
    ·rename_i hsp
     cases a with
     | mk b o s=>cases s with
      | none=>rfl
      | some s=>simp at hsp
   ·cases h0
  have hlt:a.block<W.heap.size:=World.block_lt_of_cell? W _ (key 0 (by omega))
  refine ⟨Nat.lt_of_le_of_lt (Nat.zero_le _) hlt,some a,cap,hc0,?_⟩
  refine ⟨some a,cap,rfl,hl,hm,trivial,fun _=>⟨a.block,a.off,by rw [←ha],hlt,fun i x hi=>⟨[.string x],⟨rfl,?_⟩,fun j u hj=>?_⟩⟩⟩
  ·exact hsz x (List.mem_of_getElem? hi)
  ·have hi7:i<7:=by have:=(List.getElem?_eq_some_iff.1 hi).1;simpa [ordersL] using this
   have h1:=key i hi7
   rw [ha,Addr.add_lit] at h1
   have hj0:j=0:=by have:=(List.getElem?_eq_some_iff.1 hj).1;simp at this;omega
   subst hj0
   simp at hj
   subst hj
   simp only [List.getD_eq_getElem?_getD,hi,Option.getD_some] at h1
   simpa [rStr] using h1

/-- A world for the witness: the table lies behind everything. -/
noncomputable def laidWorld (os:Os):World :=
 let W:=World.holding Tryd.prog os ⟨#[],#[],[]⟩
 let W1:=W.alloc (.cells #[.string ⟨#[37,108,101,102,116]⟩,.string ⟨#[37,110,111,110,97,115,115,111,99]⟩,.string ⟨#[37,110,111,110,101]⟩,.string ⟨#[37,112,114,101,99]⟩,.string ⟨#[37,114,105,103,104,116]⟩,.string ⟨#[37,115,116,97,114,116]⟩,.string ⟨#[37,116,111,107,101,110]⟩] 9)
 {W1 with heap:=W1.heap.modify 0 fun
   | .cells _ t frozen => .cells #[.slice (some ⟨W.heap.size,0,none⟩) 7 7] t frozen
   | o=>o }

theorem laid_met (os:Os) (args:Array Value):laidMet Tryd.prog [("presage/scan.orders",Rows.laid_presage_scan_orders)] ((laidWorld os).forCall (fun _ _=>0) ⟨#[],args,[]⟩).memory :=
 laidMet_of_run' 8 (by kernel_rfl) (by kernel_rfl)
end Go.Proofs.YtckbgeedlobfaaaDoor

/-
  Chapter 04's laws: same, alike, awake.
-/
namespace Go.Proofs.YtckbgeedlobfaaaDoor
open Go.Px Go.Px.Scan Go.Px.Spec Go.RowKit
attribute [-go_sem] Builtin.append_ law04_awake.b1_7 law04_awake.b1_6 law04_awake.b1_5 law04_awake.b1_3

end Go.Proofs.YtckbgeedlobfaaaDoor

/-
  Chapter 04's laws: awake.
-/
namespace Go.Proofs.YtckbgeedlobfaaaDoor
open Go.Px Go.Px.Scan Go.Px.Spec Go.RowKit
attribute [-go_sem] Builtin.append_ law04_awake.b1_7 law04_awake.b1_6 law04_awake.b1_1

def awkA:ByteArray:=⟨#[101,32,58,32,101,32,39,43,39,32,110,32,124,32,110,32,59]⟩
def awkB:ByteArray:=⟨#[115,32,58]⟩
theorem awkA_is:(refG awkA).2.1=0∧(refG awkA).1.prods.length=2∧(refG awkA).1.terms.length=3:=by decide +kernel
theorem awkB_is:(refG awkB).2.1=10∧(refG awkB).2.2=3:=by decide +kernel
theorem awkC_is:badS ⟨#[]⟩=0:=by decide +kernel
theorem awk_le:awkA.size≤maxLen∧awkB.size≤maxLen∧(⟨#[]⟩:ByteArray).size≤maxLen:=by decide

theorem awake_ct {w:World} {B:Nat} (hO:Ord w B) (hB:B≤w.heap.size):Ct Tryd.prog law04_awake.id #[] w fun v w'=>v = .bool true∧Chg noB w w':=by
 refine law04_awake.ct fun R hR=>?_
 unfold law04_awake.run law04_awake.b1
 refine CALL_of (Read_as (s:=awkA) awk_le.1 hO hB) ?_
 rintro _ w1 ⟨vg,rfl,hr,hc⟩
 obtain ⟨a1,a2,a3⟩:=awkA_is
 generalize refG awkA=x at *
 obtain ⟨A1,c1,A2,c2,A3,c3,A4,c4,rfl,_⟩:=(rGram_open hr).ex
 unfold law04_awake.b1_7
 refine take2 (L:=[]) (St.refl noB w1) fun q1 q2 w2 hc2 s2=>?_
 have hO2:=hO.chg (hc.trans hc2) hB fun _ _=>id
 have hB2:B≤w2.heap.size:=by have:=(hc.trans hc2).size;omega
 refine CALL_of (Read_as (s:=awkB) awk_le.2.1 hO2 hB2) ?_
 rintro _ w3 ⟨vh,rfl,hr3,hc3⟩
 obtain ⟨b1,b2⟩:=awkB_is
 generalize refG awkB=y at *
 obtain ⟨B1,d1,B2,d2,B3,d3,B4,d4,rfl,_⟩:=(rGram_open hr3).ex
 unfold law04_awake.b1_6
 refine take2 (s2.old hc3) fun q3 q4 w4 hc4 s4=>?_
 have hcc:Chg noB w w4:=hc.trans (hc2.trans (hc3.trans hc4))
 have k0:=(s4.box 0 rfl).1
 have k1:=(s4.box 1 rfl).1
 have k3:=(s4.box 3 rfl).1
 simp [boxAt,mB,a1,a2,a3,b1,b2] at k0 k1 k3
 simp -dsimp [go_sem,k0,k1,k3,a1,a2,a3,b1,b2]
 unfold law04_awake.b1_1
 refine CALL_of (Bad_ct awk_le.2.2 (hO.chg hcc hB fun _ _=>id) (by have:=hcc.size;omega)) ?_
 rintro _ w5 ⟨rfl,hc5⟩
 rw [awkC_is]
 simp -dsimp [go_sem]
 exact hR _ _ ⟨rfl,hcc.trans hc5⟩
end Go.Proofs.YtckbgeedlobfaaaDoor

/-
  What a bad place hangs on.
-/
namespace Go.Px.Scan
open Go.Px

theorem skip_loc {s t:ByteArray} (cm:Bool) (i:Nat):(∀j,i≤j→j≤skipS s cm i→bt t j=bt s j)→skipS s cm i<s.size→skipS s cm i<t.size→skipS t cm i=skipS s cm i:=by
 induction cm,i using skipS.induct s with
 | case1 i h ih =>
  intro ha h1 h2
  have e:skipS s true i=skipS s (decide (bt s i≠10)) (i+1):=by conv=>lhs;unfold skipS;rw [if_pos h,if_pos rfl]
  rw [e] at ha h1 h2 ⊢
  have hg:=skip_ge s (decide (bt s i≠10)) (i+1)
  conv=>lhs;unfold skipS
  rw [if_pos (by omega),if_pos rfl,ha i (by omega) (by omega)]
  exact ih (fun j hj=>ha j (by omega)) h1 h2
 | case2 cm i h hc h1 ih =>
  intro ha h3 h2
  have e:skipS s cm i=skipS s true (i+1):=by conv=>lhs;unfold skipS;rw [if_pos h,if_neg hc,if_pos h1]
  rw [e] at ha h3 h2 ⊢
  have hg:=skip_ge s true (i+1)
  conv=>lhs;unfold skipS
  rw [if_pos (by omega),if_neg hc,if_pos (by rw [ha i (by omega) (by omega)];exact h1)]
  exact ih (fun j hj=>ha j (by omega)) h3 h2
 | case3 cm i h hc h1 hb ih =>
  intro ha h3 h2
  have e:skipS s cm i=skipS s false (i+1):=by conv=>lhs;unfold skipS;rw [if_pos h,if_neg hc,if_neg h1,if_pos hb]
  rw [e] at ha h3 h2 ⊢
  have hg:=skip_ge s false (i+1)
  conv=>lhs;unfold skipS
  rw [if_pos (by omega),if_neg hc,if_neg (by rw [ha i (by omega) (by omega)];exact h1),if_pos (by rw [ha i (by omega) (by omega)];exact hb)]
  exact ih (fun j hj=>ha j (by omega)) h3 h2
 | case4 cm i h hc h1 hb =>
  intro ha h3 h2
  have e:skipS s cm i=i:=by unfold skipS;rw [if_pos h,if_neg hc,if_neg h1,if_neg hb]
  rw [e] at ha h3 h2 ⊢
  unfold skipS
  rw [if_pos (by omega),if_neg hc,if_neg (by rw [ha i (by omega) (by omega)];exact h1),if_neg (by rw [ha i (by omega) (by omega)];exact hb)]
 | case5 cm i h =>
  intro ha h3 h2
  have:=skip_ge s cm i
  omega

theorem run_loc (p:Nat→Bool) {s t:ByteArray}:∀(n i:Nat),(∀j,i≤j→j<runS p s i n→bt t j=bt s j)→runS p s i n≤t.size →
  (runS p s i n<t.size→(runS p s i n<s.size∧bt t (runS p s i n)=bt s (runS p s i n))∨p (bt t (runS p s i n))=false∨runS p s i n=i+n)→runS p t i n=runS p s i n
 | 0,i,_,_,_=>rfl
 | n+1,i,ha,h1,h2=>by
  by_cases hc:(i<s.size && p (bt s i))=true
  ·have e:runS p s i (n+1)=runS p s (i+1) n:=by conv=>lhs;unfold runS;rw [if_pos hc]
   rw [e] at ha h1 h2 ⊢
   have hg:=run_ge p s n (i+1)
   have hti:=ha i (by omega) (by omega)
   conv=>lhs;unfold runS
   simp at hc
   rw [if_pos (by simp [hti,hc.2];omega)]
   exact run_loc p n (i+1) (fun j hj=>ha j (by omega)) h1 (fun h=>by
    rcases h2 h with h3 | h3 | h3
    ·exact Or.inl h3
    ·exact Or.inr (Or.inl h3)
    ·exact Or.inr (Or.inr (by omega)))
  ·have e:runS p s i (n+1)=i:=by conv=>lhs;unfold runS;rw [if_neg hc]
   rw [e] at ha h1 h2 ⊢
   unfold runS
   rw [if_neg]
   intro hn
   simp at hn hc
   rcases h2 hn.1 with h3 | h3 | h3
   ·rw [h3.2] at hn;exact absurd hn.2 (by simp [hc h3.1])
   ·rw [h3] at hn;simp at hn
   ·omega

theorem extract_loc {s t:ByteArray} {a e:Nat} (hs:e≤s.size) (ht:e≤t.size) (h:∀j,a≤j→j<e→bt t j=bt s j):t.extract a e=s.extract a e:=by
 apply bs_ext
 have h1:=Lib.extract_toList t a e
 have h2:=Lib.extract_toList s a e
 rw [ByteArray.toList_eq] at h1 h2
 rw [h1,h2]
 apply List.ext_getElem?
 intro i
 simp only [List.getElem?_take,List.getElem?_drop]
 split
 ·rename_i hi
  have hj:=h (a+i) (by omega) (by omega)
  obtain ⟨c,hc,ec⟩:=list_bt (s:=s) (i:=a+i) (by omega)
  obtain ⟨d,hd,ed⟩:=list_bt (s:=t) (i:=a+i) (by omega)
  rw [hc,hd]
  congr 1
  apply UInt8.toNat_inj.1
  omega
 ·rfl

theorem ord_loc {s t:ByteArray} (a k:Nat):k≤s.size→(∀j,a≤j→j<(ordS s a k).1→bt t j=bt s j)→(ordS s a k).1≤t.size→a≤k →
  ((ordS s a k).1<t.size→((ordS s a k).1<s.size∧bt t (ordS s a k).1=bt s (ordS s a k).1)∨(letterN (bt t (ordS s a k).1)=false∧(ordS s a k).2=true))→((ordS s a k).2=false→(ordS s a k).1<t.size)→ordS t a k=ordS s a k:=by
 induction k using ordS.induct s a with
 | case1 k h h1 ih =>
  intro hk ha hle hak h2 h3
  have e:ordS s a k=ordS s a (k+1):=by conv=>lhs;unfold ordS;rw [if_pos h,if_pos h1]
  rw [e] at ha hle h2 h3 ⊢
  have hg:=ord_ge s a (k+1)
  conv=>lhs;unfold ordS
  rw [if_pos ⟨by omega,by rw [ha k hak (by omega)];exact h.2⟩,if_pos (by rw [extract_loc (s:=s) (by omega) (by omega) (fun j hj hj'=>ha j hj (by omega))];exact h1)]
  exact ih (by omega) ha hle (by omega) h2 h3
 | case2 k h h1 =>
  intro hk ha hle hak h2 h3
  have e:ordS s a k=(k,false):=by conv=>lhs;unfold ordS;rw [if_pos h,if_neg h1]
  rw [e] at ha hle h2 h3 ⊢
  have hlt:=h3 rfl
  have hb:bt t k=bt s k:=by
   rcases h2 hlt with h4 | h4
   ·exact h4.2
   ·cases h4.2
  unfold ordS
  rw [if_pos ⟨hlt,by rw [hb];exact h.2⟩,if_neg]
  rw [extract_loc (s:=s) (by omega) (by simp at hlt;omega) (fun j hj hj'=>by
   by_cases hjk:j<k
   ·exact ha j hj hjk
   ·have:j=k:=by omega
    rw [this,hb])]
  exact h1
 | case3 k h =>
  intro hk ha hle hak h2 h3
  have e:ordS s a k=(k,true):=by conv=>lhs;unfold ordS;rw [if_neg h]
  rw [e] at ha hle h2 h3 ⊢
  unfold ordS
  rw [if_neg]
  rintro ⟨h4,h5⟩
  rcases h2 h4 with h6 | h6
  ·simp at h6 h5
   exact h ⟨h6.1,by rw [←h6.2];exact h5⟩
  ·rw [h6.1] at h5;cases h5
end Go.Px.Scan

/-
  Words and bad places of texts that begin alike.
-/
namespace Go.Px.Scan
open Go.Px

theorem letter_of_inner {c:Nat} (h:innerN c=false):letterN c=false:=by
 simp [innerN] at h;exact h.1

theorem word_loc {s t:ByteArray} {j kd a b n:Nat} (hj:j<s.size) (h:oneS s j = .word kd a b n) (hA:∀i,j≤i→i<n→bt t i=bt s i) (hn:n≤t.size)
  (hE:n<t.size→(n<s.size∧bt t n=bt s n)∨innerN (bt t n)=false):oneS t j = .word kd a b n:=by
 have hw:=one_word hj h
 have h0:=hA j (Nat.le_refl _) hw.1
 unfold oneS at h ⊢
 rw [h0]
 split at h
 ·rename_i h1;rw [if_pos h1];exact h
 rename_i h1;rw [if_neg h1]
 split at h
 ·rename_i h2;rw [if_pos h2]
  split at h
  ·rename_i h3
   injection h with e1 e2 e3 e4
   simp only [Bool.and_eq_true] at h3
   have ho:ordS t j (j+1)=ordS s j (j+1):=by
    refine ord_loc j (j+1) hj ?_ (by rw [e3,];omega) (by omega) ?_ ?_
    ·intro i hi hi';exact hA i hi (by omega)
    ·intro hlt
     rw [e4] at hlt ⊢
     rcases hE hlt with h4 | h4
     ·exact Or.inl h4
     ·exact Or.inr ⟨letter_of_inner h4,h3.1⟩
    ·intro hf;rw [h3.1] at hf;cases hf
   rw [ho,extract_loc (s:=s) (by omega) (by omega) (fun i hi hi'=>hA i hi (by omega)),if_pos (by simp [h3]),e3,e1,e2]
   congr 1;omega
  ·cases h
 rename_i h2;rw [if_neg h2]
 split at h
 ·rename_i h3;rw [if_pos h3]
  split at h
  ·rename_i h4
   injection h with e1 e2 e3 e4
   have hr:runS plainN t (j+1) 16=runS plainN s (j+1) 16:=by
    refine run_loc plainN 16 (j+1) (fun i hi hi'=>hA i (by omega) (by omega)) (by omega) (fun _=>Or.inl ⟨h4.2.1,hA _ (by omega) (by omega)⟩)
   rw [hr,if_pos ⟨h4.1,by omega,by rw [hA _ (by omega) (by omega)];exact h4.2.2⟩]
   rw [←e1,←e2,←e3,←e4]
  ·cases h
 rename_i h3;rw [if_neg h3]
 split at h
 ·rename_i h4;rw [if_pos h4]
  split at h
  ·cases h
  ·rename_i h5
   injection h with e1 e2 e3 e4
   have hr:runS innerN t j 16=runS innerN s j 16:=by
    refine run_loc innerN 16 j (fun i hi hi'=>hA i (by omega) (by omega)) (by omega) (fun hlt=>?_)
    rw [e4] at hlt ⊢
    rcases hE hlt with h6 | h6
    ·exact Or.inl h6
    ·exact Or.inr (Or.inl h6)
   rw [hr,if_neg]
   ·rw [←e1,←e2,←e3,←e4]
   rintro ⟨h6,h7⟩
   rw [e4] at h6 h7
   rcases hE h6 with h8 | h8
   ·exact h5 (by rw [e4];exact ⟨h8.1,by rw [←h8.2];exact h7⟩)
   ·rw [h8] at h7;cases h7
 ·cases h

theorem bad_loc {s t:ByteArray} {j k:Nat} (hj:j<s.size) (h:oneS s j = .bad k) (hk:k<s.size) (hkt:k<t.size) (hA:∀i,j≤i→i≤k→bt t i=bt s i):oneS t j = .bad k:=by
 have hb:=one_bad hj h
 have h0:=hA j (Nat.le_refl _) hb.1
 unfold oneS at h ⊢
 rw [h0]
 split at h
 ·cases h
 rename_i h1;rw [if_neg h1]
 split at h
 ·rename_i h2;rw [if_pos h2]
  split at h
  ·cases h
  ·rename_i h3
   injection h with e1
   have ho:ordS t j (j+1)=ordS s j (j+1) :=
    ord_loc j (j+1) hj (fun i hi hi'=>hA i hi (by omega)) (by omega) (by omega) (fun _=>Or.inl ⟨by omega,hA _ (by omega) (by omega)⟩) (fun _=>by omega)
   rw [ho,extract_loc (s:=s) (by omega) (by omega) (fun i hi hi'=>hA i hi (by omega)),if_neg h3,e1]
 rename_i h2;rw [if_neg h2]
 split at h
 ·rename_i h3;rw [if_pos h3]
  split at h
  ·cases h
  ·rename_i h4
   injection h with e1
   have hr:runS plainN t (j+1) 16=runS plainN s (j+1) 16 :=
    run_loc plainN 16 (j+1) (fun i hi hi'=>hA i (by omega) (by omega)) (by omega) (fun _=>Or.inl ⟨by omega,hA _ (by have:=run_ge plainN s 16 (j+1);omega) (by omega)⟩)
   rw [hr,if_neg,e1]
   rintro ⟨h5,h6,h7⟩
   exact h4 ⟨h5,by omega,by rw [←hA _ (by omega) (by omega)];exact h7⟩
 rename_i h3;rw [if_neg h3]
 split at h
 ·rename_i h4;rw [if_pos h4]
  split at h
  ·rename_i h5
   injection h with e1
   have hr:runS innerN t j 16=runS innerN s j 16 :=
    run_loc innerN 16 j (fun i hi hi'=>hA i (by omega) (by omega)) (by omega) (fun _=>Or.inl ⟨by omega,hA _ (by have:=run_ge innerN s 16 j;omega) (by omega)⟩)
   rw [hr,if_pos ⟨by omega,by rw [hA _ (by have:=run_ge innerN s 16 j;omega) (by omega)];exact h5.2⟩,e1]
  ·cases h
 ·rename_i h4;rw [if_neg h4];exact h

theorem all_ge {s:ByteArray} (i:Nat):∀k,(allS s i).2=some k→i≤k∧k≤s.size:=by
 induction i using allS.induct s with
 | case1 i h k0 h1 =>
  intro k hk
  rw [all_bad h h1] at hk
  simp at hk
  have:=one_bad h h1
  have:=skip_ge s false i
  omega
 | case2 i h kd a b n h1 ih =>
  intro k hk
  rw [all_word h h1] at hk
  have:=ih k hk
  have:=one_word h h1
  have:=skip_ge s false i
  omega
 | case3 i h=>intro k hk;rw [all_end h] at hk;cases hk

end Go.Px.Scan

/-
  Words with blanks between them.
-/
namespace Go.Px.Scan
open Go.Px

/-! ### Blanks -/

theorem app_bt {s t:ByteArray} {i:Nat} (h:i<s.size):bt (s++t) i=bt s i:=by
 rw [bt_list,bt_list]
 simp only [ByteArray.data_append,Array.toList_append,List.getD_eq_getElem?_getD]
 rw [List.getElem?_append_left (by simpa using h)]
theorem app_bt2 {s t:ByteArray} (i:Nat):bt (s++t) (s.size+i)=bt t i:=by
 rw [bt_list,bt_list]
 simp only [ByteArray.data_append,Array.toList_append,List.getD_eq_getElem?_getD]
 rw [List.getElem?_append_right (by simp)]
 simp

theorem app_assoc (a b c:ByteArray):a++b++c=a++(b++c):=by
 apply bs_ext
 simp [ByteArray.data_append]

end Go.Px.Scan

/-
  Texts that begin alike: their words.
-/
namespace Go.Px.Scan
open Go.Px

/-- Behind a bad place it does not matter what stands. -/
theorem all_bad_eq {s t:ByteArray} (i:Nat):∀k,(allS s i).2=some k→k<s.size→k<t.size→(∀j,j≤k→bt t j=bt s j)→allS t i=allS s i:=by
 induction i using allS.induct s with
 | case1 i h k0 h1 =>
  intro k hk hks hkt hA
  rw [all_bad h h1] at hk
  simp at hk
  subst hk
  have hb:=one_bad h h1
  have hsk:=skip_loc (t:=t) false i (fun j _ hj=>hA j (by omega)) h (by omega)
  rw [all_bad h h1,all_bad (by rw [hsk];omega) (by rw [hsk];exact bad_loc h h1 hks hkt (fun j _ hj=>hA j hj))]
 | case2 i h kd a b n h1 ih =>
  intro k hk hks hkt hA
  rw [all_word h h1] at hk
  have hg:=all_ge n k hk
  have hw:=one_word h h1
  have hsk:=skip_loc (t:=t) false i (fun j _ hj=>hA j (by omega)) h (by omega)
  rw [all_word h h1,all_word (by rw [hsk];omega) (by rw [hsk];exact word_loc h h1 (fun j _ hj=>hA j (by omega)) (by omega) (fun _=>Or.inl ⟨by omega,hA n (by omega)⟩)),
   ih k hk hks hkt hA,hsk,extract_loc (s:=s) (t:=t) (a:=a) (e:=b) (by omega) (by omega) (fun j _ hj=>hA j (by omega))]
 | case3 i h=>intro k hk;rw [all_end h] at hk;cases hk

/-- Up to a word's end. -/
theorem all_upto {s t:ByteArray} {N k kd a b:Nat} (h1:oneS s k = .word kd a b N) (hk:k<s.size) (hN:N≤t.size) (hA:∀j,j<N→bt t j=bt s j) (hE:N<t.size→innerN (bt t N)=false) (i:Nat) :
  ∀(A C:List Wd) (x:Wd),(allS s i).1=A++x::C→x.2.2=(k:Int)→∃C',(allS t i).1=A++x::C':=by
 have hw0:=one_word hk h1
 have hpos:∀(i:Nat) (A C:List Wd) (x:Wd),(allS s i).1=A++x::C→(i:Int)≤x.2.2:=fun i=>by
  induction i using allS.induct s with
  | case1 i h k0 h1=>intro A C x e;rw [all_bad h h1] at e;simp at e
  | case2 i h kd a b n h1 ih =>
   intro A C x e
   rw [all_word h h1] at e
   have hw:=one_word h h1
   have hg:=skip_ge s false i
   cases A with
   | nil=>injection e with e1 _;rw [←e1];simp;omega
   | cons y A=>injection e with _ e2;have:=ih A C x e2;omega
  | case3 i h=>intro A C x e;rw [all_end h] at e;simp at e
 induction i using allS.induct s with
 | case1 i h k0 h1=>intro A C x e;rw [all_bad h h1] at e;simp at e
 | case2 i h kd' a' b' n h1' ih =>
  intro A C x e hx
  rw [all_word h h1'] at e
  have hw:=one_word h h1'
  cases A with
  | nil =>
   injection e with e1 _
   rw [←e1] at hx
   have hsk0:skipS s false i=k:=by
    have hx':((skipS s false i:Nat):Int)=(k:Int):=hx
    omega
   rw [hsk0] at h1' h
   rw [h1] at h1'
   injection h1' with q1 q2 q3 q4
   subst q1 q2 q3 q4
   have hsk:=skip_loc (t:=t) false i (fun j _ hj=>hA j (by omega)) (by omega) (by omega)
   rw [hsk0] at hsk
   rw [all_word (by rw [hsk];omega) (by rw [hsk];exact word_loc hk h1 (fun j _ hj=>hA j hj) hN (fun hlt=>Or.inr (hE hlt))),hsk,extract_loc (s:=s) (t:=t) (a:=a) (e:=b) (by omega) (by omega) (fun j _ hj=>hA j (by omega))]
   rw [←e1,hsk0]
   exact ⟨_,rfl⟩
  | cons y A =>
   injection e with e1 e2
   have hge:=hpos n A C x e2
   have hnk:n≤k:=by omega
   obtain ⟨C',hC⟩:=ih A C x e2 hx
   have hsk:=skip_loc (t:=t) false i (fun j _ hj=>hA j (by omega)) h (by omega)
   rw [all_word (by rw [hsk];omega) (by rw [hsk];exact word_loc h h1' (fun j _ hj=>hA j (by omega)) (by omega) (fun _=>Or.inl ⟨by omega,hA n (by omega)⟩)),hC,hsk,extract_loc (s:=s) (t:=t) (a:=a') (e:=b') (by omega) (by omega) (fun j _ hj=>hA j (by omega)),e1]
   exact ⟨C',rfl⟩
 | case3 i h=>intro A C x e;rw [all_end h] at e;simp at e

/-- Each word stands in its text. -/
theorem all_one {s:ByteArray} (i:Nat):∀x∈(allS s i).1,∃(k kd a b n:Nat),k<s.size∧oneS s k = .word kd a b n∧x=((kd:Int),s.extract a b,(k:Int)):=by
 induction i using allS.induct s with
 | case1 i h k0 h1=>intro x hx;rw [all_bad h h1] at hx;simp at hx
 | case2 i h kd a b n h1 ih =>
  intro x hx
  rw [all_word h h1] at hx
  rcases List.mem_cons.1 hx with rfl | hx
  ·exact ⟨_,kd,a,b,n,h,h1,rfl⟩
  ·exact ih x hx
 | case3 i h=>intro x hx;rw [all_end h] at hx;simp at hx

/-- A word as it is written. -/
def wr (w:Wd):ByteArray:=if w.1=2 then quo w.2.1 else w.2.1
theorem extract_bt' {s:ByteArray} {a e i:Nat} (_:e≤s.size) (h:a+i<e):bt (s.extract a e) i=bt s (a+i):=by
 simp only [bt_list]
 rw [show (s.extract a e).data.toList=(s.data.toList.drop a).take (e-a) by simp [ByteArray.data_extract,List.extract_eq_take_drop]]
 simp only [List.getD_eq_getElem?_getD,List.getElem?_take,List.getElem?_drop]
 rw [if_pos (by omega)]
theorem bt_ext {a b:ByteArray} (hs:a.size=b.size) (h:∀i,i<a.size→bt a i=bt b i):a=b:=by
 apply bs_ext
 have la:a.data.toList.length=a.size:=Array.length_toList
 have lb:b.data.toList.length=b.size:=Array.length_toList
 refine List.ext_getElem (by omega) fun i h1 h2=>?_
 have h3:=h i (by omega)
 simp only [bt_list,List.getD_eq_getElem?_getD,List.getElem?_eq_getElem h1,List.getElem?_eq_getElem h2,Option.getD_some] at h3
 exact UInt8.toNat_inj.1 h3
theorem wr_extract {s:ByteArray} {k kd a b n:Nat} (hk:k<s.size) (h:oneS s k = .word kd a b n):wr ((kd:Int),s.extract a b,(k:Int))=s.extract k n:=by
 have hw:=one_word hk h
 unfold oneS at h
 have simple:∀{kd' a' b' n':Nat},One.word kd' a' b' n'=One.word kd a b n→kd'≠2→a'=k→b'=n'→wr ((kd:Int),s.extract a b,(k:Int))=s.extract k n:=fun {kd' a' b' n'} e h2 ha hb=>by
  injection e with e1 e2 e3 e4
  subst e1 e2 e3 e4 ha hb
  unfold wr;rw [if_neg (by simp;omega)]
 split at h
 ·exact simple h (by omega) rfl rfl
 split at h
 ·split at h
  ·exact simple h (by omega) rfl rfl
  ·cases h
 split at h
 ·rename_i h39
  split at h
  ·rename_i hc
   injection h with e1 e2 e3 e4
   subst e1 e2 e3 e4
   obtain ⟨c1,c2,c3⟩:=hc
   have hwr:wr (((2:Nat):Int),s.extract (k+1) (runS plainN s (k+1) 16),(k:Int))=quo (s.extract (k+1) (runS plainN s (k+1) 16)):=if_pos rfl
   rw [hwr]
   have hsz:(s.extract (k+1) (runS plainN s (k+1) 16)).size=runS plainN s (k+1) 16-(k+1):=extract_size (by omega) (by omega)
   refine bt_ext (by rw [quo_size,hsz,extract_size (by omega) (by omega)];omega) fun i hi=>?_
   rw [quo_size,hsz] at hi
   rw [extract_bt' (by omega) (by omega)]
   rcases Nat.eq_zero_or_pos i with h0 | h0
   ·subst h0;rw [quo_0,Nat.add_zero,h39]
   ·rcases Nat.lt_or_ge i (runS plainN s (k+1) 16-k) with h2 | h2
    ·have:=quo_in (s:=s.extract (k+1) (runS plainN s (k+1) 16)) (i:=i-1) (by rw [hsz];omega)
     rw [show i-1+1=i by omega] at this
     rw [this,extract_bt' (by omega) (by omega)]
     congr 1;omega
    ·have he:=quo_end (s.extract (k+1) (runS plainN s (k+1) 16))
     rw [hsz,show runS plainN s (k+1) 16-(k+1)+1=i by omega] at he
     rw [he,show k+i=runS plainN s (k+1) 16 by omega,c3]
  ·cases h
 split at h
 ·split at h
  ·cases h
  ·exact simple h (by omega) rfl rfl
 ·cases h

end Go.Px.Scan

/-
  What is told is plain.
-/
namespace Go.Px.Spec
open Go.Px Go.Px.Scan
end Go.Px.Spec
namespace Go.Proofs.YtckbgeedlobfaaaDoor
open Go.Px Go.Px.Scan Go.Px.Spec Go.RowKit

end Go.Proofs.YtckbgeedlobfaaaDoor

/-
  Where a bad place may be.
-/
namespace Go.Proofs.YtckbgeedlobfaaaDoor
open Go.Px Go.Px.Scan Go.Px.Spec Go.RowKit
theorem big_words {s:ByteArray} (h:8192<s.size):wordsS s=([],some 8192):=by unfold wordsS;rw [if_pos h]
theorem small_words {s:ByteArray} (h:¬8192<s.size):wordsS s=allS s 0:=by unfold wordsS;rw [if_neg h]
theorem all_lt (s:ByteArray) (i:Nat):∀x∈(allS s i).1,x.2.2<(s.size:Int):=by
 induction i using allS.induct s with
 | case1 i h k h1=>intro x hx;rw [all_bad h h1] at hx;simp at hx
 | case2 i h kd a b n h1 ih =>
  intro x hx
  rw [all_word h h1] at hx
  rcases List.mem_cons.1 hx with rfl | hx
  ·simpa using h
  ·exact ih x hx
 | case3 i h=>intro x hx;rw [all_end h] at hx;simp at hx
end Go.Proofs.YtckbgeedlobfaaaDoor

/-
  Bad places of texts that begin alike.
-/
namespace Go.Proofs.YtckbgeedlobfaaaDoor
open Go.Px Go.Px.Scan Go.Px.Spec Go.RowKit
theorem go_split {l:List Wd}:∀{m m':Mc} {x:Wd} {C:List Wd},goM m l=(m',x::C)→∃A,l=A++x::C∧goM m A=(m',[])∧stepM m' x=none:=by
 induction l with
 | nil=>intro m m' x C h;simp [goM] at h
 | cons w l ih =>
  intro m m' x C h
  cases hs:stepM m w with
  | none=>rw [goM_stuck hs] at h;injection h with h1 h2;injection h2 with h2 h3;subst h1 h2 h3;exact ⟨[],rfl,rfl,hs⟩
  | some m1 =>
   rw [goM_step hs] at h
   obtain ⟨A,h1,h2,h3⟩:=ih h
   exact ⟨w::A,by rw [h1];rfl,by rw [goM_step hs];exact h2,h3⟩
theorem go_app {A:List Wd}:∀{m m':Mc} (l:List Wd),goM m A=(m',[])→goM m (A++l)=goM m' l:=by
 induction A with
 | nil=>intro m m' l h;cases h;rfl
 | cons w A ih =>
  intro m m' l h
  cases hs:stepM m w with
  | none=>rw [goM_stuck hs] at h;cases h
  | some m1 =>
   rw [goM_step hs] at h
   rw [List.cons_append,goM_step hs]
   exact ih l h
theorem bad_stuck {s:ByteArray} {m:Mc} {x:Wd} {C:List Wd} (h:goM m0 (wordsS s).1=(m,x::C)):badS s=x.2.2:=by unfold badS;rw [h]
theorem bad_big {s:ByteArray} (h:8192<s.size):badS s=8192:=by unfold badS;rw [big_words h];rfl

/-- Words stand ahead of the scanner's bad place. -/
theorem all_lt_bad {s:ByteArray} (i:Nat):∀k,(allS s i).2=some k→∀x∈(allS s i).1,x.2.2<(k:Int):=by
 induction i using allS.induct s with
 | case1 i h k0 h1=>intro k _ x hx;rw [all_bad h h1] at hx;simp at hx
 | case2 i h kd a b n h1 ih =>
  intro k hk x hx
  rw [all_word h h1] at hk hx
  have hg:=all_ge n k hk
  have hw:=one_word h h1
  rcases List.mem_cons.1 hx with rfl | hx
  ·simp;omega
  ·exact ih k hk x hx
 | case3 i h=>intro k hk;rw [all_end h] at hk;cases hk

/-- A word that can't stand: whatever is behind it. -/
theorem bad_word {s:ByteArray} (hs:s.size≤8192) {x:Wd} (hx:x∈(wordsS s).1) (hk:x.2.2=badS s):∃k N:Nat,badS s=k∧k<N∧N≤s.size∧wr x=s.extract k N ∧
  ∀t:ByteArray,t.size≤8192→N≤t.size→(∀j,j<N→bt t j=bt s j)→(N<t.size→innerN (bt t N)=false)→badS t=k:=by
 have w1:wordsS s=allS s 0:=small_words (by omega)
 rw [w1] at hx
 obtain ⟨k,kd,a,b,n,hk1,hk2,rfl⟩:=all_one 0 x hx
 have hw:=one_word hk1 hk2
 have hkb:badS s=k:=hk.symm
 refine ⟨k,n,hkb,hw.1,hw.2.1,wr_extract hk1 hk2,fun t ht hN hA hE=>?_⟩
 have w2:wordsS t=allS t 0:=small_words (by omega)
 have hlt:=all_lt s 0 _ hx
 cases hg:goM m0 (allS s 0).1 with
 | mk m l =>
  cases l with
  | cons y C =>
   have hy:badS s=y.2.2:=bad_stuck (by rw [w1];exact hg)
   obtain ⟨A,h1,h2,h3⟩:=go_split hg
   obtain ⟨C',hC⟩:=all_upto hk2 hk1 hN hA hE 0 A C y h1 (by rw [←hy,hkb])
   rw [bad_stuck (s:=t) (m:=m) (x:=y) (C:=C') (by rw [w2,hC,go_app _ h2,goM_stuck h3]),←hy,hkb]
  | nil =>
   exfalso
   unfold badS at hkb
   rw [w1,hg] at hkb
   simp only at hkb
   cases hb:(allS s 0).2 with
   | some k' =>
    rw [hb] at hkb
    have:=all_lt_bad 0 k' hb _ hx
    simp at this hkb
    omega
   | none =>
    rw [hb] at hkb
    simp only at hkb hlt
    split at hkb <;> simp at hlt <;> omega

/-- No word there: the scanner's bad place, or the end, or none. -/
theorem bad_no {s:ByteArray} (hs:s.size≤8192) (hx:∀x∈(wordsS s).1,x.2.2≠badS s):(∃k,(wordsS s).2=some k∧badS s=k∧k≤s.size∧(k<s.size→∀t:ByteArray,t.size≤8192→k<t.size→(∀j,j≤k→bt t j=bt s j)→badS t=k))∨((wordsS s).2=none∧(badS s = -1∨badS s=s.size)):=by
 have w1:wordsS s=allS s 0:=small_words (by omega)
 cases hg:goM m0 (wordsS s).1 with
 | mk m l =>
  cases l with
  | cons y C =>
   have hy:badS s=y.2.2:=bad_stuck hg
   have:=goM_sub (wordsS s).1 m0 y (by rw [hg];simp)
   exact absurd hy.symm (hx y this)
  | nil =>
   cases hb:(wordsS s).2 with
   | some k =>
    have hbd:badS s=k:=by unfold badS;rw [hg];simp only [hb]
    have hk:=all_ge 0 k (by rw [←w1];exact hb)
    refine .inl ⟨k,rfl,hbd,hk.2,fun hlt t ht hkt hA=>?_⟩
    have w2:wordsS t=allS t 0:=small_words (by omega)
    have e:=all_bad_eq 0 k (by rw [←w1];exact hb) hlt hkt hA
    unfold badS
    rw [w2,e,←w1,hg];simp only [hb]
   | none =>
    right
    refine ⟨rfl,?_⟩
    unfold badS
    rw [hg];simp only [hb]
    split
    ·left;rfl
    ·right;rfl
end Go.Proofs.YtckbgeedlobfaaaDoor

/-
  SpecLong; a word as it is written.
-/
namespace Go.Proofs.YtckbgeedlobfaaaDoor
open Go.Px Go.Px.Scan Go.Px.Spec Go.RowKit

attribute [-go_sem] Builtin.append_ law04_written.b1_1 law04_written.b1_2

theorem written_ct {w:World} {x:Wd} (hx:x.2.1.size≤100):Ct Tryd.prog law04_written.id #[wdV x] w fun v w'=>v = .string (wr x)∧Chg noB w w':=by
 refine law04_written.ct fun R hR=>?_
 unfold law04_written.run
 rw [show wdV x = .agg #[.int .i64 x.1,.string x.2.1,.int .i64 x.2.2] from rfl]
 have s1:=(St.refl noB w).alloc #[.int .i64 x.1,.string x.2.1,.int .i64 x.2.2] 46
 simp -dsimp [go_sem]
 generalize w.alloc (.cells _ 46)=w1 at s1 ⊢
 have k0:=(s1.box 0 rfl).1
 simp [boxAt] at k0
 refine SPL_intro (fun h=>?_) (fun h=>?_) <;> simp at h
 ·unfold law04_written.b1_1
  have e1:¬9223372036854775807<1+x.2.1.size:=by omega
  have e2:¬9223372036854775807<1+x.2.1.size+1:=by omega
  have z1:(⟨#[39]⟩:ByteArray).size=1:=rfl
  simp -dsimp [go_sem,k0,e1,e2,z1,ByteArray.size_append]
  refine hR _ _ ⟨?_,s1.chg⟩
  unfold wr quo;rw [if_pos h]
 ·unfold law04_written.b1_2
  simp -dsimp [go_sem,k0]
  refine hR _ _ ⟨?_,s1.chg⟩
  unfold wr;rw [if_neg h]

end Go.Proofs.YtckbgeedlobfaaaDoor
